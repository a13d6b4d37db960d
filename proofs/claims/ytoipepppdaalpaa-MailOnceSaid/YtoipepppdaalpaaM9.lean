/- A message more: the queue's put: the walk. -/
import Derived.Test.YtoipepppdaalpaaM8
namespace Go.Proofs.Ytoipepppdaalpaa
open Go.RowKit
attribute [local go_sem] run_store_complex

set_option maxRecDepth 100000 in
set_option maxHeartbeats 4000000 in
theorem qput_any (B p : Nat) (v : Value) (ms : List Int) (over : Nat) (n : Int) (w : World) (hB : B ≤ w.heap.size) (h : BoxAt B w p v ms over) (hlen : ms.length < 256) :
    Calls Try.prog 15 #[.pointer (some ⟨p, 0, none⟩), tm 1 n] w fun e w' => e = .returned (.tuple #[]) ∧ ∃ v', BoxAt B w' p v' (ms ++ [n]) over ∧ Turn (fun i => i = p ∨ v.ownBlock = some i) w w' := by
  obtain ⟨i0, hi, hz0, hz1, hz2⟩ := info_parts infoT
  have H1 := Lib.hid hi
  have H2 := Lib.hid hz0
  have H3 := Lib.hid hz1
  have H4 := Lib.hid hz2
  clear hi hz0 hz1 hz2
  have hx1 := TmAt.of_block (heap_new w (.cells (tmC 1 n) 35))
  have hbx := put_below1 h (.cells (tmC 1 n) 35)
  have hlp := h.lt
  obtain ⟨a, c, rfl⟩ := h.form
  have HT := Lib.hid (Turn.alloc (fun i => i = p ∨ (Value.slice a ms.length c).ownBlock = some i) w (.cells (tmC 1 n) 35))
  have hsz : w.heap.size < (w.alloc (.cells (tmC 1 n) 35)).heap.size := by simp
  go_enter Try.func15, Try.ntmps15
  go_wp2_with fail
  clear h
  generalize w.alloc (.cells (tmC 1 n) 35) = w0 at *
  generalize hbe : w.heap.size = b at *
  have HBE := Lib.hid hbe
  clear hbe
  have hp0 := hbx.c0
  have hpf := hbx.fz 0
  have HX := Lib.hid hbx
  clear hbx
  obtain ⟨k0, k1, k2, k3, k4, k5, k6, k7, k8⟩ := hx1
  have hpw : p < w0.heap.size := by omega
  have hli0 : (ms.length : Int) < (ms.length : Int) + 1 := by omega
  have hli1 : (0 : Int) ≤ (ms.length : Int) := by omega
  have hli2 : ms.length < ms.length + 1 := by omega
  have XB : Hid (BoxAt B (w0.alloc (.cells (tmC 0 0) 35)).drew p (.slice a ms.length c) ms over) := (put_below1 HX.out (.cells (tmC 0 0) 35)).below (Below.refl _ _).drew
  have XZ := Lib.hid (zero_there w0)
  have XS : Hid ((w0.alloc (.cells (tmC 0 0) 35)).drew.heap.size = w0.heap.size + 1) := by show (w0.alloc (.cells (tmC 0 0) 35)).heap.size = _; simp
  have XBs := Lib.hid (show B ≤ (w0.alloc (.cells (tmC 0 0) 35)).drew.heap.size by rw [XS.out]; omega)
  have X63 := Lib.hid (show ms.length + 1 ≤ maxLen by unfold maxLen; omega)
  have Xby := Lib.hid (show (ms.length + 1) * 120 ≤ 140737488355328 by omega)
  go_region_law (first
    | (refine step_append_lies _ (by rfl) (.tmp 7) (.tmp 10) 33 (by rfl) B 35 i0 (tm 0 0) 9 120 Try.underlying33 H1.out H2.out H3.out H4.out rfl (by decide) (.slice a ms.length c) ms.length (flat ms) (by rfl) XB.out.owns ⟨w0.heap.size, 0, none⟩ 1 1 zC (by rfl) rfl XZ.out zC_one (by decide) X63.out Xby.out XBs.out (w0.heap.size + 1) XS.out ?_; intro g cap w1 hown hgrow hat hlt; obtain ⟨m0, mf, mp, mpf, hgp, hpb⟩ := put_mid XB.out hown hgrow hat XS.out; obtain ⟨s0, s1, s2, s3, s4, s5, s6, s7, s8⟩ := ZAt.of m0; have g0 : w1.frozen? ⟨g, ms.length * 9, none⟩ = false := mf 0; have HO := Lib.hid hown; have HG := Lib.hid hgrow; have HPB := Lib.hid hpb; have HGW := Lib.hid (hat.imp id (fun (e : g = w0.heap.size + 1) => (by omega : b ≤ g))); clear m0 hown hgrow hat hpb))
  all_goals
    go_end0
    have R1 := put_fin1 (n := n) HX.out HBE.out HT.out (by rw [HBE.out]; exact HGW.out) HO.out HG.out HPB.out hgp
    have R2 := put_fin2 (n := n) HX.out HBE.out HT.out (by rw [HBE.out]; exact HGW.out) HO.out HG.out HPB.out hgp
    first
    | (with_reducible exact ⟨rfl, _, R1⟩)
    | (with_reducible exact ⟨rfl, _, R2⟩)
end Go.Proofs.Ytoipepppdaalpaa
