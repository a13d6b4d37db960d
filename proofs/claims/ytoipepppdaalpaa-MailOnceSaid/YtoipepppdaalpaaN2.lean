/- A mailbox's Put. -/
import Derived.Test.YtoipepppdaalpaaM9
import Derived.Test.YtoipepppdaalpaaN1
import Derived.Deep.RegionHeld3
namespace Go.Proofs.Ytoipepppdaalpaa
open Go.RowKit
attribute [local go_sem] run_store_complex

theorem put_keep1 {w w3 : World} {b : Nat} {n : Int} (hk : TmAt w b 1 n) (hb : Below w.heap.size w w3) (hs : b < w.heap.size) : TmAt w3 b 1 n := TmAt.block hk (hb.block b hs)
theorem put_keep2 {w w3 w4 : World} {b : Nat} {n : Int} {S : Nat → Prop} (hk : TmAt w b 1 n) (hb : Below w.heap.size w w3) (hs : b < w.heap.size) (ht : Turn S w3 w4) (hn : ¬ S b) : TmAt w4 b 1 n :=
  TmAt.block (put_keep1 hk hb hs) (ht.block b (Nat.lt_of_lt_of_le hs hb.size) hn)
set_option maxRecDepth 100000 in
set_option maxHeartbeats 1000000 in
theorem put_any (B p : Nat) (v : Value) (ms : List Int) (over : Nat) (n : Int) (w : World) (hB : B ≤ w.heap.size) (h : BoxAt B w p v ms over) (hlen : ms.length < 256) (n0 : 0 ≤ n) (n1 : n ≤ 1000) :
    Calls Try.prog 6 #[.pointer (some ⟨p, 0, none⟩), tm 1 n] w fun e w' => e = .returned (.int .i64 0) ∧ ∃ v', BoxAt B w' p v' (ms ++ [n]) over ∧ Turn (fun i => i = p ∨ v.ownBlock = some i) w w' := by
  have hx1 := TmAt.of_block (heap_new w (.cells (tmC 1 n) 35))
  have hbx := put_below1 h (.cells (tmC 1 n) 35)
  obtain ⟨a, c, rfl⟩ := h.form
  have HT := Lib.hid (Turn.alloc (fun i => i = p ∨ (Value.slice a ms.length c).ownBlock = some i) w (.cells (tmC 1 n) 35))
  have hsz : w.heap.size < (w.alloc (.cells (tmC 1 n) 35)).heap.size := by simp
  have hvb : ∀ g, (Value.slice a ms.length c).ownBlock = some g → g < w.heap.size := fun g e => (h.owns.lt g e).2
  have hpb := h.lt
  clear h
  go_enter Try.func6, Try.ntmps6
  go_wp2_with fail
  generalize w.alloc (.cells (tmC 1 n) 35) = w0 at *
  generalize hbe : w.heap.size = b at *
  have HVB := Lib.hid hvb
  clear hvb
  have HBE := Lib.hid hbe
  clear hbe
  have HX := Lib.hid hbx
  have HK := Lib.hid hx1
  clear hbx hx1
  refine (check_any n _ n0 n1).mono ?_
  rintro e w1 ⟨rfl, hb1⟩
  have hx1 := HX.out.below hb1
  have hk1 := TmAt.block HK.out (hb1.block b hsz)
  have HT1 := Lib.hid (HT.out.trans (Turn.of_below hb1))
  have hs1 : b < w1.heap.size := by have := hb1.size; omega
  have h0 := hx1.c0
  have HX1 := Lib.hid hx1
  have HK1 := Lib.hid hk1
  have hne : (ms.length : Int) < 256 := by omega
  have hne2 : ((ms.length : Int) == 256) = false := by simp; omega
  clear hx1 hk1 hb1 HX HK HT
  go_wp2_with fail
  obtain ⟨k0, k1, k2, k3, k4, k5, k6, k7, k8⟩ := HK1.out
  have HKd : Hid (TmAt w1.drew b 1 n) := HK1.out
  have HXd : Hid (BoxAt B w1.drew p (.slice a ms.length c) ms over) := HX1.out.drewN 1
  have HTd : Hid (Turn (fun i => i = p ∨ (Value.slice a ms.length c).ownBlock = some i) w w1.drew) := HT1.out.drew
  have HSd : Hid (b < w1.drew.heap.size) := hs1
  have HBd : Hid (B ≤ b) := hB
  have hbne : ¬ (b = p ∨ (Value.slice a ms.length c).ownBlock = some b) := by
    rintro (e | e)
    · omega
    · have := HVB.out b e; omega
  clear h0 HX1 HT1 HK1
  go_region_held3 (fun w' => w'.cell? ⟨b, 0, none⟩ = some (.int .i64 1) ∧ w'.cell? ⟨b, 1, none⟩ = some (.int .i64 n) ∧ w'.cell? ⟨b, 2, none⟩ = some (.complex .f64 0 0) ∧ w'.cell? ⟨b, 3, none⟩ = some (.string ⟨#[]⟩) ∧ w'.cell? ⟨b, 4, none⟩ = some (.int .i64 0) ∧ w'.cell? ⟨b, 5, none⟩ = some (.int .u32 0) ∧ w'.cell? ⟨b, 6, none⟩ = some (.int .u64 0) ∧ w'.cell? ⟨b, 7, none⟩ = some (.slice none 0 0) ∧ w'.cell? ⟨b, 8, none⟩ = some (.slice none 0 0))
    (first
      | exact put_keep2 HKd.out hb3 HSd.out ht4 hbne
      | exact put_keep1 HKd.out hb3 HSd.out
      | go_keep)
    (first
      | (go_at_call 16; refine (copy_any n _ n0 n1).mono ?_; rintro e w3 ⟨rfl, hb3⟩; have HX3 := Lib.hid (HXd.out.below hb3); have HT3 := Lib.hid (HTd.out.trans (Turn.of_below (S := fun i => i = p ∨ (Value.slice a ms.length c).ownBlock = some i) hb3)); have HB3 := Lib.hid (Nat.le_trans HBd.out (Nat.le_trans (Nat.le_of_lt HSd.out) hb3.size)))
      | (go_at_call 15; refine (qput_any B p _ ms over n _ HB3.out HX3.out hlen).mono ?_; rintro e w4 ⟨rfl, v4, hx4, ht4⟩))
  have HX4 := Lib.hid hx4
  have HT4 := Lib.hid (HT3.out.trans ht4)
  clear hx4 ht4
  go_wp2_with fail
  go_ret
  exact ⟨rfl, v4, HX4.out, HT4.out⟩
end Go.Proofs.Ytoipepppdaalpaa
