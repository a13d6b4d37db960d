/- A mailbox's Peek and All. -/
import Derived.Test.YtoipepppdaalpaaN3
import Derived.Test.YtoipepppdaalpaaM6
import Derived.Maps.AppendAt
namespace Go.Proofs.Ytoipepppdaalpaa
open Go.RowKit
attribute [local go_sem] run_store_complex

theorem TmIn.below {w w' : World} {b o : Nat} {k n : Int} (h : TmIn w b o k n) (hb : Below w.heap.size w w') (hlt : b < w.heap.size) : TmIn w' b o k n := h.block (hb.block b hlt)
theorem owns_later {w w' : World} {base n size : Nat} {e : TypeId} {v : Value} {xs : List Value} (h : w.ownsRow base e size v n xs) (hb : Below w.heap.size w w') : w'.ownsRow base e size v n xs := by
  obtain ⟨h1, h2⟩ := h
  refine ⟨h1, h2.imp id fun ⟨g, cap, cur, hv, hg, hh, r⟩ => ⟨g, cap, cur, hv, hg, ?_, r⟩⟩
  rw [hb.block g (Array.getElem?_eq_some_iff.1 hh).1, hh]
theorem src_tm (w : World) (n : Int) : Src Try.prog 9 33 (.slice (some ⟨w.heap.size, 0, none⟩) 1 1) 1 (tmC 1 n).toList (w.alloc (.cells (tmC 1 n) 35)) := by
  refine Src.ofSlice _ Try.underlying33 _ _ _ _ rfl (fun j u h => ?_) (by simp [Value.oneCell'])
  simp only [Addr.add_lit, World.cell?, heap_new, Nat.zero_add]
  simpa using h
theorem all_below {w w5 w6 : World} {v : Value} {n : Nat} {xs : List Value} {o : Obj} (hb : Below w.heap.size w w5) (ho : w5.ownsRow w.heap.size 35 9 v n xs) (hg : (w5.alloc o).grownBy w6 v.ownBlock) : Below w.heap.size w w6 :=
  (hb.alloc hb.size o).trans ((Turn.of_grownBy hg).below (by have := hb.size; simp; omega) (fun i e => (ho.lt i e).1))
def allRel (w : World) (ms : List Int) (t3 t14 : Value) (wr : World) : Prop :=
  ∃ k : Nat, k ≤ ms.length ∧ t14 = .int .i64 k ∧ Below w.heap.size w wr ∧ ∃ a c, t3 = .slice a k c ∧ wr.ownsRow w.heap.size 35 9 t3 k (flat (ms.take k))
set_option maxRecDepth 100000 in
set_option maxHeartbeats 2000000 in
theorem all_any (B p : Nat) (v : Value) (ms : List Int) (over : Nat) (w : World) (h : BoxAt B w p v ms over) (hl : ms.length ≤ 256) (hr : ∀ n ∈ ms, 0 ≤ n ∧ n ≤ 1000) :
    Calls Try.prog 11 #[.pointer (some ⟨p, 0, none⟩)] w fun e w' => Below w.heap.size w w' ∧ ∃ a c, e = .returned (.slice a ms.length c) ∧ w'.ownsRow w.heap.size 35 9 (.slice a ms.length c) ms.length (flat ms) := by
  obtain ⟨i0, hi, hz0, hz1, hz2⟩ := info_parts infoT
  have H1 := Lib.hid hi
  have H2 := Lib.hid hz0
  have H3 := Lib.hid hz1
  have H4 := Lib.hid hz2
  clear hi hz0 hz1 hz2
  have HX := Lib.hid h
  have HRg := Lib.hid hr
  have h0 := h.c0
  have hpl := h.lt
  obtain ⟨a, c, rfl⟩ := h.form
  clear h hr
  go_enter Try.func11, Try.ntmps11
  go_wp2_with fail
  clear h0
  go_loopw [3, 14] (fun t3 t14 wr => allRel w ms t3 t14 wr) (fun _ t14 _ => ms.length - (intOf t14).toNat)
  case atStart => exact ⟨0, Nat.zero_le _, rfl, Below.refl _ _, none, 0, rfl, World.ownsRow_nil _ _ _ _⟩
  case round =>
    obtain ⟨k, hk, rfl, hb, a3, c3, rfl, ho⟩ := hrel
    have HB := Lib.hid hb
    have HO := Lib.hid ho
    clear hb ho
    by_cases hlt : k < ms.length
    · obtain ⟨g, rfl, hgl⟩ : ∃ g, a = some ⟨g, 0, none⟩ ∧ g < w.heap.size := by
        rcases HX.out.owns.2 with ⟨_, h0⟩ | ⟨g, cap, cur, hv, _, hh, _⟩
        · omega
        · injection hv with e _ _
          exact ⟨g, e, lt_of_block hh⟩
      have hkk := TmIn.block (owns_term HX.out.owns hlt) (HB.out.block g hgl)
      have hrn := HRg.out _ (List.getElem_mem hlt)
      have HF := Lib.hid (show flat (ms.take (k + 1)) = flat (ms.take k) ++ (tmC 1 ms[k]).toList by rw [List.take_succ_eq_append_getElem hlt, flat_snoc])
      have hgw : g < wr.heap.size := by have := HB.out.size; omega
      generalize ms[k] = n at *
      obtain ⟨n0, n1⟩ := hrn
      obtain ⟨k0, k1, k2, k3, k4, k5, k6, k7, k8⟩ := hkk
      go_wp2_with fail
      refine (copy_any n _ n0 n1).mono ?_
      rintro e w5 ⟨rfl, hb5⟩
      have HB5 := Lib.hid ((HB.out.trans (((Below.refl wr.heap.size wr).alloc (Nat.le_refl _) (.cells (tmC 1 n) 35)).mono HB.out.size)).trans (hb5.mono (by have := HB.out.size; simp; omega)))
      have HO5 := Lib.hid (owns_later HO.out (((Below.refl wr.heap.size wr).alloc (Nat.le_refl _) (.cells (tmC 1 n) 35)).trans (hb5.mono (by simp))))
      have hsz5 := HB5.out.size
      clear hb5 k0 k1 k2 k3 k4 k5 k6 k7 k8
      go_wp2_with (at_builtin; refine wpList_app _ rfl (.tmp 18) (.tmp 21) 33 33 rfl w.heap.size 35 i0 (tm 0 0) 9 120 Try.underlying33 H1.out H2.out H3.out H4.out rfl (by decide) _ _ _ rfl (HO5.out.alloc _) _ 1 (tmC 1 n).toList rfl (src_tm w5 n) (by unfold maxLen; omega) (by omega) (by simp; omega) ?_; intro a6 c6 w6 ho6 hg6 hn6 hl6; have HO6 := Lib.hid ho6; have HB6 := Lib.hid (all_below HB5.out HO5.out hg6); clear ho6 hg6 hn6 hl6)
      go_roundw
      case rel => exact ⟨k + 1, by omega, by go_num, HB6.out, a6, c6, rfl, by rw [HF.out]; exact HO6.out⟩
      case measure => simp [intOf]; omega
    · obtain rfl : k = ms.length := by omega
      go_wp2_with fail
      go_ret
      exact ⟨HB.out, a3, c3, rfl, by have := HO.out; rwa [List.take_length] at this⟩
end Go.Proofs.Ytoipepppdaalpaa
