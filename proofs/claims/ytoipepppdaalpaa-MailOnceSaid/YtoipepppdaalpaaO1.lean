/- The chapter's example: alive. -/
import Derived.Test.YtoipepppdaalpaaN7
import Derived.Test.YtoipepppdaalpaaN9
namespace Go.Proofs.Ytoipepppdaalpaa
open Go.RowKit
attribute [local go_sem] run_store_complex

theorem exErr : errO [1, 2] 0 = 0 := rfl
theorem exNext : nextO [1, 2] 0 = 1 := rfl
set_option maxRecDepth 100000 in
set_option maxHeartbeats 4000000 in
theorem alive_any (w : World) : Calls Try.prog 4 #[] w (RB w (.bool true)) := by
  go_enter Try.func4, Try.ntmps4
  go_wp2_with fail
  refine (new_any w).mono ?_
  rintro e w2 ⟨rfl, hw2⟩
  have HX2 : Hid (BoxAt w.heap.size w2 w.heap.size (.slice none 0 0) [] 0) := by rw [← hw2]; exact BoxAt.new w
  have HB2 : Hid (Below w.heap.size w w2) := by rw [← hw2]; exact (Below.refl _ w).alloc (Nat.le_refl _) _
  clear hw2
  generalize hpe : w.heap.size = p at *
  have HPE := Lib.hid hpe
  clear hpe
  go_wp2_with fail
  refine (number_any 1 w2).mono ?_
  rintro e w3 ⟨rfl, hb3⟩
  have HX3 := Lib.hid (HX2.out.below hb3)
  have HB3 := Lib.hid (HB2.out.trans (hb3.mono (by have := HB2.out.size; have := HPE.out; omega)))
  clear hb3
  go_wp2_with fail
  refine (put_any p p _ [] 0 1 w3 (Nat.le_of_lt HX3.out.lt) HX3.out (by decide) (by decide) (by decide)).mono ?_
  rintro e w4 ⟨rfl, v4, hx4, ht4⟩
  have HX4 := Lib.hid hx4
  have HB4 := Lib.hid (HB3.out.trans (ht4.below (Nat.le_of_lt HX3.out.lt) (fun i e => e.elim (fun e => Nat.le_of_eq e.symm) (fun e => (HX3.out.owns.lt i e).1))))
  clear hx4 ht4
  go_wp2_with fail
  refine (number_any 2 w4).mono ?_
  rintro e w5 ⟨rfl, hb5⟩
  have HX5 := Lib.hid (HX4.out.below hb5)
  have HB5 := Lib.hid (HB4.out.trans (hb5.mono (Nat.le_of_lt HX4.out.lt)))
  clear hb5
  go_wp2_with fail
  refine (put_any p p v4 [1] 0 2 w5 (Nat.le_of_lt HX5.out.lt) HX5.out (by decide) (by decide) (by decide)).mono ?_
  rintro e w6 ⟨rfl, v6, hx6, ht6⟩
  have HX6 := Lib.hid hx6
  have HB6 := Lib.hid (HB5.out.trans (ht6.below (Nat.le_of_lt HX5.out.lt) (fun i e => e.elim (fun e => Nat.le_of_eq e.symm) (fun e => (HX5.out.owns.lt i e).1))))
  clear hx6 ht6
  go_wp2_with fail
  refine (next_any p p v6 [1, 2] 0 w6 HX6.out (by decide)).mono ?_
  rintro e w7 ⟨rfl, hx7, ht7⟩
  rw [exNext] at hx7
  rw [exErr]
  have HX7 := Lib.hid hx7
  have HB7 := Lib.hid (HB6.out.trans (ht7.below (Nat.le_of_lt HX6.out.lt) (fun i e => Nat.le_of_eq e.symm)))
  clear hx7 ht7
  go_wp2_with fail
  refine (btake_yes p p v6 [1, 2] 1 w7 (Nat.le_of_lt HX7.out.lt) HX7.out (by decide) (by decide)).mono ?_
  rintro e w8 ⟨rfl, v8, hx8, ht8, -⟩
  have HX8 : Hid (BoxAt p w8 p v8 [1] 0) := hx8
  have HB8 := Lib.hid (HB7.out.trans (ht8.below (Nat.le_of_lt HX7.out.lt) (fun i e => Nat.le_of_eq e.symm)))
  have hp8 : p < w8.heap.size := hx8.lt
  clear hx8 ht8
  go_wp2_with fail
  have hT1 := TmAt.of_block (heap_new w8 (.cells (tmC 1 2) 35))
  have HX9 := Lib.hid (HX8.out.below ((Below.refl _ w8).alloc (Nat.le_refl _) (.cells (tmC 1 2) 35)))
  have HB9 := Lib.hid (HB8.out.alloc (Nat.le_of_lt hp8) (.cells (tmC 1 2) 35))
  have hs9 : w8.heap.size < (w8.alloc (.cells (tmC 1 2) 35)).heap.size := by simp
  refine (peek_any p p v8 [1] 0 _ HX9.out (by decide) (by decide) (by decide)).mono ?_
  rintro e w10 ⟨rfl, hb10⟩
  have hk := hT1.2.1
  have hk10 : w10.cell? ⟨w8.heap.size, 1, none⟩ = some (.int .i64 2) := (hb10.cell (p := ⟨w8.heap.size, 1, none⟩) hs9).trans hk
  have hz10 : w8.heap.size < w10.heap.size := by have := hb10.size; omega
  have HX10 := Lib.hid (HX9.out.below hb10)
  have HB10 := Lib.hid (HB9.out.trans (hb10.mono (by omega)))
  clear hb10 hT1 hk hs9
  generalize w8.heap.size = t8 at *
  go_wp2_with fail
  refine (len_any p p v8 [1] 0 _ (HX10.out.below ((Below.refl _ _).alloc (Nat.le_refl _) _))).mono ?_
  rintro e w11 ⟨rfl, hw⟩
  subst hw
  go_wp2_with fail
  go_ret
  exact ⟨rfl, by rw [HPE.out]; exact HB10.out.alloc (by omega) _⟩
theorem once_walk (nn : Nat) (hn : nn < 256) (v : Value) (zs : List Int) (w : World) (hv : Sl w v (zs.map (Value.int .u8))) (hz : ∀ z ∈ zs, 0 ≤ z ∧ z ≤ 255) :
    Calls Try.prog 3 #[.int .u8 (nn : Int), v] w (RB w (.bool true)) :=
  once_of alive_any (fun B p v ms over w hB h ho hl => btake_yes B p v ms over w hB h ho hl) (fun B p v ms over w h ho => btake_no B p v ms over w h ho) nn hn v zs w hv hz
theorem once_row (n : Int) (v : Value) (zs : List Int) (w : World) (hn : (Lit.int .u8 n).wf = true) (hv : Sl w v (zs.map (Value.int .u8))) (hz : ∀ z ∈ zs, (Lit.int .u8 z).wf = true) :
    Calls Try.prog 3 #[.int .u8 n, v] w (RB w (.bool true)) := by
  simp [Lit.wf, IntKind.min, IntKind.max, IntKind.signed, IntKind.bits] at hn
  obtain ⟨k, rfl⟩ : ∃ k : Nat, n = (k : Int) := ⟨n.toNat, by omega⟩
  refine once_walk k (by omega) v zs w hv fun z h => ?_
  have := hz z h
  simp [Lit.wf, IntKind.min, IntKind.max, IntKind.signed, IntKind.bits] at this
  exact this
end Go.Proofs.Ytoipepppdaalpaa
