/- match.look.part at a variable. -/
import Derived.Test.YtlgpdpadaknnaaaB2
namespace Go.Proofs.Ytlgpdpadaknnaaa
open Go.RowKit Go.Maps
set_option maxRecDepth 100000
attribute [local go_sem] run_store_complex run_store_func' run_store_nilFunc'

/-- the names met, and one more -/
noncomputable def addN (l : List ByteArray) (s : ByteArray) : List ByteArray := if s ∈ l then l else l ++ [s]
theorem wrapI {x : Int} (h0 : -9223372036854775808 ≤ x) (h1 : x ≤ 9223372036854775807) : IntKind.i64.wrap x = x := by rw [IntKind.wrap_i64]; omega
theorem at_one {n : Nat} {c : Int} (h : num n = .lit (.int .i64 c)) : c = n := by
  simp only [num, DataW.lit.injEq, Lit.int.injEq] at h
  exact h.2.symm
set_option maxHeartbeats 2000000 in
theorem part_var (s : ByteArray) (hv : VarName s) (deep : Nat) (hd : deep ≤ 24) (p m : Nat) (v : Value) (n : Nat) (l : List ByteArray) (w : World) (h : Look w p m v n l) (hn : n + 1 ≤ 4096) (h4 : l.length < 4096) :
    Calls Try.prog 20 #[.pointer (some ⟨p, 0, none⟩), .agg (lfC 9 0 s), .int .i64 (deep : Int)] w (PartPost w p m v (n + 1) (addN l s)) := by
  have hs : s.size ≤ maxLen := by have := hv.le; unfold maxLen; omega
  have hcn := cx_neq
  have hw1 : IntKind.i64.wrap 1 = 1 := by decide
  have hw2 : IntKind.i64.wrap ((n : Int) + 1) = (n : Int) + 1 := wrapI (by omega) (by omega)
  obtain ⟨i0, hi, hz0, hz1, hz2⟩ := info_parts infoString
  have HK := Lib.hid (keyS hs)
  have HV := Lib.hid (vname_good s hv)
  have H1 := Lib.hid (h.below ((Below.refl _ w).alloc (Nat.le_refl _) (.cells (lfC 9 0 s) 31)))
  have HT := Lib.hid (Turn.alloc (lookIn p m v) w (.cells (lfC 9 0 s) 31))
  have lp := h.lt.1
  have H4 := Lib.hid h4
  have hn1 : ((n : Int) + 1) ≤ 4096 := by omega
  have hbp : ¬ w.heap.size = p := by omega
  have HBm : Hid (some w.heap.size ≠ some m) := Lib.hid (by have := h.lt.2.1; simp; omega)
  have HN := Lib.hid (nine_new w 9 0 0 0 s 0 0 0 nilV nilV 31)
  have hs1 : w.heap.size < (w.alloc (.cells (lfC 9 0 s) 31)).heap.size := by simp
  clear h h4
  go_enter Try.func20, Try.ntmps20
  go_wp2_with fail
  generalize hbb : w.heap.size = b at *
  have HB := Lib.hid hbb
  clear hbb
  generalize w.alloc (.cells (lfC 9 0 s) 31) = w2 at *
  have q0 := H1.out.cells.1
  have k7 := HN.out.2.2.2.2.2.2.2.1
  go_still_tail 11, (by kernel_rfl)
  change wpList _ _ _ _ _ w2.drew
  have HN3 : Hid (NineAt w2.drew b 9 0 0 0 s 0 0 0 nilV nilV) := HN.out
  have H3 : Hid (Look w2.drew p m v n l) := Lib.hid (H1.out.below ((Below.refl _ _).drew))
  have HT3 : Hid (Turn (lookIn p m v) w w2.drew) := HT.out.drew
  have hs3 : b < w2.drew.heap.size := hs1
  clear q0 k7 HN H1 HT hs1
  generalize w2.drew = w3 at *
  have r0 := H3.out.cells.1
  have rf := H3.out.cells.2.2.2.1
  have k0 := HN3.out.1
  go_upto_region 4 with fail
  have H4b : Hid (Look (w3.setCell ⟨p, 0, none⟩ (.int .i64 ((n : Int) + 1))) p m v (n + 1) l) := Lib.hid (H3.out.count (n + 1) hn)
  have HT4 := Lib.hid (HT3.out.andThen (Turn.setCell w3 p 0 (.int .i64 ((n : Int) + 1))) fun i e => .inl (.inl e))
  have HN4 := Lib.hid (HN3.out.block (Below.heap_setCell w3 ⟨p, 0, none⟩ (.int .i64 ((n : Int) + 1)) _ hbp))
  have hs4 : b < (w3.setCell ⟨p, 0, none⟩ (.int .i64 ((n : Int) + 1))).heap.size := by simp [World.setCell]; omega
  clear r0 rf k0 HT3 HN3 H3 hs3
  generalize w3.setCell ⟨p, 0, none⟩ (.int .i64 ((n : Int) + 1)) = w4 at *
  have r0 := H4b.out.cells.1
  obtain ⟨k0, k1, k2, k3, k4, k5, k6, k7, k8⟩ := HN4.out
  go_upto_region 14 with fail
  have HB5 : Below w4.heap.size w4 (w4.alloc (.cells #[.int .i64 9, .int .i64 0, .complex .f64 0 0, .string ⟨#[]⟩, .int .i64 0, .int .u32 0, .int .u64 0, nilV, nilV] 31)) := (Below.refl _ w4).alloc (Nat.le_refl _) _
  have HN5 := Lib.hid (HN4.out.block (HB5.block b hs4))
  have H5 := Lib.hid (H4b.out.below HB5)
  have HT5 := Lib.hid (HT4.out.trans (Turn.of_below (S := lookIn p m v) HB5))
  have hs5 : b < (w4.alloc (.cells #[.int .i64 9, .int .i64 0, .complex .f64 0 0, .string ⟨#[]⟩, .int .i64 0, .int .u32 0, .int .u64 0, nilV, nilV] 31)).heap.size := by simp; omega
  clear r0 k0 k1 k2 k3 k4 k5 k6 k7 k8 HT4 HN4 H4b hs4 HB5 hcn
  generalize w4.alloc (.cells #[.int .i64 9, .int .i64 0, .complex .f64 0 0, .string ⟨#[]⟩, .int .i64 0, .int .u32 0, .int .u64 0, nilV, nilV] 31) = w5 at *
  have k0 := HN5.out.1
  have k3 := HN5.out.2.2.2.1
  go_wp2_with fail
  refine (HV.out _).mono ?_
  rintro e w6 ⟨rfl, hb6⟩
  have HN6 := Lib.hid (HN5.out.block (hb6.block b hs5))
  have H6 := Lib.hid (H5.out.below hb6)
  have HT6 := Lib.hid (HT5.out.trans (Turn.of_below (S := lookIn p m v) hb6))
  have hs6 : b < w6.heap.size := by have := hb6.size; omega
  clear k0 k3 HN5 H5 HT5 hs5 hb6
  have k3 := HN6.out.2.2.2.1
  obtain ⟨r0, r1, r2, f0, f1⟩ := H6.out.cells
  go_upto_region 17 with fail
  have HX6 := Lib.hid H6.out.map
  by_cases hm : s ∈ l
  · have HA := Lib.hid (show addN l s = l by unfold addN; rw [if_pos hm])
    have HAt := Lib.hid (show (setM l).atKey (key s) (num 0) = num 1 by rw [at_setM, if_pos hm])
    clear hm
    go_still_tail 6, (by kernel_rfl)
    change wpList _ _ _ _ _ w6.drew
    go_upto_region 20 with (at_lookup; refine wpList_lookup_own_int _ rfl _ _ 53 rfl 9 3 .i64 lawS Try.underlying53 Try.underlying3 (zeroI _) m _ _ rfl HX6.out.drew _ _ rfl HK.out ?_; intro cc hat hwc; obtain rfl : cc = 1 := (at_one (HAt.out.symm.trans hat)); clear hat hwc)
    go_wp2_with fail
    go_ret
    exact ⟨rfl, v, by rw [HA.out]; exact H6.out.below (Below.refl _ _).drew, HT6.out.drew, .inl rfl⟩
  · have HA := Lib.hid (show addN l s = l ++ [s] by unfold addN; rw [if_neg hm])
    have HAt := Lib.hid (show (setM l).atKey (key s) (num 0) = num 0 by rw [at_setM, if_neg hm])
    have HM := Lib.hid hm
    clear hm
    go_still_tail 6, (by kernel_rfl)
    change wpList _ _ _ _ _ w6.drew
    go_upto_region 18 with (at_lookup; refine wpList_lookup_own_int _ rfl _ _ 53 rfl 9 3 .i64 lawS Try.underlying53 Try.underlying3 (zeroI _) m _ _ rfl HX6.out.drew _ _ rfl HK.out ?_; intro cc hat hwc; obtain rfl : cc = 0 := (at_one (HAt.out.symm.trans hat)); clear hat hwc)
    have HN7 : Hid (NineAt w6.drew b 9 0 0 0 s 0 0 0 nilV nilV) := HN6.out
    have H7 : Hid (Look w6.drew p m v (n + 1) l) := Lib.hid (H6.out.below ((Below.refl _ _).drew))
    have HT7 : Hid (Turn (lookIn p m v) w w6.drew) := HT6.out.drew
    have hs7 : b < w6.drew.heap.size := hs6
    clear r0 r1 r2 f0 f1 k3 HX6 H6 HN6 HT6 hs6
    generalize w6.drew = w7 at *
    have k3 := HN7.out.2.2.2.1
    obtain ⟨r0, r1, r2, f0, f1⟩ := H7.out.cells
    go_still_tail 6, (by kernel_rfl)
    change wpList _ _ _ _ _ w7.drew
    have HN8 : Hid (NineAt w7.drew b 9 0 0 0 s 0 0 0 nilV nilV) := HN7.out
    have H8 : Hid (Look w7.drew p m v (n + 1) l) := Lib.hid (H7.out.below ((Below.refl _ _).drew))
    have HT8 : Hid (Turn (lookIn p m v) w w7.drew) := HT7.out.drew
    have hs8 : b < w7.drew.heap.size := hs7
    clear r0 r1 r2 f0 f1 k3 H7 HN7 HT7 hs7
    generalize w7.drew = w8 at *
    have HX8 := Lib.hid H8.out.map
    go_upto_region 19 with (at_mapUpdate; refine wpList_mapUpdate_own _ rfl _ _ _ 53 rfl 9 3 lawS Try.underlying53 _ m _ _ rfl HX8.out (by have := H4.out; unfold maxLen; omega) _ _ _ rfl rfl HK.out (num 1) [] (plainElem_int Try.underlying3 (WalkArith.wf_i64 (by omega))) ?_; intro w9 hm9 hg9)
    have HM9 := Lib.hid hm9
    have HG9 := Lib.hid hg9
    obtain ⟨a9, c9, hv9⟩ := row_slice H8.out.row
    have HP9 := Lib.hid (H8.out.mapped hg9)
    have HN9 := Lib.hid (HN8.out.block (hg9.block b hs8 HBm.out))
    clear hm9 hg9
    have hr9 := HP9.out.2
    have r1 : w9.cell? ⟨p, 1, none⟩ = some v := by simp [World.cell?, HP9.out.1]
    have f1 : w9.frozen? ⟨p, 1, none⟩ = false := by simp [World.frozen?, HP9.out.1]
    have k3 := HN9.out.2.2.2.1
    have HR9 := Lib.hid hr9
    clear hr9 HP9
    subst hv9
    have HA9 := Lib.hid H8.out.apart.2.1
    have HM1 := Lib.hid (show l.length + 1 ≤ maxLen by have := H4.out; unfold maxLen; omega)
    have HM2 := Lib.hid (show (l.length + 1) * 16 ≤ 140737488355328 by have := H4.out; omega)
    have X1 := Lib.hid hi
    have X2 := Lib.hid hz0
    have X3 := Lib.hid hz1
    have X4 := Lib.hid hz2
    clear hi hz0 hz1 hz2
    have lp9 := cell_lt r1
    have lb9 := cell_lt k3
    have hbn : ¬ b = p := fun e => hbp e
    go_region_law (first
      | (refine step_app (by rfl) (.tmp 97) (.tmp 100) 45 45 (by rfl) 0 9 i0 (.string ByteArray.empty) 1 16 Try.underlying45 X1.out X2.out X3.out X4.out rfl (by decide) (.slice a9 l.length c9) l.length (l.map .string) (by rfl) (HR9.out.drew.alloc _) (.slice (some ⟨w9.heap.size, 0, none⟩) 1 1) 1 [.string s] (by rfl) (src_one w9.drew Try.underlying45 _ _ rfl) HM1.out HM2.out (Nat.zero_le _) ?_; intro a4 c4 wz ho4 hg4 hl4; obtain ⟨c5, f5⟩ := kept_cell (w := w9.drew) (.cells #[.string s] 9) r1 f1 hg4 HA9.out; have HG4 := Lib.hid hg4; have HO4 := Lib.hid ho4; have HL4 := Lib.hid hl4; clear hg4 ho4 hl4))
    all_goals
      go_wp2_with fail
      go_ret
      obtain ⟨q1, q2, q3⟩ := look_close (w2 := w9) H8.out HM.out H4.out HM9.out HG9.out HO4.out (.cells #[.string s] 9) (show (w9.alloc _).grownBy wz _ from ⟨HG4.out.os, HG4.out.tape, HG4.out.output, HG4.out.size, HG4.out.block⟩) HL4.out
      exact ⟨rfl, _, by rw [HA.out]; exact q1, HT8.out.trans q2, q3.imp id fun r b e => Nat.le_trans HT8.out.size (r b e)⟩
end Go.Proofs.Ytlgpdpadaknnaaa
