/- Several texts in one. -/
import Derived.Test.YtkfblapfphnggaaD16
import Derived.Test.YtkfblapfphnggaaD22
import Derived.Test.YtkfblapfphnggaaD10
import Derived.Test.YtkfblapfphnggaaD09
/- The chapter's examples: alive. -/
namespace Go.Proofs.Ytkfblapfphnggaa
open Go.RowKit
set_option maxRecDepth 100000
attribute [local go_sem] run_store_complex

abbrev atC (s : ByteArray) : Array Value := #[.int .i64 3, .int .i64 0, .complex .f64 0 0, .string s, .int .i64 0, .int .u32 0, .int .u64 0, nilV, nilV]
abbrev liC (lv : Value) : Array Value := #[.int .i64 7, .int .i64 0, .complex .f64 0 0, .string ⟨#[]⟩, .int .i64 0, .int .u32 0, .int .u64 0, nilV, lv]
theorem atom_any (s : ByteArray) (w : World) : Calls Try.prog 12 #[.string s] w (RB w (.agg (atC s))) := by
  go_enter Try.func12, Try.ntmps12
  go_wp2_with fail
  exact bodyPost_ret (v := .agg (atC s)) (by simp [results, Try.results12, go_sem]) rfl ⟨rfl, (Below.refl w.heap.size w).alloc (Nat.le_refl _) _⟩
def LiPost (W : World) (n : Nat) (xs : List Value) (e : Ending) (w' : World) : Prop :=
  ∃ (a : Option Addr) (c : Nat), e = .returned (.agg (liC (.slice a n c))) ∧ w'.ownsRow W.heap.size 31 9 (.slice a n c) n xs ∧ Below W.heap.size W w'
set_option maxHeartbeats 1000000 in
theorem list_any (a : Option Addr) (n c : Nat) (xs : List Value) (w : World) (hn : n ≤ 4096) (h : Src Try.prog 9 29 (.slice a n c) n xs (w.alloc (.cells zC 31))) : Calls Try.prog 11 #[.slice a n c] w (LiPost w n xs) := by
  have HS := Lib.hid h
  obtain ⟨i0, hi, hz0, hz1, hz2⟩ := info_parts infoTm
  have X1 := Lib.hid hi
  have X2 := Lib.hid hz0
  have X3 := Lib.hid hz1
  have X4 := Lib.hid hz2
  have HB := Lib.hid ((Below.refl w.heap.size w).alloc (Nat.le_refl _) (.cells zC 31))
  have HZ := Lib.hid (heap_new w (.cells zC 31))
  clear h hi hz0 hz1 hz2
  have HM1 := Lib.hid (show 0 + n ≤ maxLen by unfold maxLen; omega)
  have HM2 := Lib.hid (show (0 + n) * 120 ≤ 140737488355328 by omega)
  have HM3 := Lib.hid (blk_lt HZ.out)
  go_enter Try.func11, Try.ntmps11
  go_upto_region 1 with fail
  obtain ⟨b0, hb0⟩ : ∃ b, w.heap.size = b := ⟨_, rfl⟩
  rw [hb0] at HB HZ HM3 ⊢
  have HN := Lib.hid hb0
  clear hb0
  generalize w.alloc (.cells #[.int .i64 0, .int .i64 0, .complex .f64 0 0, .string ⟨#[]⟩, .int .i64 0, .int .u32 0, .int .u64 0, nilV, nilV] 31) = w1 at *
  go_wp2_with (first
    | (at_builtin; refine wpList_app _ rfl (.const (.slice none 0 0)) (.tmp 3) 29 29 rfl (b0 + 1) 31 i0 (.agg zC) 9 120 Try.underlying29 X1.out X2.out X3.out X4.out rfl (by decide) _ 0 [] rfl (World.ownsRow_nil _ _ _ _) _ n xs rfl HS.out HM1.out HM2.out HM3.out ?_; intro a4 c4 w4 ho4 hg4 _ hl4; rw [List.nil_append, Nat.zero_add] at ho4; rw [Nat.zero_add] at hl4 ⊢; have HO4 := Lib.hid ho4; have hG4 := Turn.of_grownBy hg4; have HZ4 := Lib.hid ((hG4.block b0 HM3.out (fun e => by cases e)).trans HZ.out); have HB4 := Lib.hid (HB.out.trans (hG4.below (Nat.le_of_lt HM3.out) (fun i e => by cases e))); clear ho4 hg4 hl4 hG4)
    | (refine wpList_store_row rfl 31 (.tmp 2) (.tmp 5) rfl b0 (liC (.slice a4 n c4)) rfl rfl 31 zC HZ4.out infoT9 rfl (by simp [Array.all, Value.oneCell']) ?_))
  have hZ5 := setRow_heap w4 b0 zC (liC (.slice a4 n c4)) 31 (0, 0) HZ4.out
  have HB5 := Lib.hid (HB4.out.trans ((setRow_turn w4 b0 (liC (.slice a4 n c4))).below (Nat.le_of_lt (blk_lt HZ4.out)) (fun i e => by omega)))
  have HO5 := Lib.hid (row_same (w' := w4.setRow b0 (liC (.slice a4 n c4))) HO4.out (fun b e _ => setRow_other _ _ _ _ (by have := (HO4.out.lt b e).1; omega)))
  generalize w4.setRow b0 (liC (.slice a4 n c4)) = w5 at *
  obtain ⟨k0, k1, k2, k3, k4, k5, k6, k7, k8⟩ := NineAt.of_block hZ5
  exact bodyPost_ret (v := .agg (liC (.slice a4 n c4))) (by simp [results, Try.results11, go_sem, k0, k1, k2, k3, k4, k5, k6, k7, k8]) rfl ⟨a4, c4, rfl, HN.out ▸ owns_mono HO5.out (Nat.le_succ _), HN.out ▸ HB5.out⟩
end Go.Proofs.Ytkfblapfphnggaa
/- The chapter's examples: alive: the walk. -/
namespace Go.Proofs.Ytkfblapfphnggaa
open Go.RowKit
set_option maxRecDepth 100000
attribute [local go_sem] run_store_complex

abbrev sA : ByteArray := ⟨#[97]⟩
abbrev sB : ByteArray := ⟨#[98]⟩
abbrev tmA (s : ByteArray) : Tm := .mk { kind := 3, s := s } []
abbrev tmL : Tm := .mk { kind := 7 } [tmA sA, tmA sB, tmA sA]
theorem good_alive : GoodT 24 tmL := by
  refine ⟨.list 7 _ (.inr rfl) (by decide), ?_⟩
  have ha : ∀ s, nameB s = true → GoodT 23 (tmA s) := fun s h => ⟨.atom s h, by simp⟩
  intro t ht
  simp at ht
  rcases ht with rfl | rfl | rfl
  all_goals exact ha _ (by decide)
theorem enc_alive : 69 :: (encT tmL []).1 = [69, 7, 3, 3, 0, 1, 97, 3, 1, 1, 98, 3, 0] := by rfl
theorem rep_alive {w : World} {B : Nat} {a : Option Addr} {c : Nat} (h : w.ownsRow B 31 9 (.slice a 3 c) 3 ((atC sA).toList ++ (atC sB).toList ++ (atC sA).toList)) : Rep w (fun b => b < w.heap.size) tmL (liC (.slice a 3 c)) := by
  refine ⟨nilV, .slice a 3 c, rfl, Row.nil _ _ _ _, [atC sA, atC sB, atC sA], ⟨owns_mono h (Nat.zero_le _), fun b e => (h.lt b e).2, fun e => by cases e⟩, ?_⟩
  have ha : ∀ s, Rep w (fun b => b < w.heap.size) (tmA s) (atC s) := fun s => Rep.leaf (h := { kind := 3, s := s }) rfl
  exact ⟨_, _, rfl, ha _, _, _, rfl, ha _, _, _, rfl, ha _, rfl⟩
theorem dec1 : decodeP [69, 1, 1] = .ok (.mk { kind := 1, n := -1 } []) := by rfl
theorem dec2 : decodeP [69, 1, 128, 0] = .error 73 := by rfl
theorem dec3 : decodeP [69, 7, 1] = .error 72 := by rfl
theorem sl_new (w : World) (l : List UInt8) (hl : l.length ≤ 9223372036854775807) : Sl (w.alloc (.cells (l.map cellB).toArray 5)) (.slice (some ⟨w.heap.size, 0, none⟩) l.length l.length) (l.map cellB) := by
  refine ⟨some ⟨w.heap.size, 0, none⟩, l.length, by simp, by simpa using hl, fun hp => ⟨w.heap.size, 0, rfl, fun j hj => ?_⟩⟩
  have h := heap_new w (.cells (l.map cellB).toArray 5)
  simp only [World.cell?, h]
  simp at hj ⊢
  exact ⟨_, List.getElem?_eq_getElem hj, rfl⟩
set_option maxHeartbeats 4000000 in
theorem alive_any (w : World) : Calls Try.prog 5 #[] w (RB w (.bool true)) := by
  go_enter Try.func5, Try.ntmps5
  go_wp2_with fail
  refine (atom_any _ _).mono ?_
  rintro e w1 ⟨rfl, hb⟩
  have HB1 := Lib.hid hb
  clear hb
  go_wp2_with fail
  refine (atom_any _ _).mono ?_
  rintro e w2 ⟨rfl, hb⟩
  have HB2 := Lib.hid (HB1.out.trans (hb.mono HB1.out.size))
  clear hb HB1
  go_wp2_with fail
  refine (atom_any _ _).mono ?_
  rintro e w3 ⟨rfl, hb⟩
  have HB3 := Lib.hid (HB2.out.trans (hb.mono HB2.out.size))
  clear hb HB2
  go_wp2_with fail
  have HS := Lib.hid (show Src Try.prog 9 29 (.slice (some ⟨w3.heap.size, 0, none⟩) 3 3) 3 ((atC sA).toList ++ (atC sB).toList ++ (atC sA).toList) ((w3.alloc (.cells #[.int .i64 3, .int .i64 0, .complex .f64 0 0, .string sA, .int .i64 0, .int .u32 0, .int .u64 0, nilV, nilV, .int .i64 3, .int .i64 0, .complex .f64 0 0, .string sB, .int .i64 0, .int .u32 0, .int .u64 0, nilV, nilV, .int .i64 3, .int .i64 0, .complex .f64 0 0, .string sA, .int .i64 0, .int .u32 0, .int .u64 0, nilV, nilV] 31)).alloc (.cells zC 31)) from
    Src.ofSlice _ Try.underlying29 _ _ _ _ rfl (World.news_of_block ((Below.heap_alloc _ _ _ (by simp)).trans (heap_alloc_new w3 _))) (by
      intro u hu
      simp only [List.mem_append] at hu
      rcases hu with (hu | hu) | hu
      all_goals exact nine_one 3 0 0 0 _ 0 0 0 none 0 0 none 0 0 u hu))
  refine (list_any _ _ _ _ _ (by decide) HS.out).mono ?_
  rintro e w5 ⟨a5, c5, rfl, ho5, hb⟩
  have HR5 := Lib.hid (rep_alive ho5)
  have HB5 := Lib.hid ((HB3.out.alloc HB3.out.size _).trans (hb.mono (by have := HB3.out.size; simp; omega)))
  clear ho5 hb HB3 HS
  go_wp2_with fail
  refine (encode_good tmL good_alive (by decide) _ _ w5 HR5.out (fun b e => e)).mono ?_
  intro e w6 he
  rw [enc_alive] at he
  obtain ⟨a6, c6, rfl, ho6, hb⟩ : ∃ (a : Option Addr) (c : Nat), e = .returned (.tuple #[.slice a 13 c, .int .i64 0]) ∧ w6.ownsRow w5.heap.size 5 1 (.slice a 13 c) 13 (([69, 7, 3, 3, 0, 1, 97, 3, 1, 1, 98, 3, 0] : List UInt8).map cellB) ∧ Below w5.heap.size w5 w6 := by
    rcases he with ⟨_, h⟩ | ⟨h, _⟩
    · exact h
    · exact absurd h (by decide)
  have HSl := Lib.hid (Sl.of_owns ho6 (by decide))
  have HB6 := Lib.hid (HB5.out.trans (hb.mono HB5.out.size))
  clear ho6 hb HR5 HB5 he
  have h1 := Lib.hid (sl_new w6 [69, 1, 1] (by decide))
  go_wp2_with fail
  refine (decode_any _ [69, 1, 1] _ h1.out).mono ?_
  intro e w7 he
  rw [dec1] at he
  obtain ⟨c, rfl, ⟨bv, lv, rfl, hbv, vs, hlv, _⟩, hb⟩ := he
  obtain ⟨a7, c7, rfl⟩ := row_slice hbv.1
  obtain ⟨a8, c8, rfl⟩ := row_slice hlv.1
  have HB7 := Lib.hid ((HB6.out.alloc HB6.out.size _).trans (hb.mono (by have := HB6.out.size; simp; omega)))
  have HSl7 := Lib.hid ((HSl.out.alloc _).below hb)
  clear hb hbv hlv h1 HSl HB6
  have HN7 := Lib.hid (NineAt.of_block (heap_new w7 (.cells (hdC { kind := 1, n := -1 } (.slice a7 0 c7) (.slice a8 0 c8)) 31))).2.1
  have HB8 := Lib.hid (HB7.out.alloc HB7.out.size (.cells (hdC { kind := 1, n := -1 } (.slice a7 0 c7) (.slice a8 0 c8)) 31))
  have HSl8 := Lib.hid (HSl7.out.alloc (.cells (hdC { kind := 1, n := -1 } (.slice a7 0 c7) (.slice a8 0 c8)) 31))
  go_upto_region 3 with fail
  clear HSl7 HB7
  have e8 : w7.alloc (.cells (hdC { kind := 1, n := -1 } (.slice a7 0 c7) (.slice a8 0 c8)) 31) = w7.alloc (.cells #[.int .i64 1, .int .i64 (-1), .complex .f64 0 0, .string ⟨#[]⟩, .int .i64 0, .int .u32 0, .int .u64 0, .slice a7 0 c7, .slice a8 0 c8] 31) := rfl
  rw [e8] at HN7 HB8 HSl8
  clear e8
  generalize w7.alloc (.cells #[.int .i64 1, .int .i64 (-1), .complex .f64 0 0, .string ⟨#[]⟩, .int .i64 0, .int .u32 0, .int .u64 0, .slice a7 0 c7, .slice a8 0 c8] 31) = w8 at *
  generalize w7.heap.size = b3 at *
  have hb3 := Lib.hid (cell_lt HN7.out)
  have h1 := Lib.hid (sl_new w8 [69, 1, 128, 0] (by decide))
  go_wp2_with fail
  refine (decode_any _ [69, 1, 128, 0] _ h1.out).mono ?_
  intro e w9 he
  rw [dec2] at he
  obtain ⟨rfl, hb⟩ := he
  have HB9 := Lib.hid ((HB8.out.alloc HB8.out.size _).trans (hb.mono (by have := HB8.out.size; simp; omega)))
  have HSl9 := Lib.hid ((HSl8.out.alloc _).below hb)
  have HN9 := Lib.hid ((hb.cell (p := ⟨b3, 1, none⟩) (by have := hb3.out; show b3 < _; simp; omega)).trans ((((Below.refl _ w8).alloc (Nat.le_refl _) _).cell (p := ⟨b3, 1, none⟩) hb3.out).trans HN7.out))
  have hb9 := Lib.hid (show b3 < w9.heap.size by have := hb.size; have := hb3.out; simp at *; omega)
  clear hb h1 HB8 HSl8 HN7 hb3
  go_upto_region 4 with fail
  have HB10 := Lib.hid (HB9.out.alloc HB9.out.size (.cells zC 31))
  have HSl10 := Lib.hid (HSl9.out.alloc (.cells zC 31))
  have HN10 := Lib.hid ((((Below.refl _ w9).alloc (Nat.le_refl _) (.cells zC 31)).cell (p := ⟨b3, 1, none⟩) hb9.out).trans HN9.out)
  have hb10 := Lib.hid (cell_lt HN10.out)
  clear HB9 HSl9 HN9 hb9
  generalize w9.alloc (.cells zC 31) = w10 at *
  have h1 := Lib.hid (sl_new w10 [69, 7, 1] (by decide))
  go_wp2_with fail
  refine (decode_any _ [69, 7, 1] _ h1.out).mono ?_
  intro e w11 he
  rw [dec3] at he
  obtain ⟨rfl, hb⟩ := he
  have HB11 := Lib.hid ((HB10.out.alloc HB10.out.size _).trans (hb.mono (by have := HB10.out.size; simp; omega)))
  have HSl11 := Lib.hid ((HSl10.out.alloc _).below hb)
  have HN11 := Lib.hid ((hb.cell (p := ⟨b3, 1, none⟩) (by have := hb10.out; show b3 < _; simp; omega)).trans ((((Below.refl _ w10).alloc (Nat.le_refl _) _).cell (p := ⟨b3, 1, none⟩) hb10.out).trans HN10.out))
  have hb11 := Lib.hid (show b3 < w11.heap.size by have := hb.size; have := hb10.out; simp at *; omega)
  clear hb h1 HB10 HSl10 HN10 hb10
  go_upto_region 5 with fail
  have HB12 := Lib.hid (HB11.out.alloc HB11.out.size (.cells zC 31))
  have HSl12 := Lib.hid (HSl11.out.alloc (.cells zC 31))
  have hn12 := (((Below.refl _ w11).alloc (Nat.le_refl _) (.cells zC 31)).cell (p := ⟨b3, 1, none⟩) hb11.out).trans HN11.out
  clear HB11 HSl11 HN11 hb11
  generalize w11.alloc (.cells zC 31) = w12 at *
  have hb12 := cell_lt hn12
  have hcv1 := conv_any (P := Try.prog) _ Try.underlying22 Try.underlying5 Try.underlying9 HSl12.out
  have h13 := Lib.hid (sl_new w12 [69, 7, 3, 3, 0, 1, 97, 3, 1, 1, 98, 3, 0] (by decide))
  have hcv2 : (convert 22 9 (.slice (some ⟨w12.heap.size, 0, none⟩) 13 13)).run Try.prog (w12.alloc (.cells #[.int .u8 69, .int .u8 7, .int .u8 3, .int .u8 3, .int .u8 0, .int .u8 1, .int .u8 97, .int .u8 3, .int .u8 1, .int .u8 1, .int .u8 98, .int .u8 3, .int .u8 0] 5)) = .ok (.string ⟨#[69, 7, 3, 3, 0, 1, 97, 3, 1, 1, 98, 3, 0]⟩) (w12.alloc (.cells #[.int .u8 69, .int .u8 7, .int .u8 3, .int .u8 3, .int .u8 0, .int .u8 1, .int .u8 97, .int .u8 3, .int .u8 1, .int .u8 1, .int .u8 98, .int .u8 3, .int .u8 0] 5)) := conv_any (P := Try.prog) _ Try.underlying22 Try.underlying5 Try.underlying9 h13.out
  go_wp2_with fail
  go_ret
  exact ⟨rfl, HB12.out.alloc HB12.out.size _⟩
end Go.Proofs.Ytkfblapfphnggaa
