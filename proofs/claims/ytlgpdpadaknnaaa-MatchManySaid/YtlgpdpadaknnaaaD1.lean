/- The makers of terms: a variable, an int, an atom, a list, a tuple. -/
import Derived.Test.YtlgpdpadaknnaaaC3
namespace Go.Proofs.Ytlgpdpadaknnaaa
open Go.RowKit Go.Maps
set_option maxRecDepth 100000
attribute [local go_sem] run_store_complex run_store_func' run_store_nilFunc'

abbrev zC : Array Value := #[.int .i64 0, .int .i64 0, .complex .f64 0 0, .string ⟨#[]⟩, .int .i64 0, .int .u32 0, .int .u64 0, nilV, nilV]
abbrev tC (k : Int) (lv : Value) : Array Value := #[.int .i64 k, .int .i64 0, .complex .f64 0 0, .string ⟨#[]⟩, .int .i64 0, .int .u32 0, .int .u64 0, nilV, lv]
theorem nine_tC {w : World} {b : Nat} {k : Int} {lv : Value} {t : TypeId} (h : w.heap[b]? = some (.cells (tC k lv) t (0, 0))) : NineAt w b k 0 0 0 ⟨#[]⟩ 0 0 0 nilV lv := by
  refine ⟨?_, ?_, ?_, ?_, ?_, ?_, ?_, ?_, ?_⟩ <;> simp [World.cell?, h]
theorem infoTm : (Try.prog.info? 31).map (fun i => (i.zero, i.size, i.bytes)) = some (some (.agg zC), 9, 120) := by kernel_rfl
theorem infoT9 : (Try.prog.info? 31).map (·.size) = some 9 := by kernel_rfl
theorem blk_lt {w : World} {b : Nat} {o : Obj} (h : w.heap[b]? = some o) : b < w.heap.size := (Array.getElem?_eq_some_iff.1 h).1
theorem setRow_turn (w : World) (g : Nat) (cs : Array Value) : Turn (fun i => i = g) w (w.setRow g cs) :=
  ⟨rfl, rfl, rfl, by simp [World.setRow], fun k _ hk => setRow_other w g k _ hk⟩
theorem v_any (s : ByteArray) (w : World) : Calls Try.prog 5 #[.string s] w (RB w (lfV 9 0 s)) := by
  go_enter Try.func5, Try.ntmps5
  go_wp2_with fail
  exact bodyPost_ret (v := lfV 9 0 s) (by simp [results, Try.results5, go_sem]) rfl ⟨rfl, (Below.refl w.heap.size w).alloc (Nat.le_refl _) _⟩
theorem int_any (n : Int) (w : World) : Calls Try.prog 6 #[.int .i64 n] w (RB w (lfV 1 n ⟨#[]⟩)) := by
  go_enter Try.func6, Try.ntmps6
  go_wp2_with fail
  exact bodyPost_ret (v := lfV 1 n ⟨#[]⟩) (by simp [results, Try.results6, go_sem]) rfl ⟨rfl, (Below.refl w.heap.size w).alloc (Nat.le_refl _) _⟩
theorem atom_any (s : ByteArray) (w : World) : Calls Try.prog 7 #[.string s] w (RB w (lfV 3 0 s)) := by
  go_enter Try.func7, Try.ntmps7
  go_wp2_with fail
  exact bodyPost_ret (v := lfV 3 0 s) (by simp [results, Try.results7, go_sem]) rfl ⟨rfl, (Below.refl w.heap.size w).alloc (Nat.le_refl _) _⟩
/-- the blocks made since -/
abbrev since (W : World) (b : Nat) : Prop := W.heap.size ≤ b
def ListPost (W : World) (k : Int) (l : List Lv) (e : Ending) (w' : World) : Prop :=
  ∃ (a : Option Addr) (c : Nat), e = .returned (.agg (tC k (.slice a l.length c))) ∧ LRow w' (fun b => since W b ∧ b < w'.heap.size) (.slice a l.length c) l ∧ Below W.heap.size W w'
theorem list_close {W w : World} {base : Nat} {a : Option Addr} {c : Nat} {l : List Lv} (h : w.ownsRow base 31 9 (.slice a l.length c) l.length (cat (l.map lvC))) (h0 : l.length = 0 → a = none) (hb : W.heap.size ≤ base) : LRow w (fun b => since W b ∧ b < w.heap.size) (.slice a l.length c) l := by
  refine ⟨?_, fun b e => ?_, fun hz => ?_⟩
  · obtain ⟨h1, h2⟩ := h
    exact ⟨h1, h2.imp id fun ⟨g, cap, cur, hv, hg, r⟩ => ⟨g, cap, cur, hv, Nat.zero_le _, r⟩⟩
  · have := h.lt b e
    exact ⟨by show W.heap.size ≤ b; omega, this.2⟩
  · have ha := h0 hz
    subst ha
    rcases h.2 with ⟨e, _⟩ | ⟨g, cap, cur, e, _⟩
    · exact e
    · cases e
set_option maxHeartbeats 1000000 in
theorem list_any (a : Option Addr) (n c : Nat) (l : List Lv) (w : World) (hl : l.length = n) (hn : n ≤ 4096) (h : Src Try.prog 9 23 (.slice a n c) n (cat (l.map lvC)) (w.alloc (.cells zC 31))) : Calls Try.prog 9 #[.slice a n c] w (ListPost w 7 l) := by
  have HS := Lib.hid h
  obtain ⟨i0, hi, hz0, hz1, hz2⟩ := info_parts infoTm
  have X1 := Lib.hid hi
  have X2 := Lib.hid hz0
  have X3 := Lib.hid hz1
  have X4 := Lib.hid hz2
  have HB := Lib.hid ((Below.refl w.heap.size w).alloc (Nat.le_refl _) (.cells zC 31))
  have HZ := Lib.hid (heap_new w (.cells zC 31))
  clear h hi hz0 hz1 hz2
  have HM1 := Lib.hid (show 0 + n ≤ maxLen by unfold maxLen; omega)
  have HM2 := Lib.hid (show (0 + n) * 120 ≤ 140737488355328 by omega)
  have HM3 := Lib.hid (blk_lt HZ.out)
  go_enter Try.func9, Try.ntmps9
  go_upto_region 1 with fail
  obtain ⟨b0, hb0⟩ : ∃ b, w.heap.size = b := ⟨_, rfl⟩
  rw [hb0] at HB HZ HM3 ⊢
  have HN := Lib.hid hb0
  clear hb0
  generalize w.alloc (.cells #[.int .i64 0, .int .i64 0, .complex .f64 0 0, .string ⟨#[]⟩, .int .i64 0, .int .u32 0, .int .u64 0, nilV, nilV] 31) = w1 at *
  go_wp2_with (first
    | (at_builtin; refine wpList_app _ rfl (.const (.slice none 0 0)) (.tmp 3) 23 23 rfl (b0 + 1) 31 i0 (.agg zC) 9 120 Try.underlying23 X1.out X2.out X3.out X4.out rfl (by decide) _ 0 [] rfl (World.ownsRow_nil _ _ _ _) _ n _ rfl HS.out HM1.out HM2.out HM3.out ?_; intro a4 c4 w4 ho4 hg4 hn4 hl4; rw [List.nil_append, Nat.zero_add] at ho4; rw [Nat.zero_add] at hl4 hn4 ⊢; have HO4 := Lib.hid ho4; have hG4 := Turn.of_grownBy hg4; have HZ4 := Lib.hid ((hG4.block b0 HM3.out (fun e => by cases e)).trans HZ.out); have HB4 := Lib.hid (HB.out.trans (hG4.below (Nat.le_of_lt HM3.out) (fun i e => by cases e))); have HQ4 := Lib.hid hn4; clear ho4 hg4 hl4 hG4 hn4)
    | (refine wpList_store_row rfl 31 (.tmp 2) (.tmp 5) rfl b0 (tC 7 (.slice a4 n c4)) rfl rfl 31 zC HZ4.out infoT9 rfl (by simp [Array.all, Value.oneCell']) ?_))
  have hZ5 := setRow_heap w4 b0 zC (tC 7 (.slice a4 n c4)) 31 (0, 0) HZ4.out
  have HB5 := Lib.hid (HB4.out.trans ((setRow_turn w4 b0 (tC 7 (.slice a4 n c4))).below (Nat.le_of_lt (blk_lt HZ4.out)) (fun i e => by omega)))
  have HO5 := Lib.hid (row_same (w' := w4.setRow b0 (tC 7 (.slice a4 n c4))) HO4.out (fun b e _ => setRow_other _ _ _ _ (by have := (HO4.out.lt b e).1; omega)))
  generalize w4.setRow b0 (tC 7 (.slice a4 n c4)) = w5 at *
  obtain ⟨k0, k1, k2, k3, k4, k5, k6, k7, k8⟩ := nine_tC hZ5
  exact bodyPost_ret (v := .agg (tC 7 (.slice a4 n c4))) (by simp [results, Try.results9, go_sem, k0, k1, k2, k3, k4, k5, k6, k7, k8]) rfl ⟨a4, c4, by rw [hl], by subst hl; exact list_close HO5.out (fun h0 => HQ4.out h0 rfl) (by rw [HN.out]; omega), HN.out ▸ HB5.out⟩
set_option maxHeartbeats 1000000 in
theorem tuple_any (a : Option Addr) (n c : Nat) (l : List Lv) (w : World) (hl : l.length = n) (hn : n ≤ 4096) (h : Src Try.prog 9 23 (.slice a n c) n (cat (l.map lvC)) (w.alloc (.cells zC 31))) : Calls Try.prog 10 #[.slice a n c] w (ListPost w 6 l) := by
  have HS := Lib.hid h
  obtain ⟨i0, hi, hz0, hz1, hz2⟩ := info_parts infoTm
  have X1 := Lib.hid hi
  have X2 := Lib.hid hz0
  have X3 := Lib.hid hz1
  have X4 := Lib.hid hz2
  have HB := Lib.hid ((Below.refl w.heap.size w).alloc (Nat.le_refl _) (.cells zC 31))
  have HZ := Lib.hid (heap_new w (.cells zC 31))
  clear h hi hz0 hz1 hz2
  have HM1 := Lib.hid (show 0 + n ≤ maxLen by unfold maxLen; omega)
  have HM2 := Lib.hid (show (0 + n) * 120 ≤ 140737488355328 by omega)
  have HM3 := Lib.hid (blk_lt HZ.out)
  go_enter Try.func10, Try.ntmps10
  go_upto_region 1 with fail
  obtain ⟨b0, hb0⟩ : ∃ b, w.heap.size = b := ⟨_, rfl⟩
  rw [hb0] at HB HZ HM3 ⊢
  have HN := Lib.hid hb0
  clear hb0
  generalize w.alloc (.cells #[.int .i64 0, .int .i64 0, .complex .f64 0 0, .string ⟨#[]⟩, .int .i64 0, .int .u32 0, .int .u64 0, nilV, nilV] 31) = w1 at *
  go_wp2_with (first
    | (at_builtin; refine wpList_app _ rfl (.const (.slice none 0 0)) (.tmp 3) 23 23 rfl (b0 + 1) 31 i0 (.agg zC) 9 120 Try.underlying23 X1.out X2.out X3.out X4.out rfl (by decide) _ 0 [] rfl (World.ownsRow_nil _ _ _ _) _ n _ rfl HS.out HM1.out HM2.out HM3.out ?_; intro a4 c4 w4 ho4 hg4 hn4 hl4; rw [List.nil_append, Nat.zero_add] at ho4; rw [Nat.zero_add] at hl4 hn4 ⊢; have HO4 := Lib.hid ho4; have hG4 := Turn.of_grownBy hg4; have HZ4 := Lib.hid ((hG4.block b0 HM3.out (fun e => by cases e)).trans HZ.out); have HB4 := Lib.hid (HB.out.trans (hG4.below (Nat.le_of_lt HM3.out) (fun i e => by cases e))); have HQ4 := Lib.hid hn4; clear ho4 hg4 hl4 hG4 hn4)
    | (refine wpList_store_row rfl 31 (.tmp 2) (.tmp 5) rfl b0 (tC 6 (.slice a4 n c4)) rfl rfl 31 zC HZ4.out infoT9 rfl (by simp [Array.all, Value.oneCell']) ?_))
  have hZ5 := setRow_heap w4 b0 zC (tC 6 (.slice a4 n c4)) 31 (0, 0) HZ4.out
  have HB5 := Lib.hid (HB4.out.trans ((setRow_turn w4 b0 (tC 6 (.slice a4 n c4))).below (Nat.le_of_lt (blk_lt HZ4.out)) (fun i e => by omega)))
  have HO5 := Lib.hid (row_same (w' := w4.setRow b0 (tC 6 (.slice a4 n c4))) HO4.out (fun b e _ => setRow_other _ _ _ _ (by have := (HO4.out.lt b e).1; omega)))
  generalize w4.setRow b0 (tC 6 (.slice a4 n c4)) = w5 at *
  obtain ⟨k0, k1, k2, k3, k4, k5, k6, k7, k8⟩ := nine_tC hZ5
  exact bodyPost_ret (v := .agg (tC 6 (.slice a4 n c4))) (by simp [results, Try.results10, go_sem, k0, k1, k2, k3, k4, k5, k6, k7, k8]) rfl ⟨a4, c4, by rw [hl], by subst hl; exact list_close HO5.out (fun h0 => HQ4.out h0 rfl) (by rw [HN.out]; omega), HN.out ▸ HB5.out⟩
end Go.Proofs.Ytlgpdpadaknnaaa
