/- term.Copy of a part without parts; term.Same of two ints. -/
import Derived.Test.YtlgpdpadaknnaaaB2
namespace Go.Proofs.Ytlgpdpadaknnaaa
open Go.RowKit Go.Maps
set_option maxRecDepth 100000
attribute [local go_sem] run_store_complex run_store_func' run_store_nilFunc'

abbrev lfV (k n : Int) (s : ByteArray) : Value := .agg (lfC k n s)
theorem copied_leaf (k n : Int) (s : ByteArray) (w : World) : Calls Try.prog 25 #[lfV k n s] w (RB w (lfV k n s)) := by
  go_enter Try.func25, Try.ntmps25
  go_wp2_with fail
  refine wp_loop_rounds 1 ?_
  rw [rounds_succ]
  go_wp2_with fail
  exact bodyPost_ret (v := lfV k n s) (by simp [results, Try.results25, go_sem]) rfl ⟨rfl, ((Below.refl w.heap.size w).alloc (Nat.le_refl _) _).alloc (by simp) _⟩
/-- a part that term.Check finds right -/
def Right (k n : Int) (s : ByteArray) : Prop := ∀ w, Calls Try.prog 15 #[lfV k n s] w (RB w (.int .i64 0))
theorem right_int (n : Int) (h : inR n = true) : Right 1 n ⟨#[]⟩ := fun w => by
  refine check_good (.mk { kind := 1, n := n } []) ⟨HdOk.int n h, by simp⟩ (by simp [sizeT, sizeTs]) (fun _ => False) _ w ?_ (fun b h => h.elim)
  exact ⟨nilV, nilV, rfl, Row.nil _ _ _ _, [], Row.nil _ _ _ _, rfl⟩
theorem right_atom (s : ByteArray) (h : nameB s = true) : Right 3 0 s := fun w => by
  refine check_good (.mk { kind := 3, s := s } []) ⟨HdOk.atom s h, by simp⟩ (by simp [sizeT, sizeTs]) (fun _ => False) _ w ?_ (fun b h => h.elim)
  exact ⟨nilV, nilV, rfl, Row.nil _ _ _ _, [], Row.nil _ _ _ _, rfl⟩
theorem setRow_below {B g : Nat} {w : World} {cs : Array Value} (h : B ≤ g) : Below B w (w.setRow g cs) :=
  ⟨rfl, rfl, rfl, by simp [World.setRow], fun k hk => by simp [World.setRow, Array.getElem?_modify, show ¬ g = k by omega]⟩
theorem heap_new2 (w : World) (o o2 : Obj) : ((w.alloc o).alloc o2).heap[w.heap.size]? = some o := by
  have := ((Below.refl (w.alloc o).heap.size (w.alloc o)).alloc (Nat.le_refl _) o2).block w.heap.size (by simp)
  rw [this]
  exact heap_new w o
theorem nine_of {w : World} {b : Nat} {k n : Int} {s : ByteArray} {t : TypeId} (h : w.heap[b]? = some (.cells (lfC k n s) t (0, 0))) : NineAt w b k n 0 0 s 0 0 0 nilV nilV := by
  refine ⟨?_, ?_, ?_, ?_, ?_, ?_, ?_, ?_, ?_⟩ <;> simp [World.cell?, h]
set_option maxHeartbeats 1000000 in
theorem copy_leaf (k n : Int) (s : ByteArray) (hr : Right k n s) (w : World) : Calls Try.prog 18 #[lfV k n s] w (RB w (lfV k n s)) := by
  have hi35 : (Try.prog.info? 31).map (·.size) = some (lfC k n s).size := by kernel_rfl
  have hall : (lfC k n s).all (·.oneCell') = true := by simp [Array.all, Value.oneCell']
  have hx1 := heap_new2 w (.cells (lfC k n s) 31) (.cells (lfC 0 0 ⟨#[]⟩) 31)
  have hx2 : ((w.alloc (.cells (lfC k n s) 31)).alloc (.cells (lfC 0 0 ⟨#[]⟩) 31)).heap[w.heap.size + 1]? = some (.cells (lfC 0 0 ⟨#[]⟩) 31) := by
    have := heap_new (w.alloc (.cells (lfC k n s) 31)) (.cells (lfC 0 0 ⟨#[]⟩) 31)
    simpa using this
  have hB : Below w.heap.size w ((w.alloc (.cells (lfC k n s) 31)).alloc (.cells (lfC 0 0 ⟨#[]⟩) 31)) := ((Below.refl _ _).alloc (Nat.le_refl _) _).alloc (by simp) _
  have hsz : w.heap.size + 1 < ((w.alloc (.cells (lfC k n s) 31)).alloc (.cells (lfC 0 0 ⟨#[]⟩) 31)).heap.size := by simp
  have X1 := Lib.hid hx1
  have X2 := Lib.hid hx2
  have XB := Lib.hid hB
  have HR := Lib.hid hr
  clear hx1 hx2 hB hr
  go_enter Try.func18, Try.ntmps18
  go_wp2_with fail
  generalize (w.alloc (.cells (lfC k n s) 31)).alloc (.cells (lfC 0 0 ⟨#[]⟩) 31) = w0 at *
  refine (HR.out _).mono ?_
  rintro e w1 ⟨rfl, hb1⟩
  have ht1 := nine_of ((hb1.block _ (by omega)).trans X1.out)
  have Y2 := Lib.hid ((hb1.block (w.heap.size + 1) hsz).trans X2.out)
  have HB1 := Lib.hid (XB.out.trans (hb1.mono (by omega)))
  have hs1 : w.heap.size + 1 < w1.heap.size := by have := hb1.size; omega
  clear hb1 X1 X2 XB hsz HR
  obtain ⟨k0, k1, k2, k3, k4, k5, k6, k7, k8⟩ := ht1
  go_wp2_with fail
  refine (copied_leaf k n s _).mono ?_
  rintro e w2 ⟨rfl, hb2⟩
  have Z2 := Lib.hid ((hb2.block (w.heap.size + 1) hs1).trans Y2.out)
  have HB2 := Lib.hid (HB1.out.trans (hb2.mono (by omega)))
  clear hb2 k0 k1 k2 k3 k4 k5 k6 k7 k8 Y2
  go_wp2_with (refine wpList_store_row rfl 31 (.tmp 2) (.tmp 8) rfl (w.heap.size + 1) (lfC k n s) rfl rfl 31 (lfC 0 0 ⟨#[]⟩) Z2.out hi35 rfl hall ?_)
  have ht3 : NineAt (w2.setRow (w.heap.size + 1) (lfC k n s)) (w.heap.size + 1) k n 0 0 s 0 0 0 nilV nilV := nine_of (setRow_heap w2 _ _ _ _ _ Z2.out)
  have HB3 := Lib.hid (HB2.out.trans (setRow_below (w := w2) (cs := lfC k n s) (Nat.le_succ w.heap.size)))
  generalize w2.setRow (w.heap.size + 1) (lfC k n s) = w3 at *
  obtain ⟨k0, k1, k2, k3, k4, k5, k6, k7, k8⟩ := ht3
  exact bodyPost_ret (v := lfV k n s) (by simp [results, Try.results18, go_sem, k0, k1, k2, k3, k4, k5, k6, k7, k8]) rfl ⟨rfl, HB3.out⟩
/-- the order of two ints -/
def cmpI (x y : Int) : Int := if x < y then -1 else if y < x then 1 else 0
set_option maxHeartbeats 1000000 in
theorem numcmp_int (x y : Int) (hx : inR x = true) (hy : inR y = true) (w : World) : Calls Try.prog 44 #[v1 x, v1 y] w (RB w (.tuple #[.int .i64 (cmpI x y), .int .i64 0])) := by
  have HX := Lib.hid (right1_any x)
  have HY := Lib.hid (right1_any y)
  rw [hx] at HX
  rw [hy] at HY
  have HC := Lib.hid (show cmpI x y = if x < y then -1 else if y < x then 1 else 0 from rfl)
  have key : ∀ (c : Int), (x < y ∧ c = -1 ∨ y < x ∧ ¬ x < y ∧ c = 1 ∨ ¬ x < y ∧ ¬ y < x ∧ c = 0) → Calls Try.prog 44 #[v1 x, v1 y] w (RB w (.tuple #[.int .i64 c, .int .i64 0])) := by
    intro c hc
    clear hx hy HC
    rcases hc with ⟨h1, rfl⟩ | ⟨h1, h2, rfl⟩ | ⟨h1, h2, rfl⟩
    all_goals
      go_enter Try.func44, Try.ntmps44
      go_wp2_with fail
      refine (HX.out _).mono ?_
      rintro e w1 ⟨rfl, hb1⟩
      have HN1 := Lib.hid (NineAt.block (NineAt.block (nine_new w 1 x 0 0 ⟨#[]⟩ 0 0 0 nilV nilV 31) (((Below.refl (w.alloc _).heap.size (w.alloc _)).alloc (Nat.le_refl _) _).block _ (by simp))) (hb1.block _ (by simp; omega)))
      have HN2 : Hid (NineAt w1 (w.heap.size + 1) 1 y 0 0 ⟨#[]⟩ 0 0 0 nilV nilV) := Lib.hid (by
        have := (NineAt.block (nine_new (w.alloc (.cells (lfC 1 x ⟨#[]⟩) 31)) 1 y 0 0 ⟨#[]⟩ 0 0 0 nilV nilV 31) (hb1.block _ (by simp)))
        simpa using this)
      have HB1 := Lib.hid ((((Below.refl w.heap.size w).alloc (Nat.le_refl _) _).alloc (by simp) _).trans (hb1.mono (by simp; omega)))
      have hs1 : w.heap.size + 1 < w1.heap.size := by have := hb1.size; simp at this; omega
      clear hb1
      obtain ⟨j0, j1, j2, j3, j4, j5, j6, j7, j8⟩ := HN2.out
      go_wp2_with fail
      refine (HY.out _).mono ?_
      rintro e w2 ⟨rfl, hb2⟩
      have HM1 := Lib.hid (HN1.out.block (hb2.block _ (by omega)))
      have HM2 := Lib.hid (HN2.out.block (hb2.block _ (by omega)))
      have HB2 := Lib.hid (HB1.out.trans (hb2.mono (by omega)))
      clear hb2 j0 j1 j2 j3 j4 j5 j6 j7 j8 HN1 HN2 HB1
      have k0 := HM1.out.1
      have k1 := HM1.out.2.1
      have j0 := HM2.out.1
      have j1 := HM2.out.2.1
      go_wp2_with fail
      go_ret2
      exact ⟨rfl, HB2.out⟩
  refine key _ ?_
  rw [HC.out]
  by_cases h1 : x < y
  · exact .inl ⟨h1, if_pos h1⟩
  · by_cases h2 : y < x
    · exact .inr (.inl ⟨h2, h1, by rw [if_neg h1, if_pos h2]⟩)
    · exact .inr (.inr ⟨h1, h2, by rw [if_neg h1, if_neg h2]⟩)
/-- two boxes -/
theorem two_boxes (w : World) (x y : Int) {w1 : World} (hb1 : Below ((w.alloc (.cells (lfC 1 x ⟨#[]⟩) 31)).alloc (.cells (lfC 1 y ⟨#[]⟩) 31)).heap.size ((w.alloc (.cells (lfC 1 x ⟨#[]⟩) 31)).alloc (.cells (lfC 1 y ⟨#[]⟩) 31)) w1) :
    NineAt w1 w.heap.size 1 x 0 0 ⟨#[]⟩ 0 0 0 nilV nilV ∧ NineAt w1 (w.heap.size + 1) 1 y 0 0 ⟨#[]⟩ 0 0 0 nilV nilV ∧ Below w.heap.size w w1 ∧ w.heap.size + 1 < w1.heap.size := by
  refine ⟨NineAt.block (NineAt.block (nine_new w 1 x 0 0 ⟨#[]⟩ 0 0 0 nilV nilV 31) (((Below.refl (w.alloc _).heap.size (w.alloc _)).alloc (Nat.le_refl _) _).block _ (by simp))) (hb1.block _ (by simp; omega)), ?_, (((Below.refl w.heap.size w).alloc (Nat.le_refl _) _).alloc (by simp) _).trans (hb1.mono (by simp; omega)), by have := hb1.size; simp at this; omega⟩
  have := (NineAt.block (nine_new (w.alloc (.cells (lfC 1 x ⟨#[]⟩) 31)) 1 y 0 0 ⟨#[]⟩ 0 0 0 nilV nilV 31) (hb1.block _ (by simp)))
  simpa using this
theorem order_int (x y : Int) (hx : inR x = true) (hy : inR y = true) (w : World) : Calls Try.prog 42 #[v1 x, v1 y] w (RB w (.int .i64 (cmpI x y))) := by
  have HN := Lib.hid (numcmp_int x y hx hy)
  generalize cmpI x y = c at *
  clear hx hy
  go_enter Try.func42, Try.ntmps42
  go_wp2_with fail
  refine (HN.out _).mono ?_
  rintro e w1 ⟨rfl, hb1⟩
  have HB := Lib.hid (two_boxes w x y hb1).2.2.1
  clear hb1
  go_wp2_with fail
  go_ret
  exact ⟨rfl, HB.out⟩
set_option maxHeartbeats 1000000 in
theorem tcmp_int (x y : Int) (hx : inR x = true) (hy : inR y = true) (w : World) : Calls Try.prog 40 #[v1 x, v1 y] w (RB w (.tuple #[.int .i64 (cmpI x y), .int .i64 0])) := by
  have HX := Lib.hid (right_int x hx)
  have HY := Lib.hid (right_int y hy)
  have HN := Lib.hid (order_int x y hx hy)
  generalize cmpI x y = c at *
  clear hx hy
  go_enter Try.func40, Try.ntmps40
  go_wp2_with fail
  refine (HX.out _).mono ?_
  rintro e w1 ⟨rfl, hb1⟩
  have H1 := Lib.hid (two_boxes w x y hb1)
  clear hb1
  obtain ⟨j0, j1, j2, j3, j4, j5, j6, j7, j8⟩ := H1.out.2.1
  go_wp2_with fail
  refine (HY.out _).mono ?_
  rintro e w2 ⟨rfl, hb2⟩
  have HM1 := Lib.hid (H1.out.1.block (hb2.block _ (by have := H1.out.2.2.2; omega)))
  have HM2 := Lib.hid (H1.out.2.1.block (hb2.block _ H1.out.2.2.2))
  have HB2 := Lib.hid (H1.out.2.2.1.trans (hb2.mono (by have := H1.out.2.2.2; omega)))
  have hs2 : w.heap.size + 1 < w2.heap.size := by have := hb2.size; have := H1.out.2.2.2; omega
  clear hb2 j0 j1 j2 j3 j4 j5 j6 j7 j8 H1
  obtain ⟨j0, j1, j2, j3, j4, j5, j6, j7, j8⟩ := HM2.out
  obtain ⟨k0, k1, k2, k3, k4, k5, k6, k7, k8⟩ := HM1.out
  go_wp2_with fail
  refine (HN.out _).mono ?_
  rintro e w3 ⟨rfl, hb3⟩
  have HB3 := Lib.hid (HB2.out.trans (hb3.mono (by omega)))
  clear hb3 j0 j1 j2 j3 j4 j5 j6 j7 j8 k0 k1 k2 k3 k4 k5 k6 k7 k8
  go_wp2_with fail
  go_ret2
  exact ⟨rfl, HB3.out⟩
theorem same_int (x y : Int) (hx : inR x = true) (hy : inR y = true) (w : World) : Calls Try.prog 24 #[v1 x, v1 y] w (RB w (.bool (x == y))) := by
  have HN := Lib.hid (tcmp_int x y hx hy)
  have HE := Lib.hid (show (cmpI x y == 0) = (x == y) by
    unfold cmpI
    by_cases h1 : x < y
    · rw [if_pos h1, show (x == y) = false by rw [beq_eq_false_iff_ne]; omega]; rfl
    · rw [if_neg h1]
      by_cases h2 : y < x
      · rw [if_pos h2, show (x == y) = false by rw [beq_eq_false_iff_ne]; omega]; rfl
      · rw [if_neg h2, show (x == y) = true by rw [beq_iff_eq]; omega]; rfl)
  generalize cmpI x y = c at *
  generalize hd : (x == y) = d at *
  clear hx hy hd
  go_enter Try.func24, Try.ntmps24
  go_wp2_with fail
  refine (HN.out _).mono ?_
  rintro e w1 ⟨rfl, hb1⟩
  have HB := Lib.hid (two_boxes w x y hb1).2.2.1
  clear hb1
  go_wp2_with fail
  go_ret
  exact ⟨ret_bool HE.out, HB.out⟩
end Go.Proofs.Ytlgpdpadaknnaaa
