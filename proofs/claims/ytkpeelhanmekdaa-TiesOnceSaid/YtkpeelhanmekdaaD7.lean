/- TiesOnce: plain facts on which ties are left, and their numbers. -/
import Derived.Test.YtkpeelhanmekdaaD3
namespace Go.Proofs.Ytkpeelhanmekdaa
set_option linter.unusedVariables false
set_option linter.unusedSimpArgs false
set_option linter.constructorNameAsVariable false
open Go.Shelf Go.RowKit Go.Lib Go.Proofs
set_option maxRecDepth 100000

abbrev idL (i : Nat) : Idd := ⟨2 + i % 3, 1, 10 + i⟩
abbrev idW (i : Nat) : Idd := ⟨1, 1, 100 + i⟩
abbrev idT (i : Nat) : Idd := ⟨2 + i % 3, 1, 200 + i⟩
abbrev prM (i : Nat) : Idd × Idd := (idW i, idL i)
abbrev prT (i : Nat) : Idd × Idd := (idT i, idL i)
theorem idL_inj {i j : Nat} (h : idL i = idL j) : i = j := by
  have := congrArg Idd.n h
  simp at this
  omega
theorem idW_inj {i j : Nat} (h : idW i = idW j) : i = j := by
  have := congrArg Idd.n h
  simp at this
  omega
theorem idT_inj {i j : Nat} (h : idT i = idT j) : i = j := by
  have := congrArg Idd.n h
  simp at this
  omega
theorem okL (i : Nat) (h : i < 80) : IdOk (idL i) := ⟨show 1 ≤ 2 + i % 3 by omega, show 2 + i % 3 ≤ 64 by omega, Nat.le_refl 1, show 1 ≤ 4294967295 by decide, show 1 ≤ 10 + i by omega, show 10 + i ≤ 18446744073709551615 by omega⟩
theorem okW (i : Nat) (h : i < 80) : IdOk (idW i) := ⟨show 1 ≤ 1 by omega, show 1 ≤ 64 by omega, Nat.le_refl 1, show 1 ≤ 4294967295 by decide, show 1 ≤ 100 + i by omega, show 100 + i ≤ 18446744073709551615 by omega⟩
theorem okT (i : Nat) (h : i < 80) : IdOk (idT i) := ⟨show 1 ≤ 2 + i % 3 by omega, show 2 + i % 3 ≤ 64 by omega, Nat.le_refl 1, show 1 ≤ 4294967295 by decide, show 1 ≤ 200 + i by omega, show 200 + i ≤ 18446744073709551615 by omega⟩
/-- those of k that m names -/
def sel {α : Type} (k : Nat) (m : Nat → Bool) (f : Nat → α) : List α := ((List.range k).filter m).map f
theorem sel_mem {α : Type} {k : Nat} {m : Nat → Bool} {f : Nat → α} {y : α} (h : y ∈ sel k m f) : ∃ i, i < k ∧ m i = true ∧ y = f i := by
  obtain ⟨i, hi, rfl⟩ := List.mem_map.1 h
  obtain ⟨h1, h2⟩ := List.mem_filter.1 hi
  exact ⟨i, List.mem_range.1 h1, h2, rfl⟩
theorem sel_in {α : Type} {k : Nat} {m : Nat → Bool} {f : Nat → α} {i : Nat} (hi : i < k) (h : m i = true) : f i ∈ sel k m f :=
  List.mem_map_of_mem (List.mem_filter.2 ⟨List.mem_range.2 hi, h⟩)
theorem sel_map {α β : Type} (k : Nat) (m : Nat → Bool) (f : Nat → α) (g : α → β) : (sel k m f).map g = sel k m (fun i => g (f i)) := by
  unfold sel
  rw [List.map_map]
  rfl
theorem sel_succ {α : Type} (k : Nat) (m : Nat → Bool) (f : Nat → α) : sel (k + 1) m f = sel k m f ++ (if m k = true then [f k] else []) := by
  unfold sel
  rw [List.range_succ, List.filter_append, List.map_append]
  congr 1
  cases h : m k <;> simp [h]
theorem sel_all {α : Type} (k : Nat) (m : Nat → Bool) (f : Nat → α) (h : ∀ i, i < k → m i = true) : sel k m f = (List.range k).map f := by
  unfold sel
  rw [List.filter_eq_self.2 fun i hi => h i (List.mem_range.1 hi)]
theorem sel_congr {α : Type} {k : Nat} {m m' : Nat → Bool} {f : Nat → α} (h : ∀ i, i < k → m i = m' i) : sel k m f = sel k m' f := by
  unfold sel
  rw [List.filter_congr fun i hi => h i (List.mem_range.1 hi)]
theorem sel_len {α : Type} (k : Nat) (m : Nat → Bool) (f : Nat → α) : (sel k m f).length ≤ k := by
  unfold sel
  rw [List.length_map]
  exact Nat.le_trans (List.length_filter_le _ _) (by simp)
theorem codeL_sel {k : Nat} {m : Nat → Bool} {f : Nat → Idd} (hf : ∀ i j, f i = f j → i = j) {j : Nat} (hj : j < k) : codeL (sel k m f) (f j) = if m j = true then 0 else 222 := by
  by_cases h : m j = true
  · rw [if_pos h, codeL_in (sel_in hj h)]
  · rw [if_neg h, codeL_out]
    intro hm
    obtain ⟨i, hi, h1, h2⟩ := sel_mem hm
    exact h (hf j i h2 ▸ h1)
open Classical in
theorem dropL_sel {k : Nat} {m : Nat → Bool} {f : Nat → Idd} (hf : ∀ i j, f i = f j → i = j) (j : Nat) : dropL (sel k m f) (f j) = sel k (fun i => m i && decide (i ≠ j)) f := by
  unfold dropL sel
  rw [List.filter_map, List.filter_filter]
  congr 1
  apply List.filter_congr
  intro i _
  simp only [Function.comp]
  rw [Bool.and_comm]
  congr 1
  apply decide_eq_decide.2
  exact ⟨fun h e => h (by rw [e]), fun h e => h (hf i j e)⟩
open Classical in
theorem dropM_sel {k : Nat} {m : Nat → Bool} {f g : Nat → Idd} (hf : ∀ i j, f i = f j → i = j) (j : Nat) : dropM (sel k m fun i => (f i, g i)) (f j) = sel k (fun i => m i && decide (i ≠ j)) fun i => (f i, g i) := by
  unfold dropM sel
  rw [List.filter_map, List.filter_filter]
  congr 1
  apply List.filter_congr
  intro i _
  simp only [Function.comp]
  rw [Bool.and_comm]
  congr 1
  apply decide_eq_decide.2
  exact ⟨fun h e => h (by rw [e]), fun h e => h (hf i j e)⟩
/-- how many of the first x are heard of, are told -/
def cnt (p : Nat → Bool) (x : Nat) : Nat := ((List.range x).filter p).length
theorem cnt_succ (p : Nat → Bool) (x : Nat) : cnt p (x + 1) = cnt p x + if p x = true then 1 else 0 := by
  unfold cnt
  rw [List.range_succ, List.filter_append, List.length_append]
  congr 1
  cases h : p x <;> simp [h]
theorem cnt_le (p : Nat → Bool) (x : Nat) : cnt p x ≤ x := by
  unfold cnt
  exact Nat.le_trans (List.length_filter_le _ _) (by simp)
def heardB (lf : Nat → Bool) (nd x : Nat) : Bool := lf x && decide (2 + x / 3 % 3 = nd) && decide (x % 3 < 2)
def toldB (lf : Nat → Bool) (nd x : Nat) : Bool := lf x && !decide (2 + x / 3 % 3 = nd) && decide (x % 3 ≠ 1)
abbrev mL (lf : Nat → Bool) (k : Nat) : List Idd := sel k (fun i => lf (3 * i)) idL
abbrev mM (lf : Nat → Bool) (k : Nat) : List (Idd × Idd) := sel k (fun i => lf (3 * i + 1)) prM
abbrev mT (lf : Nat → Bool) (k : Nat) : List (Idd × Idd) := sel k (fun i => lf (3 * i + 2)) prT
theorem cnt3 (p : Nat → Bool) (k : Nat) : cnt p (3 * (k + 1)) = cnt p (3 * k) + (if p (3 * k) = true then 1 else 0) + (if p (3 * k + 1) = true then 1 else 0) + (if p (3 * k + 2) = true then 1 else 0) := by
  rw [show 3 * (k + 1) = 3 * k + 1 + 1 + 1 by omega, cnt_succ, cnt_succ, cnt_succ]
theorem heard_all (lf : Nat → Bool) (nd : Nat) : ∀ k, cnt (heardB lf nd) (3 * k) = (hereL nd (mL lf k)).length + (hereM nd (mM lf k)).length
  | 0 => rfl
  | k + 1 => by
    have ih := heard_all lf nd k
    have d0 : 3 * k / 3 = k := by omega
    have d1 : (3 * k + 1) / 3 = k := by omega
    have d2 : (3 * k + 2) / 3 = k := by omega
    have r0 : 3 * k % 3 = 0 := by omega
    have r1 : (3 * k + 1) % 3 = 1 := by omega
    have r2 : (3 * k + 2) % 3 = 2 := by omega
    rw [cnt3, ih]
    unfold mL mM
    rw [sel_succ, sel_succ]
    unfold hereL hereM heardB
    rw [List.filter_append, List.filter_append, List.length_append, List.length_append]
    simp only [d0, d1, d2, r0, r1, r2]
    by_cases h : 2 + k % 3 = nd <;> cases h0 : lf (3 * k) <;> cases h1 : lf (3 * k + 1) <;> simp [h] <;> omega
theorem told_all (lf : Nat → Bool) (nd : Nat) : ∀ k, cnt (toldB lf nd) (3 * k) = (awayL nd (mL lf k)).length + (awayM nd (mT lf k)).length
  | 0 => rfl
  | k + 1 => by
    have ih := told_all lf nd k
    have d0 : 3 * k / 3 = k := by omega
    have d1 : (3 * k + 1) / 3 = k := by omega
    have d2 : (3 * k + 2) / 3 = k := by omega
    have r0 : 3 * k % 3 = 0 := by omega
    have r1 : (3 * k + 1) % 3 = 1 := by omega
    have r2 : (3 * k + 2) % 3 = 2 := by omega
    rw [cnt3, ih]
    unfold mL mT
    rw [sel_succ, sel_succ]
    unfold awayL awayM toldB
    rw [List.filter_append, List.filter_append, List.length_append, List.length_append]
    simp only [d0, d1, d2, r0, r1, r2]
    by_cases h : 2 + k % 3 = nd <;> cases h0 : lf (3 * k) <;> cases h2 : lf (3 * k + 2) <;> simp [h] <;> omega
theorem here_away (nd : Nat) (L : List Idd) : (hereL nd (awayL nd L)).length = 0 := by
  unfold hereL awayL
  rw [List.filter_filter, List.length_eq_zero_iff, List.filter_eq_nil_iff]
  intro x _
  simp
theorem here_awayM (nd : Nat) (M : List (Idd × Idd)) : (hereM nd (awayM nd M)).length = 0 := by
  unfold hereM awayM
  rw [List.filter_filter, List.length_eq_zero_iff, List.filter_eq_nil_iff]
  intro x _
  simp
theorem away_away (nd : Nat) (L : List Idd) : awayL nd (awayL nd L) = awayL nd L := by
  unfold awayL
  rw [List.filter_filter]
  simp
theorem away_awayM (nd : Nat) (M : List (Idd × Idd)) : awayM nd (awayM nd M) = awayM nd M := by
  unfold awayM
  rw [List.filter_filter]
  simp
/-- one is undone -/
def off (lf : Nat → Bool) (x : Nat) : Nat → Bool := fun y => lf y && decide (y ≠ x)
theorem off_L0 (lf : Nat → Bool) (k j : Nat) : mL (off lf (3 * j)) k = sel k (fun i => lf (3 * i) && decide (i ≠ j)) idL := by
  apply sel_congr
  intro i _
  unfold off
  congr 1
  apply decide_eq_decide.2
  omega
theorem off_M0 (lf : Nat → Bool) (k j : Nat) : mM (off lf (3 * j)) k = mM lf k := by
  apply sel_congr
  intro i _
  unfold off
  rw [decide_eq_true (by omega), Bool.and_true]
theorem off_T0 (lf : Nat → Bool) (k j : Nat) : mT (off lf (3 * j)) k = mT lf k := by
  apply sel_congr
  intro i _
  unfold off
  rw [decide_eq_true (by omega), Bool.and_true]
theorem off_L1 (lf : Nat → Bool) (k j : Nat) : mL (off lf (3 * j + 1)) k = mL lf k := by
  apply sel_congr
  intro i _
  unfold off
  rw [decide_eq_true (by omega), Bool.and_true]
theorem off_M1 (lf : Nat → Bool) (k j : Nat) : mM (off lf (3 * j + 1)) k = sel k (fun i => lf (3 * i + 1) && decide (i ≠ j)) prM := by
  apply sel_congr
  intro i _
  unfold off
  congr 1
  apply decide_eq_decide.2
  omega
theorem off_T1 (lf : Nat → Bool) (k j : Nat) : mT (off lf (3 * j + 1)) k = mT lf k := by
  apply sel_congr
  intro i _
  unfold off
  rw [decide_eq_true (by omega), Bool.and_true]
theorem off_L2 (lf : Nat → Bool) (k j : Nat) : mL (off lf (3 * j + 2)) k = mL lf k := by
  apply sel_congr
  intro i _
  unfold off
  rw [decide_eq_true (by omega), Bool.and_true]
theorem off_M2 (lf : Nat → Bool) (k j : Nat) : mM (off lf (3 * j + 2)) k = mM lf k := by
  apply sel_congr
  intro i _
  unfold off
  rw [decide_eq_true (by omega), Bool.and_true]
theorem off_T2 (lf : Nat → Bool) (k j : Nat) : mT (off lf (3 * j + 2)) k = sel k (fun i => lf (3 * i + 2) && decide (i ≠ j)) prT := by
  apply sel_congr
  intro i _
  unfold off
  congr 1
  apply decide_eq_decide.2
  omega
/-- which are left, as the law's slice holds it -/
def bits (lf : Nat → Bool) (n : Nat) : List Value := (List.range n).map fun y => .bool (lf y)
theorem bits_len (lf : Nat → Bool) (n : Nat) : (bits lf n).length = n := by simp [bits]
theorem bits_get (lf : Nat → Bool) {n y : Nat} (h : y < n) : (bits lf n)[y]? = some (.bool (lf y)) := by simp [bits, h]
theorem bits_off (lf : Nat → Bool) (n x : Nat) : (bits lf n).set x (.bool false) = bits (off lf x) n := by
  apply List.ext_getElem?
  intro y
  rw [List.getElem?_set, bits_len]
  by_cases h : y < n
  · rw [bits_get _ h, bits_get _ h]
    by_cases hx : x = y
    · subst hx
      simp [h, off]
    · simp [hx, off, Ne.symm hx]
  · have : ∀ lf : Nat → Bool, (bits lf n)[y]? = none := fun lf => List.getElem?_eq_none (by rw [bits_len]; omega)
    rw [this, this]
    by_cases hx : x = y
    · subst hx
      simp [h]
    · simp [hx]
end Go.Proofs.Ytkpeelhanmekdaa
