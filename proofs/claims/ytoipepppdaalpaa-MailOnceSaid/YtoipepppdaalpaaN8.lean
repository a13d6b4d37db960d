/- Plain: which numbers are left, in order. -/
import Derived.Test.YtoipepppdaalpaaRows
namespace Go.Proofs.Ytoipepppdaalpaa

/-- the numbers that are not gone yet -/
def lft (gs : List Bool) : List Nat := (List.range gs.length).filter fun j => gs.getD j true == false
/-- as messages -/
def msOf (gs : List Bool) : List Int := (lft gs).map fun (j : Nat) => (j : Int)
/-- how many of the first i are left -/
def cnt (gs : List Bool) (i : Nat) : Nat := ((List.range i).filter fun j => gs.getD j true == false).length
theorem msOf_len (gs : List Bool) : (msOf gs).length = (lft gs).length := by simp [msOf]
theorem msOf_at (gs : List Bool) {i : Nat} (h : i < (lft gs).length) : (msOf gs)[i]'(by rw [msOf_len]; exact h) = ((lft gs)[i] : Int) := by simp [msOf]
theorem lft_start (n : Nat) : lft (List.replicate n false) = List.range n := by
  unfold lft
  rw [List.length_replicate, List.filter_eq_self]
  intro j hj
  have : j < n := List.mem_range.1 hj
  simp [this]
theorem lft_mem {gs : List Bool} {j : Nat} (h : j ∈ lft gs) : j < gs.length ∧ gs.getD j true = false := by
  unfold lft at h
  rw [List.mem_filter, List.mem_range] at h
  exact ⟨h.1, by simpa using h.2⟩
theorem lft_le (gs : List Bool) : (lft gs).length ≤ gs.length := by
  have := List.length_filter_le (fun j => gs.getD j true == false) (List.range gs.length)
  simpa [lft] using this
theorem lft_nodup (gs : List Bool) : (lft gs).Nodup := List.nodup_range.filter _
theorem filter_ne_mid {L : List Nat} (hn : L.Nodup) {k : Nat} (hk : k < L.length) : L.filter (fun x => x != L[k]) = L.take k ++ L.drop (k + 1) := by
  have e : L = L.take k ++ L[k] :: L.drop (k + 1) := by rw [List.getElem_cons_drop, List.take_append_drop]
  generalize L[k] = x at *
  generalize L.take k = A at *
  generalize L.drop (k + 1) = C at *
  subst e
  rw [List.nodup_append] at hn
  obtain ⟨_, h2, h3⟩ := hn
  rw [List.nodup_cons] at h2
  rw [List.filter_append, List.filter_cons]
  simp only [bne_self_eq_false, Bool.false_eq_true, if_false]
  rw [List.filter_eq_self.2 (fun a ha => by simp; exact h3 a ha x (by simp)), List.filter_eq_self.2 (fun a ha => by simp; rintro rfl; exact h2.1 ha)]
theorem lft_set {gs : List Bool} {over : Nat} (h : over < (lft gs).length) : lft (gs.set (lft gs)[over] true) = (lft gs).take over ++ (lft gs).drop (over + 1) := by
  rw [← filter_ne_mid (lft_nodup gs) h]
  generalize (lft gs)[over] = j
  unfold lft
  rw [List.length_set, List.filter_filter]
  apply List.filter_congr
  intro x hx
  have hxl : x < gs.length := List.mem_range.1 hx
  by_cases hj : j = x
  · subst hj
    simp [List.getD, hxl]
  · have : x ≠ j := fun e => hj e.symm
    simp [List.getD, hj, this]
theorem cnt_succ (gs : List Bool) (i : Nat) : cnt gs (i + 1) = cnt gs i + (if gs.getD i true = false then 1 else 0) := by
  unfold cnt
  rw [List.range_succ, List.filter_append, List.length_append]
  congr 1
  by_cases h : gs.getD i true = false
  · rw [List.filter_cons_of_pos (by rw [h]; rfl), if_pos h]; rfl
  · rw [List.filter_cons_of_neg (by simpa using h), if_neg h]; rfl
theorem cnt_end (gs : List Bool) : cnt gs gs.length = (lft gs).length := rfl
theorem range_split (i n : Nat) (h : i < n) : List.range n = List.range i ++ i :: (List.range' (i + 1) (n - (i + 1))) := by
  rw [List.range_eq_range', List.range_eq_range', show n = i + (n - i) by omega, ← List.range'_append_1, show n - i = (n - (i + 1)) + 1 by omega, List.range'_succ]
  simp
  omega
theorem lft_at {gs : List Bool} {i : Nat} (h : i < gs.length) (hg : gs.getD i true = false) : ∃ hc : cnt gs i < (lft gs).length, (lft gs)[cnt gs i] = i := by
  have e : lft gs = ((List.range i).filter fun j => gs.getD j true == false) ++ i :: ((List.range' (i + 1) (gs.length - (i + 1))).filter fun j => gs.getD j true == false) := by
    unfold lft
    rw [range_split i gs.length h, List.filter_append, List.filter_cons_of_pos (by rw [hg]; rfl)]
  have hl : cnt gs i < (lft gs).length := by
    rw [e, List.length_append]
    unfold cnt
    simp
  refine ⟨hl, ?_⟩
  have : (lft gs)[cnt gs i]? = some i := by
    rw [e]
    unfold cnt
    rw [List.getElem?_append_right (Nat.le_refl _)]
    simp
  exact (List.getElem?_eq_some_iff.1 this).2
end Go.Proofs.Ytoipepppdaalpaa
