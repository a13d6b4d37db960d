/- Plain facts on names; terms. -/
import Derived.Test.YtkpeelhanmekdaaL0
import Derived.Test.YtkpeelhanmekdaaL1
import Derived.BigRegion
namespace Go.Proofs.Ytkpeelhanmekdaa
set_option linter.unusedVariables false
set_option linter.unusedSimpArgs false
set_option linter.constructorNameAsVariable false
open Go.RowKit
set_option maxRecDepth 100000
/-- May the byte stand in a name? -/
def okb (c : Nat) : Bool := decide (97 ≤ c ∧ c ≤ 122) || decide (65 ≤ c ∧ c ≤ 90) || decide (48 ≤ c ∧ c ≤ 57) || c == 95
def small (c : Nat) : Bool := decide (97 ≤ c ∧ c ≤ 122)
/-- Is it a name? -/
def nameB (s : ByteArray) : Bool :=
  decide (0 < s.size) && decide (s.size ≤ 32) && small (s.data.toList.getD 0 0).toNat && s.data.toList.all (fun c => okb c.toNat)
/-- the first k bytes may stand in a name -/
def okTo (s : ByteArray) (k : Nat) : Prop := ∀ j, j < k → okb (s.data.toList.getD j 0).toNat = true
theorem okTo_zero (s : ByteArray) : okTo s 0 := fun j h => by omega
theorem okTo_succ {s : ByteArray} {k : Nat} (h : okTo s k) (hk : okb (s.data.toList.getD k 0).toNat = true) : okTo s (k + 1) := fun j hj => by
  by_cases e : j = k
  · subst e; exact hk
  · exact h j (by omega)
theorem all_iff (s : ByteArray) : s.data.toList.all (fun c => okb c.toNat) = true ↔ okTo s s.size := by
  rw [List.all_eq_true]
  constructor
  · intro h j hj
    have hj' : j < s.data.toList.length := by simpa using hj
    rw [List.getD_eq_getElem?_getD, List.getElem?_eq_getElem hj', Option.getD_some]
    exact h _ (List.getElem_mem hj')
  · intro h x hx
    obtain ⟨j, hj, rfl⟩ := List.getElem_of_mem hx
    have := h j (by simpa using hj)
    rw [List.getD_eq_getElem?_getD, List.getElem?_eq_getElem hj, Option.getD_some] at this
    exact this
theorem nameB_true {s : ByteArray} (h0 : 0 < s.size) (h1 : s.size ≤ 32) (h2 : small (s.data.toList.getD 0 0).toNat = true) (h3 : okTo s s.size) : nameB s = true := by
  unfold nameB; rw [(all_iff s).2 h3, h2]; simp [h0, h1]
theorem nameB_bad {s : ByteArray} {k : Nat} (hk : k < s.size) (h : okb (s.data.toList.getD k 0).toNat = false) : nameB s = false := by
  have : s.data.toList.all (fun c => okb c.toNat) = false := by
    cases e : s.data.toList.all (fun c => okb c.toNat) with
    | false => rfl
    | true => have := (all_iff s).1 e k hk; rw [h] at this; cases this
  unfold nameB; rw [this]; simp
theorem nameB_first {s : ByteArray} (h : small (s.data.toList.getD 0 0).toNat = false) : nameB s = false := by unfold nameB; rw [h]; simp
theorem nameB_long {s : ByteArray} (h : 32 < s.size) : nameB s = false := by unfold nameB; simp [show ¬ s.size ≤ 32 by omega]
theorem nameB_empty {s : ByteArray} (h : s.size = 0) : nameB s = false := by unfold nameB; simp [h]
theorem nameB_size {s : ByteArray} (h : nameB s = true) : 0 < s.size ∧ s.size ≤ 32 := by
  unfold nameB at h; simp at h; exact ⟨h.1.1.1, h.1.1.2⟩
/-- what one byte's tests say -/
theorem okb_of {c : Nat} (h : (97 ≤ (c : Int) ∧ (c : Int) ≤ 122) ∨ (65 ≤ (c : Int) ∧ (c : Int) ≤ 90) ∨ (48 ≤ (c : Int) ∧ (c : Int) ≤ 57) ∨ (c : Int) = 95) : okb c = true := by
  unfold okb; simp; omega
theorem okb_not {c : Nat} (h1 : (c : Int) < 97 ∨ 122 < (c : Int)) (h2 : (c : Int) < 65 ∨ 90 < (c : Int)) (h3 : (c : Int) < 48 ∨ 57 < (c : Int)) (h4 : ¬ (c : Int) = 95) : okb c = false := by
  unfold okb; simp; omega

/-! ### numbers of names -/
theorem getD_at (s : ByteArray) {k : Nat} (h : k < s.size) : s.data.toList.getD k 0 = s.data[k] := by simp [List.getD, h]
theorem isEmpty_false {s : ByteArray} (h : ¬ s.size = 0) : s.toList.isEmpty = false := by
  rw [Lib.toList_data]
  cases e : s.data.toList with
  | nil => exact absurd (by rw [Lib.size_eq, e]; rfl) h
  | cons a l => rfl
theorem toList_nil {s : ByteArray} (h : s.size = 0) : s.toList = [] := by
  rw [Lib.toList_data]
  exact List.eq_nil_of_length_eq_zero (by rw [← Lib.size_eq]; exact h)

theorem classes (c : Int) (h0 : 0 ≤ c) : (0 ≤ c ∧ c ≤ 47 ∧ (c == 95) = false ∧ decide (c ≤ 122) = true ∧ decide (c ≤ 90) = true ∧ decide (c ≤ 57) = true) ∨
    (48 ≤ c ∧ c ≤ 57 ∧ (c == 95) = false ∧ decide (c ≤ 122) = true ∧ decide (c ≤ 90) = true ∧ decide (c ≤ 57) = true) ∨
    (58 ≤ c ∧ c ≤ 64 ∧ (c == 95) = false ∧ decide (c ≤ 122) = true ∧ decide (c ≤ 90) = true ∧ decide (c ≤ 57) = false) ∨
    (65 ≤ c ∧ c ≤ 90 ∧ (c == 95) = false ∧ decide (c ≤ 122) = true ∧ decide (c ≤ 90) = true ∧ decide (c ≤ 57) = false) ∨
    (91 ≤ c ∧ c ≤ 94 ∧ (c == 95) = false ∧ decide (c ≤ 122) = true ∧ decide (c ≤ 90) = false ∧ decide (c ≤ 57) = false) ∨
    (95 ≤ c ∧ c ≤ 95 ∧ (c == 95) = true ∧ decide (c ≤ 122) = true ∧ decide (c ≤ 90) = false ∧ decide (c ≤ 57) = false) ∨
    (96 ≤ c ∧ c ≤ 96 ∧ (c == 95) = false ∧ decide (c ≤ 122) = true ∧ decide (c ≤ 90) = false ∧ decide (c ≤ 57) = false) ∨
    (97 ≤ c ∧ c ≤ 122 ∧ (c == 95) = false ∧ decide (c ≤ 122) = true ∧ decide (c ≤ 90) = false ∧ decide (c ≤ 57) = false) ∨
    (123 ≤ c ∧ c ≤ c ∧ (c == 95) = false ∧ decide (c ≤ 122) = false ∧ decide (c ≤ 90) = false ∧ decide (c ≤ 57) = false) := by
  by_cases h0 : c ≤ 47
  · exact .inl ⟨by omega, by omega, beq_eq_false_iff_ne.2 (by omega), decide_eq_true (by omega), decide_eq_true (by omega), decide_eq_true (by omega)⟩
  by_cases h1 : c ≤ 57
  · exact .inr (.inl ⟨by omega, by omega, beq_eq_false_iff_ne.2 (by omega), decide_eq_true (by omega), decide_eq_true (by omega), decide_eq_true (by omega)⟩)
  by_cases h2 : c ≤ 64
  · exact .inr (.inr (.inl ⟨by omega, by omega, beq_eq_false_iff_ne.2 (by omega), decide_eq_true (by omega), decide_eq_true (by omega), decide_eq_false (by omega)⟩))
  by_cases h3 : c ≤ 90
  · exact .inr (.inr (.inr (.inl ⟨by omega, by omega, beq_eq_false_iff_ne.2 (by omega), decide_eq_true (by omega), decide_eq_true (by omega), decide_eq_false (by omega)⟩)))
  by_cases h4 : c ≤ 94
  · exact .inr (.inr (.inr (.inr (.inl ⟨by omega, by omega, beq_eq_false_iff_ne.2 (by omega), decide_eq_true (by omega), decide_eq_false (by omega), decide_eq_false (by omega)⟩))))
  by_cases h5 : c ≤ 95
  · exact .inr (.inr (.inr (.inr (.inr (.inl ⟨by omega, by omega, beq_iff_eq.2 (by omega), decide_eq_true (by omega), decide_eq_false (by omega), decide_eq_false (by omega)⟩)))))
  by_cases h6 : c ≤ 96
  · exact .inr (.inr (.inr (.inr (.inr (.inr (.inl ⟨by omega, by omega, beq_eq_false_iff_ne.2 (by omega), decide_eq_true (by omega), decide_eq_false (by omega), decide_eq_false (by omega)⟩))))))
  by_cases h7 : c ≤ 122
  · exact .inr (.inr (.inr (.inr (.inr (.inr (.inr (.inl ⟨by omega, by omega, beq_eq_false_iff_ne.2 (by omega), decide_eq_true (by omega), decide_eq_false (by omega), decide_eq_false (by omega)⟩)))))))
  exact .inr (.inr (.inr (.inr (.inr (.inr (.inr (.inr ⟨by omega, by omega, beq_eq_false_iff_ne.2 (by omega), decide_eq_false (by omega), decide_eq_false (by omega), decide_eq_false (by omega)⟩)))))))
theorem small_of {c : Nat} (h1 : 97 ≤ (c : Int)) (h2 : (c : Int) ≤ 122) : small c = true := by unfold small; simp; omega
theorem small_not {c : Nat} (h : (c : Int) < 97 ∨ 122 < (c : Int)) : small c = false := by unfold small; simp; omega
theorem len_ne {s : ByteArray} (h : ¬ s.size = 0) : ((s.size : Int) == 0) = false := by rw [beq_eq_false_iff_ne]; omega

theorem getB (s : ByteArray) {k : Nat} (h : k < s.size) : (s.data.toList.getD k 0).toNat = (s[k]'h).toNat := by rw [getD_at s h]; rfl
theorem row_same {w w' : World} {base e size : Nat} {v : Value} {n : Nat} {xs : List Value} (h : w.ownsRow base e size v n xs) (hs : ∀ b, v.ownBlock = some b → b < w.heap.size → w'.heap[b]? = w.heap[b]?) : w'.ownsRow base e size v n xs := by
  refine ⟨h.1, ?_⟩
  rcases h.2 with h2 | ⟨g, cap, cur, rfl, hb, hg, r⟩
  · exact .inl h2
  · exact .inr ⟨g, cap, cur, rfl, hb, by rw [hs g rfl (Array.getElem?_eq_some_iff.1 hg).1]; exact hg, r⟩
theorem row_slice {w : World} {base e size : Nat} {v : Value} {n : Nat} {xs : List Value} (h : w.ownsRow base e size v n xs) : ∃ a c, v = .slice a n c := by
  rcases h.2 with ⟨rfl, rfl⟩ | ⟨g, cap, cur, rfl, _⟩
  · exact ⟨_, _, rfl⟩
  · exact ⟨_, _, rfl⟩
theorem heap_setCell_at {w : World} {b o : Nat} {cs : Array Value} {t : TypeId} {fr : Nat × Nat} {u : Value} (h : w.heap[b]? = some (.cells cs t fr)) : (w.setCell ⟨b, o, none⟩ u).heap[b]? = some (.cells (cs.setIfInBounds o u) t fr) := by
  simp [World.setCell, Array.getElem?_modify, h]
/-- a part's own fields -/
structure Hd where
  kind : Int := 0
  n : Int := 0
  re : Nat := 0
  im : Nat := 0
  s : ByteArray := ⟨#[]⟩
  node : Int := 0
  boot : Int := 0
  idn : Int := 0
  b : List UInt8 := []
/-- a term: its own fields and its parts -/
inductive Tm where
  | mk (h : Hd) (l : List Tm)
def inR (n : Int) : Bool := decide (-4611686018427387904 ≤ n ∧ n ≤ 4611686018427387903)
def idOk (node boot idn : Int) : Bool := decide (1 ≤ node ∧ node ≤ 64 ∧ 1 ≤ boot ∧ 1 ≤ idn)
abbrev cellB (c : UInt8) : Value := .int .u8 (c.toNat : Int)
theorem run_store_complex {P : Program} {w : World} {a : Addr} {m : Mode} (k : FloatKind) (p q : Nat) : (store a (.complex k p q) m).run P w = stored P w a (.complex k p q) m := run_store P w a _ m rfl
attribute [local go_sem] run_store_complex
/-- a term's nine cells -/
abbrev hdC (h : Hd) (bv lv : Value) : Array Value := #[.int .i64 h.kind, .int .i64 h.n, .complex .f64 h.re h.im, .string h.s, .int .i64 h.node, .int .u32 h.boot, .int .u64 h.idn, bv, lv]
abbrev nilV : Value := .slice none 0 0
abbrev v1 (n : Int) : Value := .agg #[.int .i64 1, .int .i64 n, .complex .f64 0 0, .string ⟨#[]⟩, .int .i64 0, .int .u32 0, .int .u64 0, nilV, nilV]
theorem cx_eql (w : World) : (binOp .eql 41 (.complex .f64 0 0) (.complex .f64 0 0)).run Try.prog w = .ok (.bool true) w := by kernel_rfl
end Go.Proofs.Ytkpeelhanmekdaa
