/- Plain facts on names, their numbers and the map of them; no program here. -/
import Derived.Test.YtdogfkjdoldpiaaRows
import Derived.Maps.Views
import Derived.Maps.Own
import Derived.Maps.OwnSet
namespace Go.Proofs.Ytdogfkjdoldpiaa
open Go.RowKit

/-- May the byte stand in a name? -/
def okb (c : Nat) : Bool := decide (97 ≤ c ∧ c ≤ 122) || decide (65 ≤ c ∧ c ≤ 90) || decide (48 ≤ c ∧ c ≤ 57) || c == 95
def small (c : Nat) : Bool := decide (97 ≤ c ∧ c ≤ 122)
/-- Is it a name? -/
def nameB (s : ByteArray) : Bool :=
  decide (0 < s.size) && decide (s.size ≤ 32) && small (s.data.toList.getD 0 0).toNat && s.data.toList.all (fun c => okb c.toNat)
/-- the first k bytes may stand in a name -/
def okTo (s : ByteArray) (k : Nat) : Prop := ∀ j, j < k → okb (s.data.toList.getD j 0).toNat = true
theorem okTo_zero (s : ByteArray) : okTo s 0 := fun j h => by omega
theorem okTo_succ {s : ByteArray} {k : Nat} (h : okTo s k) (hk : okb (s.data.toList.getD k 0).toNat = true) : okTo s (k + 1) := fun j hj => by
  by_cases e : j = k
  · subst e; exact hk
  · exact h j (by omega)
theorem all_iff (s : ByteArray) : s.data.toList.all (fun c => okb c.toNat) = true ↔ okTo s s.size := by
  rw [List.all_eq_true]
  constructor
  · intro h j hj
    have hj' : j < s.data.toList.length := by simpa using hj
    rw [List.getD_eq_getElem?_getD, List.getElem?_eq_getElem hj', Option.getD_some]
    exact h _ (List.getElem_mem hj')
  · intro h x hx
    obtain ⟨j, hj, rfl⟩ := List.getElem_of_mem hx
    have := h j (by simpa using hj)
    rw [List.getD_eq_getElem?_getD, List.getElem?_eq_getElem hj, Option.getD_some] at this
    exact this
theorem nameB_true {s : ByteArray} (h0 : 0 < s.size) (h1 : s.size ≤ 32) (h2 : small (s.data.toList.getD 0 0).toNat = true) (h3 : okTo s s.size) : nameB s = true := by
  unfold nameB; rw [(all_iff s).2 h3, h2]; simp [h0, h1]
theorem nameB_bad {s : ByteArray} {k : Nat} (hk : k < s.size) (h : okb (s.data.toList.getD k 0).toNat = false) : nameB s = false := by
  have : s.data.toList.all (fun c => okb c.toNat) = false := by
    cases e : s.data.toList.all (fun c => okb c.toNat) with
    | false => rfl
    | true => have := (all_iff s).1 e k hk; rw [h] at this; cases this
  unfold nameB; rw [this]; simp
theorem nameB_first {s : ByteArray} (h : small (s.data.toList.getD 0 0).toNat = false) : nameB s = false := by unfold nameB; rw [h]; simp
theorem nameB_long {s : ByteArray} (h : 32 < s.size) : nameB s = false := by unfold nameB; simp [show ¬ s.size ≤ 32 by omega]
theorem nameB_empty {s : ByteArray} (h : s.size = 0) : nameB s = false := by unfold nameB; simp [h]
theorem nameB_size {s : ByteArray} (h : nameB s = true) : 0 < s.size ∧ s.size ≤ 32 := by
  unfold nameB at h; simp at h; exact ⟨h.1.1.1, h.1.1.2⟩
/-- what one byte's tests say -/
theorem okb_of {c : Nat} (h : (97 ≤ (c : Int) ∧ (c : Int) ≤ 122) ∨ (65 ≤ (c : Int) ∧ (c : Int) ≤ 90) ∨ (48 ≤ (c : Int) ∧ (c : Int) ≤ 57) ∨ (c : Int) = 95) : okb c = true := by
  unfold okb; simp; omega
theorem okb_not {c : Nat} (h1 : (c : Int) < 97 ∨ 122 < (c : Int)) (h2 : (c : Int) < 65 ∨ 90 < (c : Int)) (h3 : (c : Int) < 48 ∨ 57 < (c : Int)) (h4 : ¬ (c : Int) = 95) : okb c = false := by
  unfold okb; simp; omega

/-! ### numbers of names -/
def key (s : ByteArray) : Lit := .string s.data.toList
theorem key_inj {a b : ByteArray} (h : key a = key b) : a = b := by
  cases a with | mk x => cases b with | mk y =>
  simp [key] at h
  congr 1
def num (n : Nat) : DataW Unit := .lit (.int .i64 n)
def mapFrom (D : DataW Unit) (k : Nat) : List ByteArray → DataW Unit
  | [] => D
  | s :: l => mapFrom (D.put (key s) (num k)) (k + 1) l
def mapOf (l : List ByteArray) : DataW Unit := mapFrom (.map []) 0 l
theorem mapFrom_snoc (s : ByteArray) : ∀ (l : List ByteArray) (D : DataW Unit) (k : Nat), mapFrom D k (l ++ [s]) = (mapFrom D k l).put (key s) (num (k + l.length))
  | [], _, _ => by simp [mapFrom]
  | x :: l, D, k => by
    simp only [List.cons_append, mapFrom]
    rw [mapFrom_snoc s l]
    congr 2
    simp; omega
theorem mapOf_snoc (l : List ByteArray) (s : ByteArray) : mapOf (l ++ [s]) = (mapOf l).put (key s) (num l.length) := by
  unfold mapOf; rw [mapFrom_snoc]; simp
theorem isKey (s : ByteArray) : WideAt.IsKeyLit (key s) := trivial
theorem isMap_from : ∀ (l : List ByteArray) (D : DataW Unit) (k : Nat), Maps.IsMap D → Maps.IsMap (mapFrom D k l)
  | [], _, _, h => h
  | _ :: l, _, _, h => isMap_from l _ _ (h.put _ _)
theorem isMap_mapOf (l : List ByteArray) : Maps.IsMap (mapOf l) := isMap_from l _ _ Maps.isMap_empty

/-- where a name stands first -/
def pos : List ByteArray → ByteArray → Option Nat
  | [], _ => none
  | x :: l, s => if x = s then some 0 else (pos l s).map (· + 1)
theorem pos_none_iff : ∀ {l : List ByteArray} {s : ByteArray}, pos l s = none ↔ s ∉ l
  | [], s => by simp [pos]
  | x :: l, s => by
    unfold pos
    by_cases h : x = s
    · simp [h]
    · simp only [if_neg h, Option.map_eq_none_iff, pos_none_iff (l := l), List.mem_cons, not_or]
      exact ⟨fun k => ⟨fun e => h e.symm, k⟩, fun k => k.2⟩
theorem pos_lt : ∀ {l : List ByteArray} {s : ByteArray} {i : Nat}, pos l s = some i → i < l.length ∧ l[i]? = some s
  | [], s, i, h => by simp [pos] at h
  | x :: l, s, i, h => by
    unfold pos at h
    by_cases e : x = s
    · rw [if_pos e] at h; cases h; simp [e]
    · rw [if_neg e] at h
      cases hp : pos l s with
      | none => rw [hp] at h; cases h
      | some j =>
        rw [hp] at h
        simp at h
        subst h
        have := pos_lt hp
        simp; exact this
theorem pos_snoc (l : List ByteArray) (x s : ByteArray) : pos (l ++ [x]) s = (pos l s).or (if x = s then some l.length else none) := by
  induction l with
  | nil => simp [pos]
  | cons y l ih =>
    simp only [List.cons_append, pos]
    by_cases h : y = s
    · simp [h]
    · simp only [if_neg h, ih]
      cases pos l s <;> simp
theorem pos_of_mem {l : List ByteArray} {s : ByteArray} (h : s ∈ l) : ∃ i, pos l s = some i := by
  cases e : pos l s with
  | none => exact absurd h (pos_none_iff.1 e)
  | some i => exact ⟨i, rfl⟩
/-- of a list without repeats, the element at i stands at i -/
theorem pos_at : ∀ {l : List ByteArray}, l.Nodup → ∀ {i : Nat} (h : i < l.length), pos l l[i] = some i
  | [], _, i, h => by simp at h
  | x :: l, hn, 0, _ => by simp [pos]
  | x :: l, hn, i + 1, h => by
    have hn' := List.nodup_cons.1 hn
    have hi : i < l.length := by simpa using h
    have hne : ¬ x = l[i] := fun e => hn'.1 (e ▸ List.getElem_mem hi)
    simp only [List.getElem_cons_succ]
    unfold pos
    rw [if_neg hne, pos_at hn'.2 hi]
    rfl
theorem mapOf_has : ∀ (l : List ByteArray) (s : ByteArray), Maps.has (mapOf l) (key s) = (pos l s).isSome ∧ ((l.Nodup) → (mapOf l).atKey (key s) (num 0) = num ((pos l s).getD 0)) := by
  intro l s
  generalize hn : l.length = n
  induction n generalizing l with
  | zero =>
    have : l = [] := List.eq_nil_of_length_eq_zero hn
    subst this
    exact ⟨rfl, fun _ => rfl⟩
  | succ n ih =>
    obtain ⟨l', x, rfl⟩ : ∃ l' x, l = l' ++ [x] := ⟨l.dropLast, l.getLast (by intro e; simp [e] at hn), (List.dropLast_concat_getLast _).symm⟩
    have hl' : l'.length = n := by simpa using hn
    obtain ⟨h1, h2⟩ := ih l' hl'
    rw [mapOf_snoc, pos_snoc]
    by_cases e : x = s
    · subst e
      constructor
      · rw [Maps.has_put_same (isMap_mapOf l') (isKey x)]; cases pos l' x <;> simp
      · intro hnd
        rw [Maps.atKey_put_same (isMap_mapOf l') (isKey x)]
        have hx : x ∉ l' := by
          rw [List.nodup_append] at hnd
          intro hx
          exact hnd.2.2 x hx x (by simp) rfl
        rw [pos_none_iff.2 hx]
        simp
    · have hne : key s ≠ key x := fun h => e (key_inj h).symm
      constructor
      · rw [Maps.has_put_other hne, h1]; simp [e]
      · intro hnd
        rw [Maps.atKey_put_other hne, h2 (List.nodup_append.1 hnd).1]
        simp [e]
theorem has_mapOf (l : List ByteArray) (s : ByteArray) : Maps.has (mapOf l) (key s) = (pos l s).isSome := (mapOf_has l s).1
theorem at_mapOf {l : List ByteArray} (h : l.Nodup) (s : ByteArray) : (mapOf l).atKey (key s) (num 0) = num ((pos l s).getD 0) := (mapOf_has l s).2 h
end Go.Proofs.Ytdogfkjdoldpiaa
