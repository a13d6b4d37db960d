/- slices.SortFunc over ids: the order is one; rows of ids. -/
import Derived.Test.YtkpeelhanmekdaaB2
import Derived.Test.YtkpeelhanmekdaaB4
import Derived.Shelf.SlSortCmp.InsertionK
import Derived.Laws.AppendOwn
namespace Go.Proofs.Ytkpeelhanmekdaa
set_option linter.unusedVariables false
set_option linter.unusedSimpArgs false
set_option linter.constructorNameAsVariable false
open Go.Shelf Go.RowKit Go.Lib Go.Sort Go.Proofs
set_option maxRecDepth 100000

abbrev IdOk := G.IdOk
abbrev cmpId := G.cmpId
/-- a right id -/
abbrev U := {x : Idd // IdOk x}
instance : Inhabited U := ⟨⟨⟨1, 1, 1⟩, ⟨by decide, by decide, by decide, by decide, by decide, by decide⟩⟩⟩
abbrev encU (x : U) : List Value := (idC x.1).toList
abbrev cfU (x y : U) : Int := cmpId x.1 y.1
theorem cmp_neg (x y : Idd) : cmpId x y < 0 ↔ (x.node < y.node ∨ x.node = y.node ∧ (x.boot < y.boot ∨ x.boot = y.boot ∧ x.n < y.n)) := by
  unfold cmpId G.cmpId G.fst3 G.sgn
  repeat' split
  all_goals omega
theorem swoU : SWO (ltOf cfU) := by
  have h : ∀ x y : U, ltOf cfU x y = decide (x.1.node < y.1.node ∨ x.1.node = y.1.node ∧ (x.1.boot < y.1.boot ∨ x.1.boot = y.1.boot ∧ x.1.n < y.1.n)) := fun x y => by
    unfold ltOf
    exact decide_eq_decide.2 (cmp_neg x.1 y.1)
  constructor
  · intro x
    rw [h]
    simp
  · intro x y z h1 h2
    rw [h] at *
    simp only [decide_eq_true_eq] at *
    omega
  · intro x y z h1 h2
    rw [h] at *
    simp only [decide_eq_false_iff_not] at *
    omega
theorem cmp_lays (blk off size : Nat) (w : World) : CmpLays Try.prog 31 #[] encU 3 cfU blk off size w := by
  intro m os dk hs x y
  refine (G.order_any x.1 y.1 x.2 y.2 _).mono ?_
  rintro e w' ⟨rfl, hb⟩
  exact ⟨rfl, hb.grown⟩
/-- the cells of ids -/
def idcat (l : List Idd) : List Value := l.flatMap fun x => (idC x).toList
theorem idcat_len : ∀ l : List Idd, (idcat l).length = l.length * 3
  | [] => rfl
  | x :: l => by
    have := idcat_len l
    simp only [idcat, List.flatMap_cons, List.length_append, List.length_cons] at *
    simp [idcat] at this
    simp
    omega
theorem idcat_app (l : List Idd) (x : Idd) : idcat (l ++ [x]) = idcat l ++ (idC x).toList := by simp [idcat]
theorem idcat_get : ∀ (l : List Idd) (i j : Nat) (hi : i < l.length) (_ : j < 3), (idcat l)[i * 3 + j]? = (idC l[i])[j]?
  | [], _, _, hi, _ => by simp at hi
  | x :: l, 0, j, _, hj => by
    have e : idcat (x :: l) = (idC x).toList ++ idcat l := rfl
    rw [e, Nat.zero_mul, Nat.zero_add, List.getElem?_append_left (by simp; omega)]
    simp
  | x :: l, i + 1, j, hi, hj => by
    have e : idcat (x :: l) = (idC x).toList ++ idcat l := rfl
    have := idcat_get l i j (by simpa using hi) hj
    rw [e, List.getElem?_append_right (by simp; omega), show (i + 1) * 3 + j - (idC x).toList.length = i * 3 + j by simp; omega, this]
    rfl
theorem id_one (x : Idd) : ∀ u ∈ (idC x).toList, u.oneCell' = true := by simp [Value.oneCell']
theorem encU_one (x : U) : ∀ v ∈ encU x, v.oneCell' = true := id_one x.1
theorem flat_get (l : List U) (t : Nat) (ht : t < l.length * 3) : (idcat (l.map (·.1)))[t]? = some ((flatK encU 3 l.toArray)[t]!) := by
  have e1 := get_flatK encU 3 l.toArray t (by simpa using ht)
  have hi : t / 3 < l.length := by omega
  have hj : t % 3 < 3 := Nat.mod_lt _ (by decide)
  have e2 := idcat_get (l.map (·.1)) (t / 3) (t % 3) (by simpa using hi) hj
  rw [show t / 3 * 3 + t % 3 = t by omega] at e2
  have e3 : (l.toArray[t / 3]! : U) = l[t / 3] := by simp [getElem!_pos, hi]
  rw [e1, e2, e3]
  simp only [List.getElem_map]
  have : ∀ (x : Idd) (j : Nat), j < 3 → (idC x)[j]? = some ((idC x).toList[j]!) := by
    intro x j hj
    rcases j with _ | _ | _ | j
    · rfl
    · rfl
    · rfl
    · omega
  exact this _ _ hj
/-- DOWN: a row of ids, in the sort's words -/
theorem holds_ids {w : World} {base n : Nat} {e : TypeId} {a : Option Addr} {c : Nat} {l : List U} (h : w.ownsRow base e 3 (.slice a n c) n (idcat (l.map (·.1)))) (h0 : n ≠ 0) :
    ∃ g, a = some ⟨g, 0, none⟩ ∧ base ≤ g ∧ g < w.heap.size ∧ l.length = n ∧ HoldsK encU 3 w g 0 l.toArray := by
  have hl : l.length = n := by
    have := h.1
    rw [idcat_len, List.length_map] at this
    omega
  rcases h.2 with ⟨e0, _⟩ | ⟨g, cap, cur, e0, hb, hg, hn, hm, hs, ht⟩
  · injection e0 with _ h2 _
    exact absurd h2 h0
  · injection e0 with e1 _ e3
    subst e1
    refine ⟨g, rfl, hb, (Array.getElem?_eq_some_iff.1 hg).1, hl, fun j hj => ?_⟩
    rw [size_flatK] at hj
    have hj' : j < l.length * 3 := by simpa using hj
    refine ⟨?_, by simp [World.frozen?, hg]⟩
    have e1 := flat_get l j hj'
    rw [← ht, List.getElem?_take, if_pos (by omega), Array.getElem?_toList] at e1
    simp [World.cell?, hg, e1]
/-- UP: the sorted row -/
theorem owns_sorted {w : World} {base n q g c : Nat} {e : TypeId} {xs : List Value} {l : List U} (h : w.ownsRow base e 3 (.slice (some ⟨g, 0, none⟩) n c) n xs) (hl : l.length = n) (os : Array Obj) :
    (sortWorldK encU 3 w g 0 q l.toArray os).ownsRow base e 3 (.slice (some ⟨g, 0, none⟩) n c) n (idcat (l.map (·.1))) := by
  rcases h.2 with ⟨e0, _⟩ | ⟨g', cap', cur, e0, hb, hg, hn, hm, hs, ht⟩
  · cases e0
  · injection e0 with e1 _ e3
    injection e1 with e1
    injection e1 with e1
    subst e1; subst e3
    have hsz : (flatK encU 3 l.toArray).size = n * 3 := by rw [size_flatK]; simp [hl]
    have hgl : g < w.heap.size := (Array.getElem?_eq_some_iff.1 hg).1
    refine ⟨by rw [idcat_len, List.length_map, hl], .inr ⟨g, c, putCells id 0 (flatK encU 3 l.toArray) cur, rfl, hb, ?_, by omega, hm, by simpa [putCells] using hs, ?_⟩⟩
    · unfold sortWorldK putRowK
      rw [heap_grow_old _ os (by rw [size_putRow]; exact hgl)]
      simp [putRow, mapBlock, Sort.ahead, Array.getElem?_modify, hg, onCells]
    · apply List.ext_getElem?
      intro j
      rw [List.getElem?_take, Array.getElem?_toList]
      by_cases hj : j < n * 3
      · have hnc : n * 3 ≤ c * 3 := Nat.mul_le_mul_right 3 hn
        have hjc : j < cur.size := by omega
        simp only [if_pos hj, putCells, Array.getElem?_mapIdx, Array.getElem?_eq_getElem hjc, Option.map_some]
        rw [if_pos (by omega), flat_get l j (by omega)]
        simp
      · rw [if_neg hj, List.getElem?_eq_none (by rw [idcat_len, List.length_map, hl]; omega)]
theorem below_grow {B : Nat} {w0 w : World} (h : RowKit.Below B w0 w) (hB : B ≤ w.heap.size) (os : Array Obj) : RowKit.Below B w0 (grow w os) :=
  ⟨h.os, h.tape, h.output, by have := h.size; simp; omega, fun k hk => by rw [heap_grow_old w os (by omega)]; exact h.block k hk⟩
theorem below_sorted {B : Nat} {w0 w : World} {g q : Nat} {d : Array U} (h : RowKit.Below B w0 w) (hg : B ≤ g) (hB : B ≤ w.heap.size) (os : Array Obj) : RowKit.Below B w0 (sortWorldK encU 3 w g 0 q d os) := by
  unfold sortWorldK putRowK
  refine below_grow ?_ (by rw [size_putRow]; exact hB) os
  exact ⟨h.os, h.tape, h.output, by simpa [putRow, mapBlock, Sort.ahead] using h.size, fun k hk => by
    rw [← h.block k hk]
    simp [putRow, mapBlock, Sort.ahead, Array.getElem?_modify, show g ≠ k by omega]⟩
/-- a list of right ids, as elements -/
theorem lift_ids : ∀ (l : List Idd), (∀ x ∈ l, IdOk x) → ∃ d : List U, d.map (·.1) = l
  | [], _ => ⟨[], rfl⟩
  | x :: l, h => by
    obtain ⟨d, hd⟩ := lift_ids l fun y hy => h y (List.mem_cons_of_mem _ hy)
    exact ⟨⟨x, h x (by simp)⟩ :: d, by simp [hd]⟩
end Go.Proofs.Ytkpeelhanmekdaa
