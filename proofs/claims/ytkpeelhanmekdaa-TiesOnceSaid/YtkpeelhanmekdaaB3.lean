/- Maps by ids, in memory. -/
import Derived.Test.YtkpeelhanmekdaaB0
import Derived.Maps.RangeWalk
namespace Go.Proofs.Ytkpeelhanmekdaa
set_option linter.unusedVariables false
set_option linter.unusedSimpArgs false
set_option linter.constructorNameAsVariable false
open Go.RowKit Go.Maps
set_option maxRecDepth 100000

/-- how an element reads: as itself -/
def heldR (v : Value) : Option (DataW Value × List MemPlace) := some (.held v, [])
/-- block m is a map of these entries -/
def mapAt (w : World) (m : Nat) (l : List (Idd × Value)) : Prop := ∃ D, w.ownsMap Try.prog 31 heldR m l.length D ∧ MapIs D l
theorem own_tight {w : World} {m n : Nat} {D : DataW Value} (h : w.ownsMap Try.prog 31 heldR m n D) : w.ownsMap Try.prog 31 heldR m (Maps.size D) D := by
  obtain ⟨es, clock, hb, F, _, rfl⟩ := h
  exact ⟨es, clock, hb, F, by simp [Maps.size, length_read], rfl⟩
theorem mapAt.lt {w : World} {m : Nat} {l : List (Idd × Value)} (h : mapAt w m l) : m < w.heap.size := by
  obtain ⟨D, ho, _⟩ := h
  exact ho.lt
theorem mapAt.is {w : World} {m : Nat} {l : List (Idd × Value)} (h : mapAt w m l) : ∀ p ∈ l, IdIn p.1 := by
  obtain ⟨D, _, hm⟩ := h
  exact hm.ids
theorem mapAt.nd {w : World} {m : Nat} {l : List (Idd × Value)} (h : mapAt w m l) : (l.map (·.1)).Nodup := by
  obtain ⟨D, _, hm⟩ := h
  exact hm.nd
theorem mapAt.block {w w' : World} {m : Nat} {l : List (Idd × Value)} (h : mapAt w m l) (e : w'.heap[m]? = w.heap[m]?) : mapAt w' m l := by
  obtain ⟨D, ⟨es, clock, hb, F, hs, hD⟩, hm⟩ := h
  exact ⟨D, ⟨es, clock, e.trans hb, F, hs, hD⟩, hm⟩
theorem mapAt_new (w : World) : mapAt (w.alloc (.map #[] 0)) w.heap.size [] := ⟨_, World.ownsMap_made w _ _ _, mapIs_nil⟩
theorem mapAt_obj {w : World} {m : Nat} {l : List (Idd × Value)} (h : mapAt w m l) : ∃ es clock, w.heap[m]? = some (.map es clock) := by
  obtain ⟨D, ⟨es, clock, hb, _⟩, _⟩ := h
  exact ⟨es, clock, hb⟩
/-- an entry there: its element; none: the element that is given -/
def Found (l : List (Idd × Value)) (x : Idd) (z v : Value) (y : Bool) : Prop := (y = true ∧ (x, v) ∈ l) ∨ (y = false ∧ v = z ∧ x ∉ l.map (·.1))
theorem found_ways (l : List (Idd × Value)) (x : Idd) (z : Value) : ∃ v y, Found l x z v y := by
  by_cases h : x ∈ l.map (·.1)
  · obtain ⟨p, hp, rfl⟩ := List.mem_map.1 h
    exact ⟨p.2, true, .inl ⟨rfl, hp⟩⟩
  · exact ⟨z, false, .inr ⟨rfl, rfl, h⟩⟩
theorem found_at {D : DataW Value} {l : List (Idd × Value)} (h : MapIs D l) {x : Idd} (hx : IdIn x) {z v : Value} {y : Bool} (hf : Found l x z v y) : D.atKey (keyI x) (.held z) = .held v ∧ Maps.has D (keyI x) = y := by
  rcases hf with ⟨rfl, hm⟩ | ⟨rfl, rfl, hn⟩
  · exact ⟨h.at' (x, v) hm _, (h.hasI hx).2 (List.mem_map_of_mem (f := (·.1)) hm)⟩
  · have hf : Maps.has D (keyI x) = false := by
      cases hh : Maps.has D (keyI x) with
      | false => rfl
      | true => exact absurd ((h.hasI hx).1 hh) hn
    refine ⟨?_, hf⟩
    exact atKey_of_not_has hf _

section
variable (w : World) {ops : Array Oper} {rest : List Oper} {o : Oper} {a : Act} {Q : Exit → Act → World → Prop}
/-- 'v, ok := m[k]' -/
theorem wpList_mlook_ok (hg : o.guard = none) (m x : Operand) (t e : TypeId) (hop : o.op = Op.lookup t m x true) (ht : Try.prog.underlying t = some (.map 31 e)) (z : Value) (hz : (zeroValue e).run Try.prog w = .ok z w) (b : Nat) (l : List (Idd × Value))
    (hm : a.eval m = .map (some b)) (hown : mapAt w b l) (k : Idd) (hk : IdIn k) (hx : a.eval x = idV k) (v : Value) (y : Bool) (hf : Found l k z v y)
    (hK : wpList Try.prog ops Q rest (a.put o.dst (.tuple #[v, .bool y])) w) : wpList Try.prog ops Q (o :: rest) a w := by
  obtain ⟨D, ho, hi⟩ := hown
  obtain ⟨h1, h2⟩ := found_at hi hk hf
  refine wpList_lookup_own_ok w hg m x t hop 31 e lawI ht heldR hz (.held z) [] rfl b l.length D hm ho (idV k) (keyI k) hx (keyOfI hk) fun v' ps hv => ?_
  rw [h1] at hv
  cases hv
  rw [h2]
  exact hK
/-- 'm[k]' -/
theorem wpList_mlook (hg : o.guard = none) (m x : Operand) (t e : TypeId) (hop : o.op = Op.lookup t m x false) (ht : Try.prog.underlying t = some (.map 31 e)) (z : Value) (hz : (zeroValue e).run Try.prog w = .ok z w) (b : Nat) (l : List (Idd × Value))
    (hm : a.eval m = .map (some b)) (hown : mapAt w b l) (k : Idd) (hk : IdIn k) (hx : a.eval x = idV k) (v : Value) (y : Bool) (hf : Found l k z v y)
    (hK : wpList Try.prog ops Q rest (a.put o.dst v) w) : wpList Try.prog ops Q (o :: rest) a w := by
  obtain ⟨D, ho, hi⟩ := hown
  obtain ⟨h1, h2⟩ := found_at hi hk hf
  refine wpList_plain hg fun K' hK' => ?_
  obtain ⟨v', ps, hrun, hv⟩ := ho.lookup lawI ht hz (zd := .held z) (zp := []) rfl (keyOfI hk)
  rw [h1] at hv
  cases hv
  unfold Oper.wp
  simp [execOp, hop, hm, hx, hrun, Result.andThen]
  exact hK' _ _ hK
/-- 'm[k] = v' at a new key -/
theorem wpList_mset (hg : o.guard = none) (m x v : Operand) (t e : TypeId) (hop : o.op = Op.mapUpdate t m x v) (ht : Try.prog.underlying t = some (.map 31 e)) (b : Nat) (l : List (Idd × Value))
    (hm : a.eval m = .map (some b)) (hown : mapAt w b l) (hn : l.length < maxLen) (k : Idd) (hk : IdIn k) (hx : a.eval x = idV k) (val : Value) (hv : a.eval v = val) (hnew : k ∉ l.map (·.1))
    (hK : ∀ w', mapAt w' b (l ++ [(k, val)]) → w.mapTurned w' b → wpList Try.prog ops Q rest (a.put o.dst undef) w') : wpList Try.prog ops Q (o :: rest) a w := by
  obtain ⟨D, ho, hi⟩ := hown
  refine wpList_mapUpdate_in w hg m x v t hop 31 e lawI ht heldR b l.length D hm ho hn (idV k) val (keyI k) hx hv (keyOfI hk) (.held val) [] rfl fun w' h1 h2 => hK w' ⟨_, ?_, hi.put hk hnew val⟩ h2
  rw [List.length_append]
  exact h1
/-- 'delete(m, k)' -/
theorem wpList_mdel (hg : o.guard = none) (m x : Operand) (t e : TypeId) (hop : o.op = Op.call { callee := Callee.builtin Builtin.delete, args := #[m, x], argTypes := #[t, 31] }) (ht : Try.prog.underlying t = some (.map 31 e)) (b : Nat) (l : List (Idd × Value))
    (hm : a.eval m = .map (some b)) (hown : mapAt w b l) (k : Idd) (hk : IdIn k) (hx : a.eval x = idV k)
    (hK : ∀ w', mapAt w' b (without l k) → w.mapTurned w' b → wpList Try.prog ops Q rest (a.put o.dst (.tuple #[])) w') : wpList Try.prog ops Q (o :: rest) a w := by
  obtain ⟨D, ho, hi⟩ := hown
  refine wpList_delete_own w hg m x t 31 hop e lawI ht heldR b l.length D hm ho (idV k) (keyI k) hx (keyOfI hk) fun w' h1 h2 => hK w' ⟨_, ?_, hi.del hk⟩ h2
  have := own_tight h1
  rwa [(hi.del hk).size] at this
/-- 'len(m)' -/
theorem wpList_mlen (hg : o.guard = none) (m : Operand) (t e : TypeId) (hop : o.op = Op.call { callee := Callee.builtin Builtin.len, args := #[m], argTypes := #[t] }) (ht : Try.prog.underlying t = some (.map 31 e)) (b : Nat) (l : List (Idd × Value))
    (hm : a.eval m = .map (some b)) (hown : mapAt w b l) (hK : wpList Try.prog ops Q rest (a.put o.dst (.int .i64 l.length)) w) : wpList Try.prog ops Q (o :: rest) a w := by
  obtain ⟨D, ho, hi⟩ := hown
  refine wpList_len_own w hg m t hop 31 e ht heldR b l.length D hm ho ?_
  rw [hi.size]
  exact hK
theorem fit_nil {es : Array MapEntry} {clock : Nat} (F : Go.WideElems.Fit Try.prog 31 heldR es clock) : Go.WideElems.Fit Try.prog 31 heldR #[] clock :=
  ⟨by simp, (Go.MapKept.stamped_iff #[] clock).2 ⟨by simp, by simp, by simp⟩, by simp⟩
/-- 'clear(m)' -/
theorem wpList_mclear (hg : o.guard = none) (m : Operand) (t e : TypeId) (hop : o.op = Op.call { callee := Callee.builtin Builtin.clear, args := #[m], argTypes := #[t] }) (ht : Try.prog.underlying t = some (.map 31 e)) (b : Nat) (l : List (Idd × Value))
    (hm : a.eval m = .map (some b)) (hown : mapAt w b l) (hK : ∀ w', mapAt w' b [] → w.mapTurned w' b → wpList Try.prog ops Q rest (a.put o.dst (.tuple #[])) w') : wpList Try.prog ops Q (o :: rest) a w := by
  obtain ⟨D, ⟨es, clock, hb, F, hs, rfl⟩, hi⟩ := hown
  have hrun : (Builtin.clear_ #[t] o.type #[.map (some b)]).run Try.prog w = .ok (.tuple #[]) (Go.ChangeMaps.setBlock w b (.map #[] clock)) := by
    simp [Builtin.clear_, run_underlying ht, MapKept.run_getObj_map hb, MapKept.run_setObj_map _ hb, Result.andThen, Go.ChangeMaps.setBlock]
  refine wpList_plain hg fun K' hK' => ?_
  unfold Oper.wp
  simp [execOp, hop, resolve, invoke, builtin, hm, hrun, Result.andThen]
  exact hK' _ _ (hK _ ⟨_, ⟨#[], clock, Go.ChangeMaps.heap_setBlock_same hb _, fit_nil F, by simp, rfl⟩, mapIs_nil⟩ ⟨es, clock, #[], clock, hb, rfl⟩)
end
end Go.Proofs.Ytkpeelhanmekdaa
