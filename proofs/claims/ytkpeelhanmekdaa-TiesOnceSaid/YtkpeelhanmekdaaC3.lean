/- Maps as steps of a region that draws; ties.New, room, Link, Unlink. -/
import Derived.Test.YtkpeelhanmekdaaC2
import Derived.Test.YtkpeelhanmekdaaL1
namespace Go.Proofs.Ytkpeelhanmekdaa
set_option linter.unusedVariables false
set_option linter.unusedSimpArgs false
set_option linter.constructorNameAsVariable false
open Go.Shelf Go.RowKit Go.Lib Go.Proofs
set_option maxRecDepth 100000

section
variable {ops : Array Oper} {o : Oper} {a : Act} {w : World} {K : Act → World → Prop} {Q : Exit → Act → World → Prop} {E : Prop}
theorem step_mlook (hgd : o.guard = none) (m x : Operand) (t e : TypeId) (hop : o.op = Op.lookup t m x false) (ht : Try.prog.underlying t = some (.map 31 e)) (z : Value) (hz : (zeroValue e).run Try.prog w = .ok z w) (b : Nat) (l : List (Idd × Value))
    (hm : a.eval m = .map (some b)) (hown : mapAt w b l) (k : Idd) (hk : IdIn k) (hx : a.eval x = idV k) (v : Value) (y : Bool) (hf : Found l k z v y) (h : K (a.put o.dst v) w) : if Region.wanted o (yielded ops a.tmps) = true then Oper.wp Try.prog o a w K Q else E := by
  rw [if_pos (by simp [Region.wanted, hgd])]
  obtain ⟨D, ho, hi⟩ := hown
  obtain ⟨h1, h2⟩ := found_at hi hk hf
  obtain ⟨v', ps, hrun, hv⟩ := ho.lookup lawI ht hz (zd := .held z) (zp := []) rfl (keyOfI hk)
  rw [h1] at hv
  cases hv
  unfold Oper.wp
  simp [execOp, hop, hm, hx, hrun, Result.andThen]
  exact h
theorem step_mlook_ok (hgd : o.guard = none) (m x : Operand) (t e : TypeId) (hop : o.op = Op.lookup t m x true) (ht : Try.prog.underlying t = some (.map 31 e)) (z : Value) (hz : (zeroValue e).run Try.prog w = .ok z w) (b : Nat) (l : List (Idd × Value))
    (hm : a.eval m = .map (some b)) (hown : mapAt w b l) (k : Idd) (hk : IdIn k) (hx : a.eval x = idV k) (v : Value) (y : Bool) (hf : Found l k z v y) (h : K (a.put o.dst (.tuple #[v, .bool y])) w) : if Region.wanted o (yielded ops a.tmps) = true then Oper.wp Try.prog o a w K Q else E := by
  rw [if_pos (by simp [Region.wanted, hgd])]
  obtain ⟨D, ho, hi⟩ := hown
  obtain ⟨h1, h2⟩ := found_at hi hk hf
  obtain ⟨v', ps, hrun, hv⟩ := ho.look_ok lawI ht hz (zd := .held z) (zp := []) rfl (keyOfI hk)
  rw [h1] at hv
  cases hv
  rw [h2] at hrun
  unfold Oper.wp
  simp [execOp, hop, hm, hx, hrun, Result.andThen]
  exact h
theorem step_mset (hgd : o.guard = none) (m x v : Operand) (t e : TypeId) (hop : o.op = Op.mapUpdate t m x v) (ht : Try.prog.underlying t = some (.map 31 e)) (b : Nat) (l : List (Idd × Value))
    (hm : a.eval m = .map (some b)) (hown : mapAt w b l) (hn : l.length < maxLen) (k : Idd) (hk : IdIn k) (hx : a.eval x = idV k) (val : Value) (hv : a.eval v = val) (hnew : k ∉ l.map (·.1))
    (h : ∀ w', mapAt w' b (l ++ [(k, val)]) → w.mapTurned w' b → K (a.put o.dst undef) w') : if Region.wanted o (yielded ops a.tmps) = true then Oper.wp Try.prog o a w K Q else E := by
  rw [if_pos (by simp [Region.wanted, hgd])]
  obtain ⟨D, ho, hi⟩ := hown
  obtain ⟨w', hrun, r1, r2⟩ := ho.store lawI ht hn (keyOfI hk) (d := .held val) (ps := []) rfl
  unfold Oper.wp
  simp [execOp, hop, hm, hx, hv, hrun, Result.andThen]
  exact h w' ⟨_, by rw [List.length_append]; exact r1, hi.put hk hnew val⟩ r2
theorem step_mdel (hgd : o.guard = none) (m x : Operand) (t e : TypeId) (hop : o.op = Op.call { callee := Callee.builtin Builtin.delete, args := #[m, x], argTypes := #[t, 31] }) (ht : Try.prog.underlying t = some (.map 31 e)) (b : Nat) (l : List (Idd × Value))
    (hm : a.eval m = .map (some b)) (hown : mapAt w b l) (k : Idd) (hk : IdIn k) (hx : a.eval x = idV k)
    (h : ∀ w', mapAt w' b (without l k) → w.mapTurned w' b → K (a.put o.dst (.tuple #[])) w') : if Region.wanted o (yielded ops a.tmps) = true then Oper.wp Try.prog o a w K Q else E := by
  rw [if_pos (by simp [Region.wanted, hgd])]
  obtain ⟨D, ho, hi⟩ := hown
  obtain ⟨w', hrun, r1, r2⟩ := ho.drop lawI ht (keyOfI hk) o.type
  unfold Oper.wp
  simp [execOp, hop, resolve, invoke, builtin, hm, hx, hrun, Result.andThen]
  refine h w' ⟨_, ?_, hi.del hk⟩ r2
  have := own_tight r1
  rwa [(hi.del hk).size] at this
theorem step_mlen (hgd : o.guard = none) (m : Operand) (t e : TypeId) (hop : o.op = Op.call { callee := Callee.builtin Builtin.len, args := #[m], argTypes := #[t] }) (ht : Try.prog.underlying t = some (.map 31 e)) (b : Nat) (l : List (Idd × Value))
    (hm : a.eval m = .map (some b)) (hown : mapAt w b l) (h : K (a.put o.dst (.int .i64 l.length)) w) : if Region.wanted o (yielded ops a.tmps) = true then Oper.wp Try.prog o a w K Q else E := by
  rw [if_pos (by simp [Region.wanted, hgd])]
  obtain ⟨D, ho, hi⟩ := hown
  have hl := ho.len ht o.type
  rw [hi.size] at hl
  unfold Oper.wp
  simp [execOp, hop, resolve, invoke, builtin, hm, hl, Result.andThen]
  exact h
end
theorem zeroB (w : World) : (zeroValue 4).run Try.prog w = .ok (.bool false) w := by kernel_rfl
abbrev id0 : Idd := ⟨0, 0, 0⟩
theorem zeroId (w : World) : (zeroValue 31).run Try.prog w = .ok (idV id0) w := by kernel_rfl
theorem look_link (L : List Idd) (x : Idd) : ∃ y, Found (L.map lv) x (.bool false) (.bool y) y ∧ (y = true ↔ x ∈ L) := by
  by_cases h : x ∈ L
  · exact ⟨true, .inl ⟨rfl, List.mem_map_of_mem (f := lv) h⟩, by simp [h]⟩
  · refine ⟨false, .inr ⟨rfl, rfl, ?_⟩, by simp [h]⟩
    simpa using h
theorem mapAt.len {w : World} {m : Nat} {l : List (Idd × Value)} {t e : TypeId} (h : mapAt w m l) (ht : Try.prog.underlying t = some (.map 31 e)) (ty : TypeId) : (Builtin.len_ #[t] ty #[.map (some m)]).run Try.prog w = .ok (.int .i64 l.length) w := by
  obtain ⟨D, ho, hi⟩ := h
  have hl := ho.len ht ty
  rwa [hi.size] at hl
theorem map_new {w w' : World} {n : Nat} (hn : w.heap.size = n) (h : w'.heap[n]? = (w.alloc (.map #[] 0)).heap[n]?) : mapAt w' n [] := by
  subst hn
  exact (mapAt_new w).block h
theorem new_at (x : Idd) (hx : IdOk x) (w : World) : TiesAt ((((w.alloc (.map #[] 0)).alloc (.map #[] 0)).alloc (.map #[] 0)).alloc (.cells (tiC x w.heap.size (w.heap.size + 1) (w.heap.size + 1 + 1)) 52)) (w.heap.size + 1 + 1 + 1) w.heap.size (w.heap.size + 1) (w.heap.size + 1 + 1) x [] [] [] ∧
    Below w.heap.size w ((((w.alloc (.map #[] 0)).alloc (.map #[] 0)).alloc (.map #[] 0)).alloc (.cells (tiC x w.heap.size (w.heap.size + 1) (w.heap.size + 1 + 1)) 52)) := by
  have hB : ∀ (w : World) (o : Obj), Below w.heap.size w (w.alloc o) := fun w o => (Below.refl _ w).alloc (Nat.le_refl _) o
  have e1 : (w.alloc (.map #[] 0)).heap.size = w.heap.size + 1 := by simp
  have e2 : ((w.alloc (.map #[] 0)).alloc (.map #[] 0)).heap.size = w.heap.size + 1 + 1 := by simp
  have e3 : (((w.alloc (.map #[] 0)).alloc (.map #[] 0)).alloc (.map #[] 0)).heap.size = w.heap.size + 1 + 1 + 1 := by simp
  refine ⟨⟨?_, map_new rfl ?_, map_new e1 ?_, map_new e2 ?_, by omega, by omega, by omega, by simp, by simp, by simp, hx⟩, (((hB w _).trans ((hB _ _).mono (by omega))).trans ((hB _ _).mono (by omega))).trans ((hB _ _).mono (by omega))⟩
  · have := heap_new (((w.alloc (.map #[] 0)).alloc (.map #[] 0)).alloc (.map #[] 0)) (.cells (tiC x w.heap.size (w.heap.size + 1) (w.heap.size + 1 + 1)) 52)
    rwa [e3] at this
  · rw [(hB _ _).block _ (by omega), (hB _ _).block _ (by omega), (hB _ _).block _ (by omega)]
  · rw [(hB _ _).block _ (by omega), (hB _ _).block _ (by omega)]
  · rw [(hB _ _).block _ (by omega)]
/-- New -/
theorem new_any (x : Idd) (hx : IdOk x) (w : World) : Calls Try.prog 5 #[idV x] w (fun e w' => ∃ p ml mm mt, e = .returned (.tuple #[.pointer (some ⟨p, 0, none⟩), .int .i64 0]) ∧ TiesAt w' p ml mm mt x [] [] [] ∧ Below w.heap.size w w' ∧ w.heap.size ≤ p ∧ ∀ b, TS ml mm mt b → w.heap.size ≤ b) := by
  have hmm := @run_makeMap Try.prog
  have HX := Lib.hid hx
  have HM := Lib.hid (may_one x hx (w.heap.size + 1) ((w.alloc (.cells (idC x) 31)).alloc (.cells (idC x) 31)) (by have := heap_new (w.alloc (.cells (idC x) 31)) (.cells (idC x) 31); simpa using this))
  clear hx
  go_enter Try.func5, Try.ntmps5
  go_wp2_with fail
  refine HM.out.mono ?_
  rintro e w1 ⟨rfl, hb1⟩
  have h0 : w1.heap[w.heap.size]? = some (.cells (idC x) 31 (0, 0)) := by
    rw [hb1.block w.heap.size (by simp; omega), ((Below.refl (w.alloc (.cells (idC x) 31)).heap.size (w.alloc (.cells (idC x) 31))).alloc (Nat.le_refl _) (.cells (idC x) 31)).block w.heap.size (by simp)]
    exact heap_new w _
  have c0 : w1.cell? ⟨w.heap.size, 0, none⟩ = some (.int .i64 x.node) := by simp [World.cell?, h0]
  have c1 : w1.cell? ⟨w.heap.size, 1, none⟩ = some (.int .u32 x.boot) := by simp [World.cell?, h0]
  have c2 : w1.cell? ⟨w.heap.size, 2, none⟩ = some (.int .u64 x.n) := by simp [World.cell?, h0]
  have HB1 := Lib.hid ((((Below.refl w.heap.size w).alloc (Nat.le_refl _) (.cells (idC x) 31)).alloc (by simp) (.cells (idC x) 31)).trans (hb1.mono (by simp; omega)))
  clear hb1 h0 HM
  go_wp2_with fail
  go_ret2
  obtain ⟨ht, hbt⟩ := new_at x HX.out w1
  exact ⟨_, _, _, _, rfl, ht, HB1.out.trans (hbt.mono HB1.out.size), by have := HB1.out.size; omega, fun b hb => by have := HB1.out.size; rcases hb with rfl | rfl | rfl <;> omega⟩
/-- room -/
theorem room_any (p ml mm mt : Nat) (me : Idd) (L : List Idd) (M T : List (Idd × Idd)) (w : World) (h : TiesAt w p ml mm mt me L M T) (hl : L.length + M.length + T.length < 256) : Calls Try.prog 16 #[.pointer (some ⟨p, 0, none⟩)] w (RB w (.int .i64 0)) := by
  obtain ⟨c0, c1, c2, c3, c4, c5⟩ := h.six
  have H := Lib.hid h
  have hl' : (L.length : Int) + M.length + T.length < 256 := by omega
  have L1 : (Builtin.len_ #[49] 3 #[.map (some ml)]).run Try.prog w.drew = .ok (.int .i64 L.length) w.drew := by
    have := (h.links.block (w' := w.drew) rfl).len Try.underlying49 3
    rwa [List.length_map] at this
  have L2 : (Builtin.len_ #[50] 3 #[.map (some mm)]).run Try.prog w.drew = .ok (.int .i64 M.length) w.drew := by
    have := (h.mine.block (w' := w.drew) rfl).len Try.underlying50 3
    rwa [List.length_map] at this
  have L3 : (Builtin.len_ #[50] 3 #[.map (some mt)]).run Try.prog w.drew = .ok (.int .i64 T.length) w.drew := by
    have := (h.theirs.block (w' := w.drew) rfl).len Try.underlying50 3
    rwa [List.length_map] at this
  clear h
  go_enter Try.func16, Try.ntmps16
  go_upto_region 1 with fail
  go_region_held3 (fun w' => w'.cell? ⟨p, 3, none⟩ = some (.map (some ml)) ∧ w'.cell? ⟨p, 4, none⟩ = some (.map (some mm)) ∧ w'.cell? ⟨p, 5, none⟩ = some (.map (some mt)) ∧ (Builtin.len_ #[49] 3 #[.map (some ml)]).run Try.prog w' = .ok (.int .i64 L.length) w' ∧ (Builtin.len_ #[50] 3 #[.map (some mm)]).run Try.prog w' = .ok (.int .i64 M.length) w' ∧ (Builtin.len_ #[50] 3 #[.map (some mt)]).run Try.prog w' = .ok (.int .i64 T.length) w') (go_keep) (fail)
  have hd : decide (256 ≤ IntKind.i64.wrap (IntKind.i64.wrap ((L.length : Int) + M.length) + T.length)) = false := by
    rw [decide_eq_false_iff_not]
    simp [IntKind.wrap, IntKind.bits, IntKind.signed]
    omega
  rw [hd]
  clear hd
  go_wp2_with fail
  go_ret
  exact ⟨rfl, (Below.refl _ _).drew⟩
end Go.Proofs.Ytkpeelhanmekdaa
