/- Several texts in one. -/
import Derived.Test.YtgadkiljnebicaaD50
import Derived.Test.YtgadkiljnebicaaD44
set_option linter.unusedVariables false
set_option linter.unusedSimpArgs false
namespace Go.Proofs.Ytgadkiljnebicaa
open Go.Lib (hid)
open Go.RowKit
set_option maxRecDepth 100000
theorem op_load {P : Program} {ops : Array Oper} {o : Oper} {a : Act} {w : World} {K : Act → World → Prop} {Q : Exit → Act → World → Prop} {E : Prop} (hw : Region.wanted o (yielded ops a.tmps) = true) (ty : TypeId) (x : Operand) (ho : o.op = .load ty x)
  (g : Nat) (hx : a.eval x = .pointer (some ⟨g,0,none⟩)) (t : TypeId) (cs : Array Value) (fr : Nat × Nat) (d : TypeDesc) (hg : w.heap[g]? = some (.cells cs t fr))
  (hu : P.underlying ty = some d) (hd : (match d with | .struct _ | .array _ _ => true | _ => false) = true) (hi : (P.info? ty).map (·.size) = some cs.size)
  (h : K (a.put o.dst (.agg cs)) w) : if Region.wanted o (yielded ops a.tmps) = true then Oper.wp P o a w K Q else E := by
 rw [if_pos hw]
 exact wp_load_row ty x ho g hx t cs fr d hg hu hd hi h
theorem op_call {P : Program} {ops : Array Oper} {o : Oper} {a : Act} {w : World} {K : Act → World → Prop} {Q : Exit → Act → World → Prop} {E : Prop} (hw : Region.wanted o (yielded ops a.tmps) = true) (f : FuncId) (args : Array Value) (hrun : (execOp a.eval o).run P w = .ok (.enter f args) w) {R : Ending → World → Prop} (hc : Calls P f args w R)
  (h : ∀ e w',R e w' → ∃ v,e = .returned v ∧ K (a.put o.dst v) w') : if Region.wanted o (yielded ops a.tmps) = true then Oper.wp P o a w K Q else E := by
 rw [if_pos hw]
 unfold Oper.wp
 rw [hrun,Oper.upon_enter]
 refine hc.mono fun e w' hh => ?_
 obtain ⟨v,rfl,hk⟩ := h e w' hh
 exact hk
theorem run_enter {P : Program} {a : Act} {o : Oper} {f : FuncId} {args : Array Operand} {ts : Array TypeId} (ho : o.op = .call { callee := .value (.func f),args := args,argTypes := ts }) (he : ∀ (bs : Array Value) (w : World),(callFunc f bs).run P w = .ok (.enter f bs) w) (w : World) : (execOp a.eval o).run P w = .ok (.enter f (args.map a.eval)) w := by
 unfold execOp
 simp [ho,resolve,invoke,Deferred.ofValue,Act.eval,he]
theorem op_call1 {P : Program} {ops : Array Oper} {o : Oper} {a : Act} {w : World} {K : Act → World → Prop} {Q : Exit → Act → World → Prop} {E : Prop} (hw : Region.wanted o (yielded ops a.tmps) = true) (f : FuncId) (x : Operand) (t : TypeId) (ho : o.op = .call { callee := .value (.func f),args := #[x],argTypes := #[t] }) (he : ∀ (bs : Array Value) (w : World),(callFunc f bs).run P w = .ok (.enter f bs) w)
  (v : Value) (hx : a.eval x = v) {R : Ending → World → Prop} (hc : Calls P f #[v] w R) (h : ∀ e w',R e w' → ∃ v,e = .returned v ∧ K (a.put o.dst v) w') : if Region.wanted o (yielded ops a.tmps) = true then Oper.wp P o a w K Q else E := by
 subst hx
 exact op_call hw f #[a.eval x] (by have := run_enter (a := a) ho he w; simpa using this) hc h
theorem op_call2 {P : Program} {ops : Array Oper} {o : Oper} {a : Act} {w : World} {K : Act → World → Prop} {Q : Exit → Act → World → Prop} {E : Prop} (hw : Region.wanted o (yielded ops a.tmps) = true) (f : FuncId) (x y : Operand) (t u : TypeId) (ho : o.op = .call { callee := .value (.func f),args := #[x,y],argTypes := #[t,u] }) (he : ∀ (bs : Array Value) (w : World),(callFunc f bs).run P w = .ok (.enter f bs) w)
  (v v' : Value) (hx : a.eval x = v) (hy : a.eval y = v') {R : Ending → World → Prop} (hc : Calls P f #[v,v'] w R) (h : ∀ e w',R e w' → ∃ v,e = .returned v ∧ K (a.put o.dst v) w') : if Region.wanted o (yielded ops a.tmps) = true then Oper.wp P o a w K Q else E := by
 subst hx hy
 exact op_call hw f #[a.eval x,a.eval y] (by have := run_enter (a := a) ho he w; simpa using this) hc h
theorem wpAny_hide {P : Program} {md : Region.Mode} {ops : Array Oper} {Q : Exit → Act → World → Prop} {fuel : Nat} {listed : Array Bool} {a : Act} {w : World} (h : ∀ b,b = a → wpAny P md ops Q fuel listed b w) : wpAny P md ops Q fuel listed a w := h a rfl
theorem sq_idok {k : Int} {rest : List Tm} (hg : ∀ p ∈ rest,GoodT 24 p ∧ sizeT p ≤ 4096) (j : Nat) : ((sqTo k rest j).f = I3.zero ∨ (sqTo k rest j).f.ok = true) ∧ ((sqTo k rest j).t = I3.zero ∨ (sqTo k rest j).t.ok = true) ∧ ((sqTo k rest j).r = I3.zero ∨ (sqTo k rest j).r.ok = true) := by
 unfold sqTo Sq.puts
 have hz : ∀ e ∈ ((flds k).zip rest).take j,GoodT 24 e.2 := fun e he => (hg _ (List.of_mem_zip (List.mem_of_mem_take he)).2).1
 generalize ((flds k).zip rest).take j = z at *
 have key : ∀ (z : List (Fld × Tm)),(∀ e ∈ z,GoodT 24 e.2) → ∀ s : Sq,((s.f = I3.zero ∨ s.f.ok = true) ∧ (s.t = I3.zero ∨ s.t.ok = true) ∧ (s.r = I3.zero ∨ s.r.ok = true)) → (((z.foldl (fun s e => s.put e.1 e.2) s).f = I3.zero ∨ (z.foldl (fun s e => s.put e.1 e.2) s).f.ok = true) ∧ ((z.foldl (fun s e => s.put e.1 e.2) s).t = I3.zero ∨ (z.foldl (fun s e => s.put e.1 e.2) s).t.ok = true) ∧ ((z.foldl (fun s e => s.put e.1 e.2) s).r = I3.zero ∨ (z.foldl (fun s e => s.put e.1 e.2) s).r.ok = true)) := by
  intro z
  induction z with
  | nil => intro _ s h; exact h
  | cons e z ih =>
   intro hz s h
   rw [List.foldl_cons]
   refine ih (fun e he => hz e (by simp [he])) _ ?_
   have hgz := good_zero (hz e (by simp))
   obtain ⟨c,p⟩ := e
   cases c
   ·exact ⟨hgz,h.2.1,h.2.2⟩
   ·exact ⟨h.1,hgz,h.2.2⟩
   ·exact ⟨h.1,h.2.1,hgz⟩
   ·exact h
   ·exact h
 exact key z hz _ ⟨.inl rfl,.inl rfl,.inl rfl⟩
theorem sq_pre2 {k : Int} (h1 : 1 ≤ k) (h2 : k ≤ 11) {rest : List Tm} (hl : (flds k).length ≤ rest.length) (hg : ∀ p ∈ rest,GoodT 24 p ∧ sizeT p ≤ 4096) :
  ((hasK k).f = false → (sqTo k rest (flds k).length).f = I3.zero) ∧ ((hasK k).t = false → (sqTo k rest (flds k).length).t = I3.zero) ∧ ((hasK k).r = false → (sqTo k rest (flds k).length).r = I3.zero) ∧
  ((sqTo k rest (flds k).length).f = I3.zero ∨ (sqTo k rest (flds k).length).f.ok = true) ∧ ((sqTo k rest (flds k).length).t = I3.zero ∨ (sqTo k rest (flds k).length).t.ok = true) ∧ ((sqTo k rest (flds k).length).r = I3.zero ∨ (sqTo k rest (flds k).length).r.ok = true) ∧
  (hasN k = false → IntKind.u64.wrap (sqTo k rest (flds k).length).n = 0) ∧ 0 ≤ IntKind.u64.wrap (sqTo k rest (flds k).length).n ∧ (hasX k = false → (sqTo k rest (flds k).length).x = .mk {} []) ∧ (hasX k = true → GoodT 24 (sqTo k rest (flds k).length).x ∧ sizeT (sqTo k rest (flds k).length).x ≤ 4096) := by
 obtain ⟨a1,a2,a3,a4,a5⟩ := has_not h1 h2
 obtain ⟨i1,i2,i3⟩ := sq_idok (k := k) hg (flds k).length
 refine ⟨fun h => sqTo_keep (·.f) .f keep_f k rest _ fun d hd => a1 h d (List.mem_of_mem_take hd),fun h => sqTo_keep (·.t) .t keep_t k rest _ fun d hd => a2 h d (List.mem_of_mem_take hd),fun h => sqTo_keep (·.r) .r keep_r k rest _ fun d hd => a3 h d (List.mem_of_mem_take hd),i1,i2,i3,fun h => ?_,?_,fun h => sqTo_keep (·.x) .x keep_x k rest _ fun d hd => a5 h d (List.mem_of_mem_take hd),fun h => ?_⟩
 ·have e : (sqTo k rest (flds k).length).n = 0 := sqTo_keep (·.n) .n keep_n k rest _ fun d hd => a4 h d (List.mem_of_mem_take hd)
  rw [e]; rfl
 ·generalize (sqTo k rest (flds k).length).n = n
  show 0 ≤ n % 18446744073709551616
  omega
 ·obtain ⟨h3,h4⟩ := sq_x h1 h2 hl h
  rw [h4]
  exact hg _ (List.getElem_mem h3)
theorem doc_same {hd : Hd} {a : Tm} {rest ps : List Tm} {k : Int} {b : Bool} (hh : hd = { kind := 6 }) (ha : a = intT k) (hg : GoodT 24 (.mk hd (a :: rest))) (hs : sizeT (.mk hd (a :: rest)) ≤ 4096) (hal : All2 Alike ps (intT k :: rest)) (hb : b = true ↔ ps = intT k :: rest) :
  ∀ (F1 F2 : Nat → Prop) (c1 c2 : Array Value) (w : World),Rep w F1 (.mk { kind := 6 } ps) c1 → (∀ b,F1 b → b < w.heap.size) → Rep w F2 (.mk hd (a :: rest)) c2 → (∀ b,F2 b → b < w.heap.size) → Calls Try.prog 17 #[.agg c1,.agg c2] w (RB w (.bool b)) := by
 subst hh ha
 intro F1 F2 c1 c2 w h1 hF1 h2 hF2
 have hfl := flat_fin 24 _ hg
 have hfin2 : ∀ x ∈ flatT (.mk { kind := 6 } (intT k :: rest)),HdFin x.1 := fun x hx => (hfl x hx).1
 have hA := flat_all hal
 have hlen := hal.length
 have hA2 : All2 AlikeH (flatT (.mk { kind := 6 } ps)) (flatT (.mk { kind := 6 } (intT k :: rest))) := by
  simp only [flatT]
  exact ⟨.inl (by rw [hlen]),hA⟩
 have hl2 := hA2.length
 have hflen : (flatT (.mk { kind := 6 } (intT k :: rest))).length ≤ 4096 := Nat.le_trans (flatT_le _) hs
 refine same_gen (.mk { kind := 6 } ps) (.mk { kind := 6 } (intT k :: rest)) ?_ hfin2 (by omega) hl2.symm ?_ b ?_ F1 F2 c1 c2 w h1 h2 hF1 hF2
 ·intro x hx
  obtain ⟨i,hi,rfl⟩ := List.mem_iff_getElem.1 hx
  have hi2 : i < (flatT (.mk { kind := 6 } (intT k :: rest))).length := by omega
  rcases hA2.get i hi hi2 with e | ⟨_,hr,him,hbz⟩
  ·rw [e]
   have h3 := hfl _ (List.getElem_mem hi2)
   exact ⟨h3.1,by have := h3.2; omega⟩
  ·refine ⟨?_,by rw [hbz]; decide⟩
   unfold HdFin
   rw [hr,him]
   exact ⟨order_self (by decide),order_self (by decide)⟩
 ·intro i h3 h4
  rcases hA2.get i h3 h4 with e | ⟨hk,_⟩
  ·exact .inl e
  ·exact .inr hk
 ·rw [hb]
  simp only [flatT,hlen,List.cons.injEq,true_and]
  exact (flat_eq hal).symm
end Go.Proofs.Ytgadkiljnebicaa
