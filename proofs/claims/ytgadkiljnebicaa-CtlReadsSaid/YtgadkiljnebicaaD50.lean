/- Several texts in one. -/
import Derived.Test.YtgadkiljnebicaaD49
import Derived.Test.YtgadkiljnebicaaD28
import Derived.Test.YtgadkiljnebicaaD47
import Derived.Test.YtgadkiljnebicaaD05
set_option linter.unusedVariables false
set_option linter.unusedSimpArgs false
namespace Go.Proofs.Ytgadkiljnebicaa
open Go.Lib (hid)
open Go.RowKit
set_option maxRecDepth 100000
def All2 {α : Type} (R : α → α → Prop) : List α → List α → Prop
 | [],[] => True
 | a :: l,b :: m => R a b ∧ All2 R l m
 | _,_ => False
theorem All2.length {α : Type} {R : α → α → Prop} : ∀ {l m : List α},All2 R l m → l.length = m.length
 | [],[],_ => rfl
 | _ :: _,_ :: _,h => by simp [h.2.length]
 | [],_ :: _,h => h.elim
 | _ :: _,[],h => h.elim
theorem All2.get {α : Type} {R : α → α → Prop} : ∀ {l m : List α},All2 R l m → ∀ (i : Nat) (h1 : i < l.length) (h2 : i < m.length),R l[i] m[i]
 | [],[],_,i,h,_ => absurd h (by simp)
 | _ :: _,_ :: _,h,0,_,_ => h.1
 | _ :: _,_ :: _,h,i + 1,h1,h2 => h.2.get i (by simpa using h1) (by simpa using h2)
 | [],_ :: _,h,_,_,_ => h.elim
 | _ :: _,[],h,_,_,_ => h.elim
theorem All2.app {α : Type} {R : α → α → Prop} : ∀ {l m l' m' : List α},All2 R l m → All2 R l' m' → All2 R (l ++ l') (m ++ m')
 | [],[],_,_,_,h => h
 | _ :: _,_ :: _,_,_,h,h' => ⟨h.1,h.2.app h'⟩
 | [],_ :: _,_,_,h,_ => h.elim
 | _ :: _,[],_,_,h,_ => h.elim
theorem All2.refl {α : Type} {R : α → α → Prop} (hr : ∀ a,R a a) : ∀ (l : List α),All2 R l l
 | [] => trivial
 | a :: l => ⟨hr a,All2.refl hr l⟩
theorem All2.of {α : Type} {R : α → α → Prop} : ∀ {l m : List α},l.length = m.length → (∀ (i : Nat) (h1 : i < l.length) (h2 : i < m.length),R l[i] m[i]) → All2 R l m
 | [],[],_,_ => trivial
 | _ :: _,_ :: _,h,hg => ⟨hg 0 (by simp) (by simp),All2.of (by simpa using h) fun i h1 h2 => hg (i + 1) (by simpa using h1) (by simpa using h2)⟩
 | [],_ :: _,h,_ => by simp at h
 | _ :: _,[],h,_ => by simp at h
def Alike (t1 t2 : Tm) : Prop := t1 = t2 ∨ ∃ h1 h2 : Hd,t1 = .mk h1 [] ∧ t2 = .mk h2 [] ∧ ¬ h1.kind = h2.kind ∧ h1.re = 0 ∧ h1.im = 0 ∧ h1.b = []
def AlikeH (x y : Hd × Nat) : Prop := x = y ∨ (¬ x.1.kind = y.1.kind ∧ x.1.re = 0 ∧ x.1.im = 0 ∧ x.1.b = [])
theorem flat_all : ∀ {l m : List Tm},All2 Alike l m → All2 AlikeH (flatTs l) (flatTs m)
 | [],[],_ => trivial
 | t1 :: l,t2 :: m,h => by
  simp only [flatTs]
  refine All2.app ?_ (flat_all h.2)
  rcases h.1 with rfl | ⟨h1,h2,rfl,rfl,hk,hr,hi,hb⟩
  ·exact All2.refl (fun a => .inl rfl) _
  ·exact ⟨.inr ⟨hk,hr,hi,hb⟩,trivial⟩
 | [],_ :: _,h => h.elim
 | _ :: _,[],h => h.elim
theorem flat_eq : ∀ {l m : List Tm},All2 Alike l m → (flatTs l = flatTs m ↔ l = m)
 | [],[],_ => by simp
 | t1 :: l,t2 :: m,h => by
  have ih := flat_eq h.2
  rcases h.1 with rfl | ⟨h1,h2,rfl,rfl,hk,_⟩
  ·simp only [flatTs,List.append_cancel_left_eq,List.cons.injEq,true_and]
   exact ih
  ·have hne : ¬ h1 = h2 := fun e => hk (by rw [e])
   simp [flatTs,flatT,hne]
 | [],_ :: _,h => h.elim
 | _ :: _,[],h => h.elim
theorem good_ok {r : Nat} {t : Tm} (h : GoodT r t) (ho : (id3 t).ok = true) : (t.hd.kind = 4 ∨ t.hd.kind = 5) ∧ t = idT t.hd.kind (id3 t) := by
 cases r with
 | zero => exact h.elim
 | succ r =>
  obtain ⟨hd,l⟩ := t
  obtain ⟨h1,_⟩ := h
  cases h1 with
  | id k node boot idn hk _ _ _ _ => exact ⟨by rcases hk with rfl | rfl <;> simp [Tm.hd],rfl⟩
  | int n h => exact absurd ho (by simp [id3,I3.ok,idOk,Tm.hd])
  | cx p q _ _ h => exact absurd ho (by simp [id3,I3.ok,idOk,Tm.hd])
  | atom s h => exact absurd ho (by simp [id3,I3.ok,idOk,Tm.hd])
  | list k _ hk _ => exact absurd ho (by simp [id3,I3.ok,idOk,Tm.hd])
  | bytes b => exact absurd ho (by simp [id3,I3.ok,idOk,Tm.hd])
theorem good_zero {r : Nat} {t : Tm} (h : GoodT r t) : id3 t = I3.zero ∨ (id3 t).ok = true := by
 cases r with
 | zero => exact h.elim
 | succ r =>
  obtain ⟨hd,l⟩ := t
  obtain ⟨h1,_⟩ := h
  cases h1 with
  | id k node boot idn hk _ _ _ h => exact .inr h
  | _ => exact .inl rfl
theorem good_num {r : Nat} {t : Tm} (h : GoodT r t) (hn : ¬ t.hd.n = 0) : t.hd.kind = 1 ∧ t = intT t.hd.n := by
 cases r with
 | zero => exact h.elim
 | succ r =>
  obtain ⟨hd,l⟩ := t
  obtain ⟨h1,_⟩ := h
  cases h1 with
  | int n h => exact ⟨rfl,rfl⟩
  | _ => exact absurd rfl hn
theorem good_int {r : Nat} {t : Tm} (h : GoodT r t) (hk : t.hd.kind = 1) : t = intT t.hd.n := by
 cases r with
 | zero => exact h.elim
 | succ r =>
  obtain ⟨hd,l⟩ := t
  obtain ⟨h1,_⟩ := h
  cases h1 with
  | int n h => rfl
  | id k node boot idn hk2 _ _ _ _ => rcases hk2 with rfl | rfl <;> simp [Tm.hd] at hk
  | list k _ hk2 _ => rcases hk2 with rfl | rfl <;> simp [Tm.hd] at hk
  | _ => exact absurd hk (by simp [Tm.hd])
theorem good_tuple {r : Nat} {h : Hd} {l : List Tm} (hg : GoodT r (.mk h l)) (hk : h.kind = 6) : h = { kind := 6 } := by
 cases r with
 | zero => exact hg.elim
 | succ r =>
  obtain ⟨h1,_⟩ := hg
  cases h1 with
  | id k node boot idn hk2 _ _ _ _ => rcases hk2 with rfl | rfl <;> simp at hk
  | list k _ hk2 _ => rcases hk2 with rfl | rfl <;> first | rfl | (simp at hk)
  | _ => exact absurd hk (by simp)
theorem wrap_small {n : Int} (h1 : -4611686018427387904 ≤ n) (h2 : n ≤ 4611686018427387903) (h : IntKind.u64.wrap n = 1 ∨ IntKind.u64.wrap n = 2) : IntKind.u64.wrap n = n ∧ (n = 1 ∨ n = 2) := by
 have e : IntKind.u64.wrap n = n % 18446744073709551616 := by rfl
 rw [e] at h ⊢
 omega
theorem alike_id {r : Nat} {p : Tm} (kd : Int) (hkd : kd = 4 ∨ kd = 5) (hg : GoodT r p) (ho : (id3 p).ok = true) : Alike (idT kd (id3 p)) p ∧ (p.hd.kind = kd ↔ idT kd (id3 p) = p) := by
 obtain ⟨hk,he⟩ := good_ok hg ho
 by_cases h : p.hd.kind = kd
 ·have e : idT kd (id3 p) = p := by rw [← h]; exact he.symm
  exact ⟨.inl e,fun _ => e,fun _ => h⟩
 ·refine ⟨.inr ⟨{ kind := kd,node := (id3 p).a,boot := (id3 p).b,idn := (id3 p).c },{ kind := p.hd.kind,node := (id3 p).a,boot := (id3 p).b,idn := (id3 p).c },rfl,he,fun e => h e.symm,rfl,rfl,rfl⟩,fun e => absurd e h,fun e => ?_⟩
  rw [← e]
  rfl
theorem alike_n {p : Tm} (hg : GoodT 24 p) (hn : IntKind.u64.wrap p.hd.n = 1 ∨ IntKind.u64.wrap p.hd.n = 2) : intT (IntKind.u64.wrap p.hd.n) = p ∧ p.hd.kind = 1 ∧ (p.hd.n = 1 ∨ p.hd.n = 2) := by
 have hw := part_wf hg
 obtain ⟨h1,h2⟩ := wrap_small hw.1 hw.2 hn
 have h3 : ¬ p.hd.n = 0 := by omega
 obtain ⟨h4,h5⟩ := good_num hg h3
 rw [h1]
 exact ⟨h5.symm,h4,h2⟩
theorem doc_test {k : Int} (h1 : 1 ≤ k) (h2 : k ≤ 11) {rest : List Tm} (hl : (flds k).length = rest.length) (hg : ∀ p ∈ rest,GoodT 24 p ∧ sizeT p ≤ 4096) (hw : wholeB k (sqTo k rest (flds k).length).f (sqTo k rest (flds k).length).t (sqTo k rest (flds k).length).r (sqTo k rest (flds k).length).x (IntKind.u64.wrap (sqTo k rest (flds k).length).n) = true) :
  All2 Alike (sgParts k (sqTo k rest (flds k).length).f (sqTo k rest (flds k).length).t (sqTo k rest (flds k).length).r (sqTo k rest (flds k).length).x (IntKind.u64.wrap (sqTo k rest (flds k).length).n)) (intT k :: rest) ∧
  (fitsB k (flds k) rest = true ↔ sgParts k (sqTo k rest (flds k).length).f (sqTo k rest (flds k).length).t (sqTo k rest (flds k).length).r (sqTo k rest (flds k).length).x (IntKind.u64.wrap (sqTo k rest (flds k).length).n) = intT k :: rest) ∧
  (IntKind.u64.wrap (sqTo k rest (flds k).length).n = 0 ∨ IntKind.u64.wrap (sqTo k rest (flds k).length).n = 1 ∨ IntKind.u64.wrap (sqTo k rest (flds k).length).n = 2) := by
 rcases kind_cases h1 h2 with rfl | rfl | rfl | rfl | rfl | rfl | rfl | rfl | rfl | rfl | rfl
 ·match rest,hl with
  | [p,q,u],_ =>
  have hw2 : wholeB 1 (id3 p) (id3 q) I3.zero u (IntKind.u64.wrap 0) = true := hw
  have hi : idsB 1 (id3 p) (id3 q) I3.zero = ((id3 p).ok && (id3 q).ok && true) := by simp [idsB,hasK,Has.all,Has.p2,Has.p1,idAt,Bool.and_assoc]
  simp only [wholeB,hi,show hasN 1 = false from rfl,show hasX 1 = true from rfl,Bool.and_eq_true,Bool.not_true,Bool.not_false,Bool.false_or,Bool.true_or,Bool.and_true,decide_eq_true_eq] at hw2
  obtain ⟨⟨o0,o1⟩,hs⟩ := hw2
  have a0 := alike_id 5 (by decide) (hg p (by simp)).1 o0
  have a1 := alike_id 5 (by decide) (hg q (by simp)).1 o1
  have e1 : sgParts 1 (id3 p) (id3 q) I3.zero u (IntKind.u64.wrap 0) = [intT 1,idT 5 (id3 p),idT 5 (id3 q),u] := rfl
  show All2 Alike (sgParts 1 (id3 p) (id3 q) I3.zero u (IntKind.u64.wrap 0)) [intT 1,p,q,u] ∧ (fitsB 1 [.f,.t,.x] [p,q,u] = true ↔ sgParts 1 (id3 p) (id3 q) I3.zero u (IntKind.u64.wrap 0) = [intT 1,p,q,u]) ∧ ((IntKind.u64.wrap 0) = 0 ∨ (IntKind.u64.wrap 0) = 1 ∨ (IntKind.u64.wrap 0) = 2)
  rw [e1]
  refine ⟨⟨.inl rfl,a0.1,a1.1,.inl rfl,trivial⟩,?_,.inl (by decide)⟩
  simp only [fitsB,fitB,Bool.and_eq_true,decide_eq_true_eq,List.cons.injEq,true_and,and_true,a0.2,a1.2,hs]
 ·match rest,hl with
  | [p,q],_ =>
  have hw2 : wholeB 2 (id3 p) (id3 q) I3.zero (.mk {} []) (IntKind.u64.wrap 0) = true := hw
  have hi : idsB 2 (id3 p) (id3 q) I3.zero = ((id3 p).ok && (id3 q).ok && true) := by simp [idsB,hasK,Has.all,Has.p2,Has.p1,idAt,Bool.and_assoc]
  simp only [wholeB,hi,show hasN 2 = false from rfl,show hasX 2 = false from rfl,Bool.and_eq_true,Bool.not_true,Bool.not_false,Bool.false_or,Bool.true_or,Bool.and_true,decide_eq_true_eq] at hw2
  obtain ⟨o0,o1⟩ := hw2
  have a0 := alike_id 5 (by decide) (hg p (by simp)).1 o0
  have a1 := alike_id 5 (by decide) (hg q (by simp)).1 o1
  have e1 : sgParts 2 (id3 p) (id3 q) I3.zero (.mk {} []) (IntKind.u64.wrap 0) = [intT 2,idT 5 (id3 p),idT 5 (id3 q)] := rfl
  show All2 Alike (sgParts 2 (id3 p) (id3 q) I3.zero (.mk {} []) (IntKind.u64.wrap 0)) [intT 2,p,q] ∧ (fitsB 2 [.f,.t] [p,q] = true ↔ sgParts 2 (id3 p) (id3 q) I3.zero (.mk {} []) (IntKind.u64.wrap 0) = [intT 2,p,q]) ∧ ((IntKind.u64.wrap 0) = 0 ∨ (IntKind.u64.wrap 0) = 1 ∨ (IntKind.u64.wrap 0) = 2)
  rw [e1]
  refine ⟨⟨.inl rfl,a0.1,a1.1,trivial⟩,?_,.inl (by decide)⟩
  simp only [fitsB,fitB,Bool.and_eq_true,decide_eq_true_eq,List.cons.injEq,true_and,and_true,a0.2,a1.2]
 ·match rest,hl with
  | [p,q],_ =>
  have hw2 : wholeB 3 (id3 p) (id3 q) I3.zero (.mk {} []) (IntKind.u64.wrap 0) = true := hw
  have hi : idsB 3 (id3 p) (id3 q) I3.zero = ((id3 p).ok && (id3 q).ok && true) := by simp [idsB,hasK,Has.all,Has.p2,Has.p1,idAt,Bool.and_assoc]
  simp only [wholeB,hi,show hasN 3 = false from rfl,show hasX 3 = false from rfl,Bool.and_eq_true,Bool.not_true,Bool.not_false,Bool.false_or,Bool.true_or,Bool.and_true,decide_eq_true_eq] at hw2
  obtain ⟨o0,o1⟩ := hw2
  have a0 := alike_id 5 (by decide) (hg p (by simp)).1 o0
  have a1 := alike_id 5 (by decide) (hg q (by simp)).1 o1
  have e1 : sgParts 3 (id3 p) (id3 q) I3.zero (.mk {} []) (IntKind.u64.wrap 0) = [intT 3,idT 5 (id3 p),idT 5 (id3 q)] := rfl
  show All2 Alike (sgParts 3 (id3 p) (id3 q) I3.zero (.mk {} []) (IntKind.u64.wrap 0)) [intT 3,p,q] ∧ (fitsB 3 [.f,.t] [p,q] = true ↔ sgParts 3 (id3 p) (id3 q) I3.zero (.mk {} []) (IntKind.u64.wrap 0) = [intT 3,p,q]) ∧ ((IntKind.u64.wrap 0) = 0 ∨ (IntKind.u64.wrap 0) = 1 ∨ (IntKind.u64.wrap 0) = 2)
  rw [e1]
  refine ⟨⟨.inl rfl,a0.1,a1.1,trivial⟩,?_,.inl (by decide)⟩
  simp only [fitsB,fitB,Bool.and_eq_true,decide_eq_true_eq,List.cons.injEq,true_and,and_true,a0.2,a1.2]
 ·match rest,hl with
  | [p,q,u,v],_ =>
  have hw2 : wholeB 4 (id3 p) (id3 q) I3.zero v (IntKind.u64.wrap u.hd.n) = true := hw
  have hi : idsB 4 (id3 p) (id3 q) I3.zero = ((id3 p).ok && (id3 q).ok && true) := by simp [idsB,hasK,Has.all,Has.p2,Has.p1,idAt,Bool.and_assoc]
  simp only [wholeB,hi,show hasN 4 = true from rfl,show hasX 4 = true from rfl,Bool.and_eq_true,Bool.not_true,Bool.not_false,Bool.false_or,Bool.true_or,Bool.and_true,decide_eq_true_eq] at hw2
  obtain ⟨⟨⟨o0,o1⟩,hn⟩,hs⟩ := hw2
  have a0 := alike_id 5 (by decide) (hg p (by simp)).1 o0
  have a1 := alike_id 5 (by decide) (hg q (by simp)).1 o1
  have an := alike_n (hg u (by simp)).1 hn
  have e1 : sgParts 4 (id3 p) (id3 q) I3.zero v (IntKind.u64.wrap u.hd.n) = [intT 4,idT 5 (id3 p),idT 5 (id3 q),intT (IntKind.u64.wrap u.hd.n),v] := rfl
  show All2 Alike (sgParts 4 (id3 p) (id3 q) I3.zero v (IntKind.u64.wrap u.hd.n)) [intT 4,p,q,u,v] ∧ (fitsB 4 [.f,.t,.n,.x] [p,q,u,v] = true ↔ sgParts 4 (id3 p) (id3 q) I3.zero v (IntKind.u64.wrap u.hd.n) = [intT 4,p,q,u,v]) ∧ ((IntKind.u64.wrap u.hd.n) = 0 ∨ (IntKind.u64.wrap u.hd.n) = 1 ∨ (IntKind.u64.wrap u.hd.n) = 2)
  rw [e1]
  refine ⟨⟨.inl rfl,a0.1,a1.1,.inl an.1,.inl rfl,trivial⟩,?_,.inr hn⟩
  simp only [fitsB,fitB,Bool.and_eq_true,decide_eq_true_eq,List.cons.injEq,true_and,and_true,a0.2,a1.2,an.1,an.2.1,an.2.2,hs]
 ·match rest,hl with
  | [p,q,u],_ =>
  have hw2 : wholeB 5 (id3 p) (id3 q) (id3 u) (.mk {} []) (IntKind.u64.wrap 0) = true := hw
  have hi : idsB 5 (id3 p) (id3 q) (id3 u) = ((id3 p).ok && (id3 q).ok && (id3 u).ok && true) := by simp [idsB,hasK,Has.all,Has.p2,Has.p1,idAt,Bool.and_assoc]
  simp only [wholeB,hi,show hasN 5 = false from rfl,show hasX 5 = false from rfl,Bool.and_eq_true,Bool.not_true,Bool.not_false,Bool.false_or,Bool.true_or,Bool.and_true,decide_eq_true_eq] at hw2
  obtain ⟨⟨o0,o1⟩,o2⟩ := hw2
  have a0 := alike_id 5 (by decide) (hg p (by simp)).1 o0
  have a1 := alike_id 5 (by decide) (hg q (by simp)).1 o1
  have a2 := alike_id 4 (by decide) (hg u (by simp)).1 o2
  have e1 : sgParts 5 (id3 p) (id3 q) (id3 u) (.mk {} []) (IntKind.u64.wrap 0) = [intT 5,idT 5 (id3 p),idT 5 (id3 q),idT 4 (id3 u)] := rfl
  show All2 Alike (sgParts 5 (id3 p) (id3 q) (id3 u) (.mk {} []) (IntKind.u64.wrap 0)) [intT 5,p,q,u] ∧ (fitsB 5 [.f,.t,.r] [p,q,u] = true ↔ sgParts 5 (id3 p) (id3 q) (id3 u) (.mk {} []) (IntKind.u64.wrap 0) = [intT 5,p,q,u]) ∧ ((IntKind.u64.wrap 0) = 0 ∨ (IntKind.u64.wrap 0) = 1 ∨ (IntKind.u64.wrap 0) = 2)
  rw [e1]
  refine ⟨⟨.inl rfl,a0.1,a1.1,a2.1,trivial⟩,?_,.inl (by decide)⟩
  simp only [fitsB,fitB,Bool.and_eq_true,decide_eq_true_eq,List.cons.injEq,true_and,and_true,a0.2,a1.2,a2.2]
 ·match rest,hl with
  | [p,q,u],_ =>
  have hw2 : wholeB 6 (id3 p) (id3 q) (id3 u) (.mk {} []) (IntKind.u64.wrap 0) = true := hw
  have hi : idsB 6 (id3 p) (id3 q) (id3 u) = ((id3 p).ok && (id3 q).ok && (id3 u).ok && true) := by simp [idsB,hasK,Has.all,Has.p2,Has.p1,idAt,Bool.and_assoc]
  simp only [wholeB,hi,show hasN 6 = false from rfl,show hasX 6 = false from rfl,Bool.and_eq_true,Bool.not_true,Bool.not_false,Bool.false_or,Bool.true_or,Bool.and_true,decide_eq_true_eq] at hw2
  obtain ⟨⟨o0,o1⟩,o2⟩ := hw2
  have a0 := alike_id 5 (by decide) (hg p (by simp)).1 o0
  have a1 := alike_id 5 (by decide) (hg q (by simp)).1 o1
  have a2 := alike_id 4 (by decide) (hg u (by simp)).1 o2
  have e1 : sgParts 6 (id3 p) (id3 q) (id3 u) (.mk {} []) (IntKind.u64.wrap 0) = [intT 6,idT 5 (id3 p),idT 5 (id3 q),idT 4 (id3 u)] := rfl
  show All2 Alike (sgParts 6 (id3 p) (id3 q) (id3 u) (.mk {} []) (IntKind.u64.wrap 0)) [intT 6,p,q,u] ∧ (fitsB 6 [.f,.t,.r] [p,q,u] = true ↔ sgParts 6 (id3 p) (id3 q) (id3 u) (.mk {} []) (IntKind.u64.wrap 0) = [intT 6,p,q,u]) ∧ ((IntKind.u64.wrap 0) = 0 ∨ (IntKind.u64.wrap 0) = 1 ∨ (IntKind.u64.wrap 0) = 2)
  rw [e1]
  refine ⟨⟨.inl rfl,a0.1,a1.1,a2.1,trivial⟩,?_,.inl (by decide)⟩
  simp only [fitsB,fitB,Bool.and_eq_true,decide_eq_true_eq,List.cons.injEq,true_and,and_true,a0.2,a1.2,a2.2]
 ·match rest,hl with
  | [p,q,u,v],_ =>
  have hw2 : wholeB 7 (id3 p) (id3 q) (id3 u) v (IntKind.u64.wrap 0) = true := hw
  have hi : idsB 7 (id3 p) (id3 q) (id3 u) = ((id3 p).ok && (id3 q).ok && (id3 u).ok && true) := by simp [idsB,hasK,Has.all,Has.p2,Has.p1,idAt,Bool.and_assoc]
  simp only [wholeB,hi,show hasN 7 = false from rfl,show hasX 7 = true from rfl,Bool.and_eq_true,Bool.not_true,Bool.not_false,Bool.false_or,Bool.true_or,Bool.and_true,decide_eq_true_eq] at hw2
  obtain ⟨⟨⟨o0,o1⟩,o2⟩,hs⟩ := hw2
  have a0 := alike_id 5 (by decide) (hg p (by simp)).1 o0
  have a1 := alike_id 5 (by decide) (hg q (by simp)).1 o1
  have a2 := alike_id 4 (by decide) (hg u (by simp)).1 o2
  have e1 : sgParts 7 (id3 p) (id3 q) (id3 u) v (IntKind.u64.wrap 0) = [intT 7,idT 5 (id3 p),idT 5 (id3 q),idT 4 (id3 u),v] := rfl
  show All2 Alike (sgParts 7 (id3 p) (id3 q) (id3 u) v (IntKind.u64.wrap 0)) [intT 7,p,q,u,v] ∧ (fitsB 7 [.f,.t,.r,.x] [p,q,u,v] = true ↔ sgParts 7 (id3 p) (id3 q) (id3 u) v (IntKind.u64.wrap 0) = [intT 7,p,q,u,v]) ∧ ((IntKind.u64.wrap 0) = 0 ∨ (IntKind.u64.wrap 0) = 1 ∨ (IntKind.u64.wrap 0) = 2)
  rw [e1]
  refine ⟨⟨.inl rfl,a0.1,a1.1,a2.1,.inl rfl,trivial⟩,?_,.inl (by decide)⟩
  simp only [fitsB,fitB,Bool.and_eq_true,decide_eq_true_eq,List.cons.injEq,true_and,and_true,a0.2,a1.2,a2.2,hs]
 ·match rest,hl with
  | [p,q,u],_ =>
  have hw2 : wholeB 8 (id3 p) I3.zero (id3 q) u (IntKind.u64.wrap 0) = true := hw
  have hi : idsB 8 (id3 p) I3.zero (id3 q) = ((id3 p).ok && (id3 q).ok && true) := by simp [idsB,hasK,Has.all,Has.p2,Has.p1,idAt,Bool.and_assoc]
  simp only [wholeB,hi,show hasN 8 = false from rfl,show hasX 8 = true from rfl,Bool.and_eq_true,Bool.not_true,Bool.not_false,Bool.false_or,Bool.true_or,Bool.and_true,decide_eq_true_eq] at hw2
  obtain ⟨⟨o0,o1⟩,hs⟩ := hw2
  have a0 := alike_id 5 (by decide) (hg p (by simp)).1 o0
  have a1 := alike_id 4 (by decide) (hg q (by simp)).1 o1
  have e1 : sgParts 8 (id3 p) I3.zero (id3 q) u (IntKind.u64.wrap 0) = [intT 8,idT 5 (id3 p),idT 4 (id3 q),u] := rfl
  show All2 Alike (sgParts 8 (id3 p) I3.zero (id3 q) u (IntKind.u64.wrap 0)) [intT 8,p,q,u] ∧ (fitsB 8 [.f,.r,.x] [p,q,u] = true ↔ sgParts 8 (id3 p) I3.zero (id3 q) u (IntKind.u64.wrap 0) = [intT 8,p,q,u]) ∧ ((IntKind.u64.wrap 0) = 0 ∨ (IntKind.u64.wrap 0) = 1 ∨ (IntKind.u64.wrap 0) = 2)
  rw [e1]
  refine ⟨⟨.inl rfl,a0.1,a1.1,.inl rfl,trivial⟩,?_,.inl (by decide)⟩
  simp only [fitsB,fitB,Bool.and_eq_true,decide_eq_true_eq,List.cons.injEq,true_and,and_true,a0.2,a1.2,hs]
 ·match rest,hl with
  | [p,q,u],_ =>
  have hw2 : wholeB 9 I3.zero (id3 p) (id3 q) u (IntKind.u64.wrap 0) = true := hw
  have hi : idsB 9 I3.zero (id3 p) (id3 q) = ((id3 p).ok && (id3 q).ok && true) := by simp [idsB,hasK,Has.all,Has.p2,Has.p1,idAt,Bool.and_assoc]
  simp only [wholeB,hi,show hasN 9 = false from rfl,show hasX 9 = true from rfl,Bool.and_eq_true,Bool.not_true,Bool.not_false,Bool.false_or,Bool.true_or,Bool.and_true,decide_eq_true_eq] at hw2
  obtain ⟨⟨o0,o1⟩,hs⟩ := hw2
  have a0 := alike_id 5 (by decide) (hg p (by simp)).1 o0
  have a1 := alike_id 4 (by decide) (hg q (by simp)).1 o1
  have e1 : sgParts 9 I3.zero (id3 p) (id3 q) u (IntKind.u64.wrap 0) = [intT 9,idT 5 (id3 p),idT 4 (id3 q),u] := rfl
  show All2 Alike (sgParts 9 I3.zero (id3 p) (id3 q) u (IntKind.u64.wrap 0)) [intT 9,p,q,u] ∧ (fitsB 9 [.t,.r,.x] [p,q,u] = true ↔ sgParts 9 I3.zero (id3 p) (id3 q) u (IntKind.u64.wrap 0) = [intT 9,p,q,u]) ∧ ((IntKind.u64.wrap 0) = 0 ∨ (IntKind.u64.wrap 0) = 1 ∨ (IntKind.u64.wrap 0) = 2)
  rw [e1]
  refine ⟨⟨.inl rfl,a0.1,a1.1,.inl rfl,trivial⟩,?_,.inl (by decide)⟩
  simp only [fitsB,fitB,Bool.and_eq_true,decide_eq_true_eq,List.cons.injEq,true_and,and_true,a0.2,a1.2,hs]
 ·match rest,hl with
  | [p,q,u],_ =>
  have hw2 : wholeB 10 (id3 p) I3.zero (id3 q) u (IntKind.u64.wrap 0) = true := hw
  have hi : idsB 10 (id3 p) I3.zero (id3 q) = ((id3 p).ok && (id3 q).ok && true) := by simp [idsB,hasK,Has.all,Has.p2,Has.p1,idAt,Bool.and_assoc]
  simp only [wholeB,hi,show hasN 10 = false from rfl,show hasX 10 = true from rfl,Bool.and_eq_true,Bool.not_true,Bool.not_false,Bool.false_or,Bool.true_or,Bool.and_true,decide_eq_true_eq] at hw2
  obtain ⟨⟨o0,o1⟩,hs⟩ := hw2
  have a0 := alike_id 5 (by decide) (hg p (by simp)).1 o0
  have a1 := alike_id 4 (by decide) (hg q (by simp)).1 o1
  have e1 : sgParts 10 (id3 p) I3.zero (id3 q) u (IntKind.u64.wrap 0) = [intT 10,idT 5 (id3 p),idT 4 (id3 q),u] := rfl
  show All2 Alike (sgParts 10 (id3 p) I3.zero (id3 q) u (IntKind.u64.wrap 0)) [intT 10,p,q,u] ∧ (fitsB 10 [.f,.r,.x] [p,q,u] = true ↔ sgParts 10 (id3 p) I3.zero (id3 q) u (IntKind.u64.wrap 0) = [intT 10,p,q,u]) ∧ ((IntKind.u64.wrap 0) = 0 ∨ (IntKind.u64.wrap 0) = 1 ∨ (IntKind.u64.wrap 0) = 2)
  rw [e1]
  refine ⟨⟨.inl rfl,a0.1,a1.1,.inl rfl,trivial⟩,?_,.inl (by decide)⟩
  simp only [fitsB,fitB,Bool.and_eq_true,decide_eq_true_eq,List.cons.injEq,true_and,and_true,a0.2,a1.2,hs]
 ·match rest,hl with
  | [p,q,u],_ =>
  have hw2 : wholeB 11 (id3 p) I3.zero (id3 q) u (IntKind.u64.wrap 0) = true := hw
  have hi : idsB 11 (id3 p) I3.zero (id3 q) = ((id3 p).ok && (id3 q).ok && true) := by simp [idsB,hasK,Has.all,Has.p2,Has.p1,idAt,Bool.and_assoc]
  simp only [wholeB,hi,show hasN 11 = false from rfl,show hasX 11 = true from rfl,Bool.and_eq_true,Bool.not_true,Bool.not_false,Bool.false_or,Bool.true_or,Bool.and_true,decide_eq_true_eq] at hw2
  obtain ⟨⟨o0,o1⟩,hs⟩ := hw2
  have a0 := alike_id 5 (by decide) (hg p (by simp)).1 o0
  have a1 := alike_id 4 (by decide) (hg q (by simp)).1 o1
  have e1 : sgParts 11 (id3 p) I3.zero (id3 q) u (IntKind.u64.wrap 0) = [intT 11,idT 5 (id3 p),idT 4 (id3 q),u] := rfl
  show All2 Alike (sgParts 11 (id3 p) I3.zero (id3 q) u (IntKind.u64.wrap 0)) [intT 11,p,q,u] ∧ (fitsB 11 [.f,.r,.x] [p,q,u] = true ↔ sgParts 11 (id3 p) I3.zero (id3 q) u (IntKind.u64.wrap 0) = [intT 11,p,q,u]) ∧ ((IntKind.u64.wrap 0) = 0 ∨ (IntKind.u64.wrap 0) = 1 ∨ (IntKind.u64.wrap 0) = 2)
  rw [e1]
  refine ⟨⟨.inl rfl,a0.1,a1.1,.inl rfl,trivial⟩,?_,.inl (by decide)⟩
  simp only [fitsB,fitB,Bool.and_eq_true,decide_eq_true_eq,List.cons.injEq,true_and,and_true,a0.2,a1.2,hs]
theorem doc_right {k : Int} (h1 : 1 ≤ k) (h2 : k ≤ 11) {rest : List Tm} (hl : (flds k).length = rest.length) (hg : ∀ p ∈ rest,GoodT 24 p ∧ sizeT p ≤ 4096) (hf : fitsB k (flds k) rest = true) :
  wholeB k (sqTo k rest (flds k).length).f (sqTo k rest (flds k).length).t (sqTo k rest (flds k).length).r (sqTo k rest (flds k).length).x (IntKind.u64.wrap (sqTo k rest (flds k).length).n) = true ∧ IntKind.u64.wrap (sqTo k rest (flds k).length).n = (sqTo k rest (flds k).length).n := by
 have hall := (fits_iff.1 hf).2
 have hkn : hasN k = true → ∀ (h : (hasK k).all.length < rest.length),rest[(hasK k).all.length].hd.kind = 1 ∧ (rest[(hasK k).all.length].hd.n = 1 ∨ rest[(hasK k).all.length].hd.n = 2) := by
  intro hn h
  obtain ⟨h3,h4⟩ := flds_n h1 h2 hn
  have := hall _ h3 h
  rw [h4] at this
  simpa [fitB] using this
 have hw := fits_whole h1 h2 hl hg (fun i h3 h4 _ => hall i h3 h4) fun hn h => ⟨(hkn hn h).1,by have := (hkn hn h).2; omega⟩
 have hwr : IntKind.u64.wrap (sqTo k rest (flds k).length).n = (sqTo k rest (flds k).length).n := by
  cases hn : hasN k
  ·have e : (sqTo k rest (flds k).length).n = 0 := sqTo_keep (·.n) .n keep_n k rest _ fun d hd => (has_not h1 h2).2.2.2.1 hn d (List.mem_of_mem_take hd)
   rw [e]; rfl
  ·obtain ⟨h3,h4⟩ := sq_n hn (Nat.le_of_eq hl)
   rw [h4]
   rcases (hkn hn h3).2 with e | e <;> rw [e] <;> rfl
 rw [hwr]
 exact ⟨hw.trans hf,rfl⟩
end Go.Proofs.Ytgadkiljnebicaa
namespace Go.Proofs.Ytgadkiljnebicaa
open Go.Lib (hid)
open Go.RowKit
set_option maxRecDepth 100000
attribute [local go_sem] run_store_complex
abbrev sgL (f t : I3) : Array Value := sgC 2 f t I3.zero {} nilV nilV 0
theorem whole_link (f t : I3) (w : World) : Calls Try.prog 13 #[.agg (sgL f t)] w (WholePost 2 f t I3.zero (.mk {} []) 0 w) :=
 whole_any 2 (by decide) (by decide) f t I3.zero (.mk {} []) 0 none 0 0 none 0 0 w (Rep.leaf (h := {}) rfl) (fun h => by cases h) (fun h => by cases h) (fun _ => rfl) (fun _ => rfl) (by decide) (fun _ => rfl) (fun h => by cases h)
abbrev tmLk : Tm := .mk { kind := 6 } [intT 2,idT 5 ⟨1,1,1⟩,idT 5 ⟨2,1,1⟩]
abbrev bsLk : List UInt8 := [69,6,3,1,4,5,1,1,1,5,2,1,1]
theorem good_lk : GoodT 24 tmLk := by
 refine ⟨.list 6 _ (.inl rfl) (by decide),?_⟩
 intro p hp
 simp only [List.mem_cons,List.not_mem_nil,or_false] at hp
 rcases hp with rfl | rfl | rfl
 ·exact ⟨.int 2 (by decide),by simp⟩
 ·exact ⟨.id 5 1 1 1 (.inr rfl) (by decide) (by decide) (by decide) (by decide),by simp⟩
 ·exact ⟨.id 5 2 1 1 (.inr rfl) (by decide) (by decide) (by decide) (by decide),by simp⟩
theorem enc_lk : 69 :: (encT tmLk []).1 = bsLk := by rfl
theorem ctl_lk : ctlP bsLk = .ok tmLk := by kernel_rfl
def EncLk (W : World) (e : Ending) (w' : World) : Prop := ∃ (a : Option Addr) (c : Nat),e = .returned (.tuple #[.slice a 13 c,.int .i64 0]) ∧ w'.ownsRow W.heap.size 5 1 (.slice a 13 c) 13 (bsLk.map cellB) ∧ Below W.heap.size W w'
set_option maxHeartbeats 2000000 in
theorem enc_yes (w : World) : Calls Try.prog 8 #[.agg (sgL ⟨1,1,1⟩ ⟨2,1,1⟩)] w (EncLk w) := by
 have HX := hid (heap_new w (.cells (sgL ⟨1,1,1⟩ ⟨2,1,1⟩) 33))
 have HB := hid ((Below.refl w.heap.size w).alloc (Nat.le_refl _) (.cells (sgL ⟨1,1,1⟩ ⟨2,1,1⟩) 33))
 have HW := hid (fun w => whole_link ⟨1,1,1⟩ ⟨2,1,1⟩ w)
 go_enter Try.func8,Try.ntmps8
 go_upto_region 1 with fail
 first | apply wp_region_lit | (apply wp_seq_k; intro _ _; apply wp_region_lit)
 refine wpList_load_row rfl 33 (.tmp 1) rfl w.heap.size rfl 33 (sgL ⟨1,1,1⟩ ⟨2,1,1⟩) (0,0) _ HX.out Try.underlying33 rfl infoSg ?_
 go_wp2_with fail
 refine (HW.out _).mono ?_
 rintro e w1 ⟨cs,rfl,⟨xh,e1,e2,e3,e4,e5,e6,rfl⟩,hb,hrep⟩
 have hv : wholeB 2 ⟨1,1,1⟩ ⟨2,1,1⟩ I3.zero (.mk {} []) 0 = true := by decide
 have hrep2 : Rep w1 (fun b => b < w1.heap.size) tmLk (hdC xh (.slice e1 e2 e3) (.slice e4 e5 e6)) := hrep hv
 rw [hv]
 have hb2 := (Below.refl w1.heap.size w1).alloc (Nat.le_refl _) (.cells (hdC xh (.slice e1 e2 e3) (.slice e4 e5 e6)) 31)
 have HB2 := hid ((HB.out.trans (hb.mono HB.out.size)).trans (hb2.mono (Nat.le_trans HB.out.size hb.size)))
 have HR2 := hid (Rep.mono (F' := fun b => b < (w1.alloc (.cells (hdC xh (.slice e1 e2 e3) (.slice e4 e5 e6)) 31)).heap.size) (fun b _ h => h) _ _ (Rep.keep (w' := w1.alloc (.cells (hdC xh (.slice e1 e2 e3) (.slice e4 e5 e6)) 31)) (fun b _ hl => hb2.block b hl) _ _ hrep2))
 have HT2 := hid (heap_new w1 (.cells (hdC xh (.slice e1 e2 e3) (.slice e4 e5 e6)) 31))
 clear hb hb2 hrep hrep2 hv HB HX HW
 go_upto_region 2 with fail
 generalize w1.alloc (.cells (hdC xh (.slice e1 e2 e3) (.slice e4 e5 e6)) 31) = w2 at *
 obtain ⟨t0,t1,t2,t3,t4,t5,t6,t7,t8⟩ := NineAt.of_block HT2.out
 go_wp2_with fail
 refine (encode_good tmLk good_lk (by decide) _ _ w2 HR2.out (fun _ h => h)).mono ?_
 intro e w6 he
 rw [enc_lk] at he
 obtain ⟨a6,c6,rfl,ho6,hb⟩ : ∃ (a : Option Addr) (c : Nat),e = .returned (.tuple #[.slice a 13 c,.int .i64 0]) ∧ w6.ownsRow w2.heap.size 5 1 (.slice a 13 c) 13 (bsLk.map cellB) ∧ Below w2.heap.size w2 w6 := by
  rcases he with ⟨_,h⟩ | ⟨h,_⟩
  ·exact h
  ·exact absurd h (by decide)
 have HO := hid (owns_mono ho6 HB2.out.size)
 have HB6 := hid (HB2.out.trans (hb.mono HB2.out.size))
 clear he ho6 hb t0 t1 t2 t3 t4 t5 t6 t7 t8
 go_wp2_with fail
 go_ret2
 exact ⟨a6,c6,rfl,HO.out,HB6.out⟩
set_option maxHeartbeats 2000000 in
theorem enc_no (w : World) : Calls Try.prog 8 #[.agg (sgL I3.zero I3.zero)] w (RB w (.tuple #[nilV,.int .i64 230])) := by
 have HX := hid (heap_new w (.cells (sgL I3.zero I3.zero) 33))
 have HB := hid ((Below.refl w.heap.size w).alloc (Nat.le_refl _) (.cells (sgL I3.zero I3.zero) 33))
 have HW := hid (fun w => whole_link I3.zero I3.zero w)
 go_enter Try.func8,Try.ntmps8
 go_upto_region 1 with fail
 first | apply wp_region_lit | (apply wp_seq_k; intro _ _; apply wp_region_lit)
 refine wpList_load_row rfl 33 (.tmp 1) rfl w.heap.size rfl 33 (sgL I3.zero I3.zero) (0,0) _ HX.out Try.underlying33 rfl infoSg ?_
 go_wp2_with fail
 refine (HW.out _).mono ?_
 rintro e w1 ⟨cs,rfl,⟨xh,e1,e2,e3,e4,e5,e6,rfl⟩,hb,hrep⟩
 have hv : wholeB 2 I3.zero I3.zero I3.zero (.mk {} []) 0 = false := by decide
 rw [hv]
 have hb2 := (Below.refl w1.heap.size w1).alloc (Nat.le_refl _) (.cells (hdC xh (.slice e1 e2 e3) (.slice e4 e5 e6)) 31)
 have HB2 := hid ((HB.out.trans (hb.mono HB.out.size)).trans (hb2.mono (Nat.le_trans HB.out.size hb.size)))
 clear hb hb2 hrep hv HB HX HW
 go_upto_region 2 with fail
 generalize w1.alloc (.cells (hdC xh (.slice e1 e2 e3) (.slice e4 e5 e6)) 31) = w2 at *
 go_wp2_with fail
 go_ret2
 exact ⟨rfl,HB2.out⟩
theorem check_no (w : World) : Calls Try.prog 9 #[.agg (sgL I3.zero I3.zero)] w (RB w (.int .i64 230)) := by
 have HX := hid (heap_new w (.cells (sgL I3.zero I3.zero) 33))
 have HB := hid ((Below.refl w.heap.size w).alloc (Nat.le_refl _) (.cells (sgL I3.zero I3.zero) 33))
 go_enter Try.func9,Try.ntmps9
 go_upto_region 1 with fail
 first | apply wp_region_lit | (apply wp_seq_k; intro _ _; apply wp_region_lit)
 refine wpList_load_row rfl 33 (.tmp 1) rfl w.heap.size rfl 33 (sgL I3.zero I3.zero) (0,0) _ HX.out Try.underlying33 rfl infoSg ?_
 go_wp2_with fail
 refine (enc_no _).mono ?_
 rintro e w1 ⟨rfl,hb⟩
 have HB1 := hid (HB.out.trans (hb.mono HB.out.size))
 clear hb
 go_wp2_with fail
 go_ret
 exact ⟨rfl,HB1.out⟩
end Go.Proofs.Ytgadkiljnebicaa
