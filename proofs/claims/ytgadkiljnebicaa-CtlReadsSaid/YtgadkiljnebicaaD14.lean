/- Several texts in one. -/
import Derived.Test.YtgadkiljnebicaaD12
import Derived.Test.YtgadkiljnebicaaD02
import Derived.Deep.AppendLies
import Derived.Test.YtgadkiljnebicaaD04
import Derived.Test.YtgadkiljnebicaaD06
import Derived.Laws.Rows
namespace Go.Proofs.Ytgadkiljnebicaa
open Go.Lib (hid)
open Go.RowKit
set_option maxRecDepth 100000
theorem infoTm : (Try.prog.info? 31).map (fun i => (i.zero,i.size,i.bytes)) = some (some (.agg zC),9,120) := by kernel_rfl
def behind (l : List Tm) : Except Int (List Tm × St) → Except Int (List Tm × St)
 | .error e => .error e
 | .ok (l',s) => .ok (l ++ l',s)
theorem many_err {sub : Rd Tm} {k j : Nat} {s sj : St} {l : List Tm} {x : Int} (h : manyP sub k s = behind l (manyP sub (k - j) sj)) (hj : j < k) (hs : sub sj = .error x) : manyP sub k s = .error x := by
 rw [h,show k - j = (k - (j + 1)) + 1 by omega]
 simp [manyP,hs,behind]
theorem many_ok {sub : Rd Tm} {k j : Nat} {s sj s' : St} {l : List Tm} {t : Tm} (h : manyP sub k s = behind l (manyP sub (k - j) sj)) (hj : j < k) (hs : sub sj = .ok (t,s')) : manyP sub k s = behind (l ++ [t]) (manyP sub (k - (j + 1)) s') := by
 rw [h,show k - j = (k - (j + 1)) + 1 by omega]
 simp only [manyP,hs]
 cases manyP sub (k - (j + 1)) s' with
 | error e => rfl
 | ok y => simp [behind]
theorem many_end {sub : Rd Tm} {k : Nat} {s sj : St} {l : List Tm} (h : manyP sub k s = behind l (manyP sub (k - k) sj)) : manyP sub k s = .ok (l,sj) := by
 rw [h,Nat.sub_self]
 simp [manyP,behind]
def ownL (T R p m : Nat) (v lv : Value) (b : Nat) : Prop := own (T + 1) R p m v b ∧ lv.ownBlock ≠ some b
abbrev lC (K : Int) (lv : Value) : Array Value := #[.int .i64 K,.int .i64 0,.complex .f64 0 0,.string ⟨#[]⟩,.int .i64 0,.int .u32 0,.int .u64 0,nilV,lv]
structure LsAt (R p m N T j : Nat) (K : Int) (a : Option Addr) (c : Nat) (v vj bv : Value) (bs : List UInt8) (sj : St) (l : List Tm) (vs : List (Array Value)) (w wr : World) : Prop where
 len : l.length = j
 tb : wr.heap[T]? = some (.cells (lC K (.slice a j c)) 31 (0,0))
 nb : wr.heap[N]? = some (.cells zC 31 (0,0))
 row : wr.ownsRow (T + 1) 31 9 (.slice a j c) j (cat vs)
 none0 : j = 0 → Value.slice a j c = nilV
 reps : Reps wr (ownL T R p m vj (.slice a j c)) l vs
 far : ∀ b,(Value.slice a j c).ownBlock = some b → ¬ foot R p m vj b
 rd : RdAt wr R p m vj bv bs sj
 turn : Turn (foot R p m v) w wr
 vv : vj.ownBlock = v.ownBlock ∨ ∀ b,vj.ownBlock = some b → T < b
 nms : sj.names.length ≤ sj.n
structure LsMid (R p m N T j : Nat) (K : Int) (a : Option Addr) (c : Nat) (v v' bv : Value) (bs : List UInt8) (s' : St) (l : List Tm) (vs : List (Array Value)) (t : Tm) (cs : Array Value) (z : Nat) (w w7 : World) : Prop where
 tb : w7.heap[T]? = some (.cells (lC K (.slice a j c)) 31 (0,0))
 nb : w7.heap[N]? = some (.cells zC 31 (0,0))
 row : w7.ownsRow (T + 1) 31 9 (.slice a j c) j (cat vs)
 reps : Reps w7 (fun b => ownL T R p m v' (.slice a j c) b ∧ b < z) l vs
 far : ∀ b,(Value.slice a j c).ownBlock = some b → ¬ foot R p m v' b
 rd : RdAt w7 R p m v' bv bs s'
 turn : Turn (foot R p m v) w w7
 vv : v'.ownBlock = v.ownBlock ∨ ∀ b,v'.ownBlock = some b → T < b
 rep : Rep w7 (own z R p m v') t cs
 zT : T < z
 zg : ∀ b,(Value.slice a j c).ownBlock = some b → b < z
 zs : z ≤ w7.heap.size
theorem foot_next {R p m z b : Nat} {vj v' : Value} (hv : v'.ownBlock = vj.ownBlock ∨ ∀ b,v'.ownBlock = some b → z ≤ b) (hb : b < z) (h : ¬ foot R p m vj b) : ¬ foot R p m v' b := by
 rintro (e | e | e | e)
 ·exact h (.inl e)
 ·exact h (.inr (.inl e))
 ·exact h (.inr (.inr (.inl e)))
 ·rcases hv with hv | hv
  ·exact h (.inr (.inr (.inr (hv.symm.trans e))))
  ·have := hv b e; omega
theorem LsAt.mid {R p m N T j c : Nat} {K : Int} {a : Option Addr} {v vj v' bv : Value} {bs : List UInt8} {s0 sj s' : St} {l : List Tm} {vs : List (Array Value)} {t : Tm} {cs : Array Value} {w wr w7 : World} (H : RdAt w R p m v bv bs s0) (hwT : w.heap.size ≤ T) (hNT : N < T) (hwN : w.heap.size ≤ N)
  (h : LsAt R p m N T j K a c v vj bv bs sj l vs w wr) (hR7 : RdAt w7 R p m v' bv bs s') (hT7 : Turn (foot R p m vj) wr.drew w7) (hv7 : v'.ownBlock = vj.ownBlock ∨ ∀ b,v'.ownBlock = some b → wr.drew.heap.size ≤ b) (hrep : Rep w7 (own wr.drew.heap.size R p m v') t cs) :
  LsMid R p m N T j K a c v v' bv bs s' l vs t cs wr.drew.heap.size w w7 := by
 have hv7' : v'.ownBlock = vj.ownBlock ∨ ∀ b,v'.ownBlock = some b → wr.heap.size ≤ b := hv7
 have hTf : ¬ foot R p m vj T := fun hf => apartT H hwT h.vv T (.inl hf) rfl
 have hNf : ¬ foot R p m vj N := fun hf => by
  rcases hf with e | e | e | e
  ·have := H.lt N (.inl e); omega
  ·have := H.lt N (.inr (.inl e)); omega
  ·have := H.lt N (.inr (.inr (.inl e))); omega
  ·rcases h.vv with hv | hv
   ·have := H.lt N (.inr (.inr (.inr (hv.symm.trans e)))); omega
   ·have := hv N e; omega
 have hTl := blk_lt h.tb
 refine ⟨(hT7.block T hTl hTf).trans h.tb,(hT7.block N (blk_lt h.nb) hNf).trans h.nb,row_same h.row (fun b e hb => hT7.block b hb (h.far b e)),?_,?_,hR7,h.turn.andThen ((Turn.refl _ wr).drew.trans hT7) ?_,?_,hrep,hTl,fun b e => (h.row.lt b e).2,hT7.size⟩
 ·have h0 := Reps.mono (F' := fun b => ownL T R p m vj (.slice a j c) b ∧ b < wr.heap.size) (fun b e hb => ⟨e,hb⟩) _ _ h.reps
  have h2 := Reps.keep (w := wr) (w' := w7) (fun b e hb => (show w7.heap[b]? = wr.heap[b]? from hT7.block b hb e.1.1.2)) _ _ h0
  exact Reps.mono (fun b e _ => ⟨⟨⟨e.1.1.1,foot_next hv7' e.2 e.1.1.2⟩,e.1.2⟩,e.2⟩) _ _ h2
 ·intro b e
  exact foot_next hv7' (h.row.lt b e).2 (h.far b e)
 ·rintro i (e | e | e | e)
  ·exact .inl (.inl e)
  ·exact .inl (.inr (.inl e))
  ·exact .inl (.inr (.inr (.inl e)))
  ·rcases h.vv with hv | hv
   ·exact .inl (.inr (.inr (.inr (hv.symm.trans e))))
   ·have := hv i e; exact .inr (by omega)
 ·rcases hv7' with hv | hv
  ·rw [hv]; exact h.vv
  ·exact .inr fun b e => by have := hv b e; omega
theorem LsMid.next {R p m N T j c c8 z : Nat} {K : Int} {a a8 : Option Addr} {v v' bv : Value} {bs : List UInt8} {s0 s' : St} {l : List Tm} {vs : List (Array Value)} {t : Tm} {cs : Array Value} {w w7 w8 : World} {o : Obj} (H : RdAt w R p m v bv bs s0) (hwT : w.heap.size ≤ T) (hNT : N < T)
  (h : LsMid R p m N T j K a c v v' bv bs s' l vs t cs z w w7) (hl : l.length = j) (hn : s'.names.length ≤ s'.n) (hg : (w7.alloc o).grownBy w8 (Value.slice a j c).ownBlock) (ho8 : w8.ownsRow (T + 1) 31 9 (.slice a8 (j + 1) c8) (j + 1) (cat vs ++ cs.toList))
  (hown : (Value.slice a8 (j + 1) c8).ownBlock = (Value.slice a j c).ownBlock ∨ (Value.slice a8 (j + 1) c8).ownBlock = some (w7.alloc o).heap.size) :
  LsAt R p m N T (j + 1) K a8 c8 v v' bv bs s' (l ++ [t]) (vs ++ [cs]) w (w8.setCell ⟨T,8,none⟩ (.slice a8 (j + 1) c8)) := by
 obtain ⟨k1,k2,k3⟩ := app_keep h.row hg
 have hTl := blk_lt h.tb
 have hNl := blk_lt h.nb
 have hset : ∀ i,¬ i = T → (w8.setCell ⟨T,8,none⟩ (.slice a8 (j + 1) c8)).heap[i]? = w8.heap[i]? := fun i hi => Below.heap_setCell w8 ⟨T,8,none⟩ _ i hi
 have hown' : (Value.slice a8 (j + 1) c8).ownBlock = (Value.slice a j c).ownBlock ∨ (Value.slice a8 (j + 1) c8).ownBlock = some (w7.heap.size + 1) := by simpa using hown
 have hne : ∀ b,b < w7.heap.size → (Value.slice a j c).ownBlock ≠ some b → (Value.slice a8 (j + 1) c8).ownBlock ≠ some b := fun b hb h1 h2 => by
  rcases hown' with e | e
  ·exact h1 (e.symm.trans h2)
  ·have := e.symm.trans h2
   cases this
   omega
 refine ⟨by simp [hl],heap_setCell_at ((k1 T (by omega) hTl).trans h.tb),(hset N (by omega)).trans ((k1 N (by omega) hNl).trans h.nb),?_,fun e => by omega,?_,?_,rd_setT H (h.rd.keep fun i hi hil => k3.block i hil ?_) hwT h.vv,turn_setT (h.turn.andThen k3 fun i e => .inr ?_) hwT,h.vv,hn⟩
 ·rw [cat_snoc]
  exact row_same ho8 (fun b e hb => hset b (by have := (ho8.lt b e).1; omega))
 ·refine Reps.snoc ?_ ?_
  ·have h1 := Rep.mono (F' := fun b => own z R p m v' b ∧ b < w7.heap.size) (fun b e hb => ⟨e,hb⟩) _ _ h.rep
   have h2 := Rep.keep (w' := w8.setCell ⟨T,8,none⟩ (.slice a8 (j + 1) c8)) (fun b e hb => (hset b (by have := e.1.1; have := h.zT; omega)).trans (k3.block b hb (fun e2 => by have := h.zg b e2; have := e.1.1; omega))) _ _ h1
   exact Rep.mono (fun b e _ => ⟨⟨by have := e.1.1; have := h.zT; omega,e.1.2⟩,hne b e.2 (fun e2 => by have := h.zg b e2; have := e.1.1; omega)⟩) _ _ h2
  ·have h2 := Reps.keep (w' := w8.setCell ⟨T,8,none⟩ (.slice a8 (j + 1) c8)) (fun b e hb => (hset b (by have := e.1.1.1; omega)).trans (k3.block b hb e.1.2)) _ _ h.reps
   exact Reps.mono (fun b e _ => ⟨e.1.1,hne b (by have := e.2; have := h.zs; omega) e.1.2⟩) _ _ h2
 ·intro b e hf
  rcases hown' with e2 | e2
  ·exact h.far b (e2.symm.trans e) hf
  ·have e3 := e2.symm.trans e
   cases e3
   have := h.rd.lt _ hf
   omega
 ·intro e
  rcases hi with hi | ⟨hi,hp⟩
  ·exact h.far i e hi
  ·have := H.blt i hi hp
   have := (h.row.lt i e).1
   omega
 ·have := (h.row.lt i e).1
  omega
theorem ls_turn {R p m T : Nat} {v vj : Value} {w wr w7 : World} (hwT : w.heap.size ≤ T) (hv : vj.ownBlock = v.ownBlock ∨ ∀ b,vj.ownBlock = some b → T < b) (h : Turn (foot R p m v) w wr) (h7 : Turn (foot R p m vj) wr.drew w7) : Turn (foot R p m v) w w7 := by
 refine h.andThen ((Turn.refl _ wr).drew.trans h7) ?_
 rintro i (e | e | e | e)
 ·exact .inl (.inl e)
 ·exact .inl (.inr (.inl e))
 ·exact .inl (.inr (.inr (.inl e)))
 ·rcases hv with hv | hv
  ·exact .inl (.inr (.inr (.inr (hv.symm.trans e))))
  ·have := hv i e; exact .inr (by omega)
theorem ls_rep {R p m N T j c : Nat} {K : Nat} {a : Option Addr} {v vj bv : Value} {bs : List UInt8} {sj : St} {l : List Tm} {vs : List (Array Value)} {w wr : World} (hNT : N < T) (h : LsAt R p m N T j K a c v vj bv bs sj l vs w wr) :
  Rep wr (own (N + 1) R p m vj) (.mk { kind := K } l) (hdC { kind := K } nilV (.slice a j c)) := by
 have hl := h.len
 refine ⟨nilV,.slice a j c,rfl,Row.nil _ _ _ _,vs,⟨?_,fun b e => ⟨?_,h.far b e⟩,fun e => h.none0 (by omega)⟩,Reps.mono (fun b e _ => ⟨by have := e.1.1; omega,e.1.2⟩) _ _ h.reps⟩
 ·rw [hl]
  exact owns_mono h.row (Nat.zero_le _)
 ·have := (h.row.lt b e).1
  omega
theorem rep_nine {w : World} {F : Nat → Prop} {t : Tm} {c : Array Value} (h : Rep w F t c) : ∃ (q0 q1 : Int) (q2 q3 : Nat) (q4 : ByteArray) (q5 q6 q7 : Int) (q8 : Option Addr) (q9 q10 : Nat) (q11 : Option Addr) (q12 q13 : Nat),
  c = #[.int .i64 q0,.int .i64 q1,.complex .f64 q2 q3,.string q4,.int .i64 q5,.int .u32 q6,.int .u64 q7,.slice q8 q9 q10,.slice q11 q12 q13] ∧ True := by
 obtain ⟨hd,l⟩ := t
 obtain ⟨bv,lv,rfl,hb,vs,hlv,_⟩ := h
 obtain ⟨a1,c1,rfl⟩ := row_slice hb.1
 obtain ⟨a2,c2,rfl⟩ := row_slice hlv.1
 exact ⟨_,_,_,_,_,_,_,_,_,_,_,_,_,_,rfl,trivial⟩
theorem nine_one (q0 q1 : Int) (q2 q3 : Nat) (q4 : ByteArray) (q5 q6 q7 : Int) (q8 : Option Addr) (q9 q10 : Nat) (q11 : Option Addr) (q12 q13 : Nat) :
  ∀ u ∈ (#[Value.int .i64 q0,.int .i64 q1,.complex .f64 q2 q3,.string q4,.int .i64 q5,.int .u32 q6,.int .u64 q7,.slice q8 q9 q10,.slice q11 q12 q13] : Array Value).toList,u.oneCell' = true := by
 intro u hu
 simp at hu
 rcases hu with rfl | rfl | rfl | rfl | rfl | rfl | rfl | rfl | rfl <;> rfl
abbrev stV (ba : Option Addr) (bl bc : Nat) (i n : Int) (na : Option Addr) (nl nc : Nat) (code : Int) : Value := .agg #[.slice ba bl bc,.int .i64 i,.int .i64 n,.slice na nl nc,.int .i64 code]
theorem infoS : (Try.prog.info? 80).map (·.size) = some 5 := by kernel_rfl
theorem infoT9' : (Try.prog.info? 31).map (·.size) = some 9 := by kernel_rfl
def FiveAt (w : World) (b : Nat) (c0 c1 c2 c3 c4 : Value) : Prop := w.cell? ⟨b,0,none⟩ = some c0 ∧ w.cell? ⟨b,1,none⟩ = some c1 ∧ w.cell? ⟨b,2,none⟩ = some c2 ∧ w.cell? ⟨b,3,none⟩ = some c3 ∧ w.cell? ⟨b,4,none⟩ = some c4
theorem FiveAt.of_block {w : World} {b : Nat} {c0 c1 c2 c3 c4 : Value} {t : TypeId} (h : w.heap[b]? = some (.cells #[c0,c1,c2,c3,c4] t (0,0))) : FiveAt w b c0 c1 c2 c3 c4 := by
 refine ⟨?_,?_,?_,?_,?_⟩ <;> simp [World.cell?,h]
abbrev set5 (w : World) (b : Nat) (d0 d1 d2 d3 d4 : Value) : World := ((((w.setCell ⟨b,0,none⟩ d0).setCell ⟨b,1,none⟩ d1).setCell ⟨b,2,none⟩ d2).setCell ⟨b,3,none⟩ d3).setCell ⟨b,4,none⟩ d4
theorem five_set {w : World} {b : Nat} {c0 c1 c2 c3 c4 d0 d1 d2 d3 d4 : Value} {t : TypeId} (h : w.heap[b]? = some (.cells #[c0,c1,c2,c3,c4] t (0,0))) :
  (set5 w b d0 d1 d2 d3 d4).heap[b]? = some (.cells #[d0,d1,d2,d3,d4] t (0,0)) := by
 have a0 : (w.setCell ⟨b,0,none⟩ d0).heap[b]? = some (.cells #[d0,c1,c2,c3,c4] t (0,0)) := heap_setCell_at h
 show (((((w.setCell ⟨b,0,none⟩ d0).setCell ⟨b,1,none⟩ d1).setCell ⟨b,2,none⟩ d2).setCell ⟨b,3,none⟩ d3).setCell ⟨b,4,none⟩ d4).heap[b]? = _
 generalize w.setCell ⟨b,0,none⟩ d0 = x0 at *
 have a1 : (x0.setCell ⟨b,1,none⟩ d1).heap[b]? = some (.cells #[d0,d1,c2,c3,c4] t (0,0)) := heap_setCell_at a0
 generalize x0.setCell ⟨b,1,none⟩ d1 = x1 at *
 have a2 : (x1.setCell ⟨b,2,none⟩ d2).heap[b]? = some (.cells #[d0,d1,d2,c3,c4] t (0,0)) := heap_setCell_at a1
 generalize x1.setCell ⟨b,2,none⟩ d2 = x2 at *
 have a3 : (x2.setCell ⟨b,3,none⟩ d3).heap[b]? = some (.cells #[d0,d1,d2,d3,c4] t (0,0)) := heap_setCell_at a2
 generalize x2.setCell ⟨b,3,none⟩ d3 = x3 at *
 exact heap_setCell_at a3
theorem five_turn (w : World) (b : Nat) (d0 d1 d2 d3 d4 : Value) : Turn (fun i => i = b) w (set5 w b d0 d1 d2 d3 d4) :=
 ((((Turn.setCell w b 0 d0).trans (Turn.setCell _ b 1 d1)).trans (Turn.setCell _ b 2 d2)).trans (Turn.setCell _ b 3 d3)).trans (Turn.setCell _ b 4 d4)
theorem heap_new_at {w : World} {o : Obj} {k : Nat} (h : w.heap.size = k) : (w.alloc o).heap[k]? = some o := by
 subst h
 exact heap_new w o
theorem rfail0 (ba : Option Addr) (bl bc : Nat) (i n : Int) (na : Option Addr) (nl nc : Nat) (c : Int) (w : World) : Calls Try.prog 31 #[stV ba bl bc i n na nl nc 0,.int .i64 c] w (RB w (stV ba bl bc i n na nl nc c)) := by
 go_enter Try.func31,Try.ntmps31
 go_wp2_with fail
 exact bodyPost_ret (v := stV ba bl bc i n na nl nc c) (by simp [results,Try.results31,go_sem]) rfl ⟨rfl,((Below.refl w.heap.size w).alloc (Nat.le_refl _) _).alloc (by simp) _⟩
theorem rfail1 (ba : Option Addr) (bl bc : Nat) (i n : Int) (na : Option Addr) (nl nc : Nat) (c0 c : Int) (hc : ¬ c0 = 0) (w : World) : Calls Try.prog 31 #[stV ba bl bc i n na nl nc c0,.int .i64 c] w (RB w (stV ba bl bc i n na nl nc c0)) := by
 have h1 : (c0 == 0) = false := beq_eq_false_iff_ne.2 hc
 go_enter Try.func31,Try.ntmps31
 go_wp2_with fail
 exact bodyPost_ret (v := stV ba bl bc i n na nl nc c0) (by simp [results,Try.results31,go_sem]) rfl ⟨rfl,((Below.refl w.heap.size w).alloc (Nat.le_refl _) _).alloc (by simp) _⟩
theorem rmust_yes (ba : Option Addr) (bl bc : Nat) (i n : Int) (na : Option Addr) (nl nc : Nat) (c : Int) (w : World) : Calls Try.prog 49 #[stV ba bl bc i n na nl nc c,.bool true] w (RB w (stV ba bl bc i n na nl nc c)) := by
 go_enter Try.func49,Try.ntmps49
 go_wp2_with fail
 exact bodyPost_ret (v := stV ba bl bc i n na nl nc c) (by simp [results,Try.results49,go_sem]) rfl ⟨rfl,((Below.refl w.heap.size w).alloc (Nat.le_refl _) _).alloc (by simp) _⟩
theorem rmust_no0 (ba : Option Addr) (bl bc : Nat) (i n : Int) (na : Option Addr) (nl nc : Nat) (w : World) : Calls Try.prog 49 #[stV ba bl bc i n na nl nc 0,.bool false] w (RB w (stV ba bl bc i n na nl nc 73)) := by
 go_enter Try.func49,Try.ntmps49
 go_wp2_with fail
 have hXY : ¬ w.heap.size = w.heap.size + 1 := by omega
 have HX1 : Hid (((w.alloc (.cells #[.slice ba bl bc,.int .i64 i,.int .i64 n,.slice na nl nc,.int .i64 0] 80)).alloc (.cells #[nilV,.int .i64 0,.int .i64 0,nilV,.int .i64 0] 80)).heap[w.heap.size]? = some (.cells #[.slice ba bl bc,.int .i64 i,.int .i64 n,.slice na nl nc,.int .i64 0] 80 (0,0))) := (Below.heap_alloc _ _ _ (by simp)).trans (heap_new w _)
 have HY1 : Hid (((w.alloc (.cells #[.slice ba bl bc,.int .i64 i,.int .i64 n,.slice na nl nc,.int .i64 0] 80)).alloc (.cells #[nilV,.int .i64 0,.int .i64 0,nilV,.int .i64 0] 80)).heap[w.heap.size + 1]? = some (.cells #[nilV,.int .i64 0,.int .i64 0,nilV,.int .i64 0] 80 (0,0))) := heap_new_at (by simp)
 have HB1 := hid (((Below.refl w.heap.size w).alloc (Nat.le_refl _) (.cells #[.slice ba bl bc,.int .i64 i,.int .i64 n,.slice na nl nc,.int .i64 0] 80)).alloc (by simp) (.cells #[nilV,.int .i64 0,.int .i64 0,nilV,.int .i64 0] 80))
 generalize ((w.alloc (.cells #[.slice ba bl bc,.int .i64 i,.int .i64 n,.slice na nl nc,.int .i64 0] 80)).alloc (.cells #[nilV,.int .i64 0,.int .i64 0,nilV,.int .i64 0] 80)) = w1 at *
 refine (rfail0 _ _ _ _ _ _ _ _ 73 _).mono ?_
 rintro e w2 ⟨rfl,hb⟩
 have HX2 := hid ((hb.block _ (blk_lt HX1.out)).trans HX1.out)
 have HY2 := hid ((hb.block _ (blk_lt HY1.out)).trans HY1.out)
 have HB2 := hid (HB1.out.trans (hb.mono HB1.out.size))
 clear hb HB1 HX1 HY1
 go_wp2_with (refine wpList_store_row rfl 80 (.tmp 4) (.tmp 8) rfl (w.heap.size + 1) #[.slice ba bl bc,.int .i64 i,.int .i64 n,.slice na nl nc,.int .i64 73] rfl rfl 80 #[nilV,.int .i64 0,.int .i64 0,nilV,.int .i64 0] HY2.out infoS rfl (by simp [Array.all,Value.oneCell']) ?_)
 have HY3 := hid (setRow_heap w2 (w.heap.size + 1) #[nilV,.int .i64 0,.int .i64 0,nilV,.int .i64 0] #[.slice ba bl bc,.int .i64 i,.int .i64 n,.slice na nl nc,.int .i64 73] 80 (0,0) HY2.out)
 have HX3 := hid ((setRow_other w2 (w.heap.size + 1) (w.heap.size) #[.slice ba bl bc,.int .i64 i,.int .i64 n,.slice na nl nc,.int .i64 73] (by omega)).trans HX2.out)
 have HB3 := hid (HB2.out.trans ((setRow_turn w2 (w.heap.size + 1) #[.slice ba bl bc,.int .i64 i,.int .i64 n,.slice na nl nc,.int .i64 73]).below HB2.out.size (fun i e => by omega)))
 clear HB2 HY2 HX2
 generalize w2.setRow (w.heap.size + 1) #[.slice ba bl bc,.int .i64 i,.int .i64 n,.slice na nl nc,.int .i64 73] = w3 at *
 go_wp2_with fail
 obtain ⟨k0,k1,k2,k3,k4⟩ := FiveAt.of_block HY3.out
 exact bodyPost_ret (v := stV ba bl bc i n na nl nc 73) (by simp [results,Try.results49,go_sem,k0,k1,k2,k3,k4]) rfl ⟨rfl,HB3.out⟩
theorem rmust_no1 (ba : Option Addr) (bl bc : Nat) (i n : Int) (na : Option Addr) (nl nc : Nat) (c : Int) (hc : ¬ c = 0) (w : World) : Calls Try.prog 49 #[stV ba bl bc i n na nl nc c,.bool false] w (RB w (stV ba bl bc i n na nl nc c)) := by
 go_enter Try.func49,Try.ntmps49
 go_wp2_with fail
 have hXY : ¬ w.heap.size = w.heap.size + 1 := by omega
 have HX1 : Hid (((w.alloc (.cells #[.slice ba bl bc,.int .i64 i,.int .i64 n,.slice na nl nc,.int .i64 c] 80)).alloc (.cells #[nilV,.int .i64 0,.int .i64 0,nilV,.int .i64 0] 80)).heap[w.heap.size]? = some (.cells #[.slice ba bl bc,.int .i64 i,.int .i64 n,.slice na nl nc,.int .i64 c] 80 (0,0))) := (Below.heap_alloc _ _ _ (by simp)).trans (heap_new w _)
 have HY1 : Hid (((w.alloc (.cells #[.slice ba bl bc,.int .i64 i,.int .i64 n,.slice na nl nc,.int .i64 c] 80)).alloc (.cells #[nilV,.int .i64 0,.int .i64 0,nilV,.int .i64 0] 80)).heap[w.heap.size + 1]? = some (.cells #[nilV,.int .i64 0,.int .i64 0,nilV,.int .i64 0] 80 (0,0))) := heap_new_at (by simp)
 have HB1 := hid (((Below.refl w.heap.size w).alloc (Nat.le_refl _) (.cells #[.slice ba bl bc,.int .i64 i,.int .i64 n,.slice na nl nc,.int .i64 c] 80)).alloc (by simp) (.cells #[nilV,.int .i64 0,.int .i64 0,nilV,.int .i64 0] 80))
 generalize ((w.alloc (.cells #[.slice ba bl bc,.int .i64 i,.int .i64 n,.slice na nl nc,.int .i64 c] 80)).alloc (.cells #[nilV,.int .i64 0,.int .i64 0,nilV,.int .i64 0] 80)) = w1 at *
 refine (rfail1 _ _ _ _ _ _ _ _ c 73 hc _).mono ?_
 rintro e w2 ⟨rfl,hb⟩
 have HX2 := hid ((hb.block _ (blk_lt HX1.out)).trans HX1.out)
 have HY2 := hid ((hb.block _ (blk_lt HY1.out)).trans HY1.out)
 have HB2 := hid (HB1.out.trans (hb.mono HB1.out.size))
 clear hb HB1 HX1 HY1
 go_wp2_with (refine wpList_store_row rfl 80 (.tmp 4) (.tmp 8) rfl (w.heap.size + 1) #[.slice ba bl bc,.int .i64 i,.int .i64 n,.slice na nl nc,.int .i64 c] rfl rfl 80 #[nilV,.int .i64 0,.int .i64 0,nilV,.int .i64 0] HY2.out infoS rfl (by simp [Array.all,Value.oneCell']) ?_)
 have HY3 := hid (setRow_heap w2 (w.heap.size + 1) #[nilV,.int .i64 0,.int .i64 0,nilV,.int .i64 0] #[.slice ba bl bc,.int .i64 i,.int .i64 n,.slice na nl nc,.int .i64 c] 80 (0,0) HY2.out)
 have HX3 := hid ((setRow_other w2 (w.heap.size + 1) (w.heap.size) #[.slice ba bl bc,.int .i64 i,.int .i64 n,.slice na nl nc,.int .i64 c] (by omega)).trans HX2.out)
 have HB3 := hid (HB2.out.trans ((setRow_turn w2 (w.heap.size + 1) #[.slice ba bl bc,.int .i64 i,.int .i64 n,.slice na nl nc,.int .i64 c]).below HB2.out.size (fun i e => by omega)))
 clear HB2 HY2 HX2
 generalize w2.setRow (w.heap.size + 1) #[.slice ba bl bc,.int .i64 i,.int .i64 n,.slice na nl nc,.int .i64 c] = w3 at *
 go_wp2_with fail
 obtain ⟨k0,k1,k2,k3,k4⟩ := FiveAt.of_block HY3.out
 exact bodyPost_ret (v := stV ba bl bc i n na nl nc c) (by simp [results,Try.results49,go_sem,k0,k1,k2,k3,k4]) rfl ⟨rfl,HB3.out⟩
theorem rmust_e (ba : Option Addr) (bl bc : Nat) (i n : Int) (na : Option Addr) (nl nc : Nat) (c : Int) (hc : ¬ c = 0) (b : Bool) (w : World) : Calls Try.prog 49 #[stV ba bl bc i n na nl nc c,.bool b] w (RB w (stV ba bl bc i n na nl nc c)) := by
 cases b with
 | true => exact rmust_yes ba bl bc i n na nl nc c w
 | false => exact rmust_no1 ba bl bc i n na nl nc c hc w
theorem rmust_any (ba : Option Addr) (bl bc : Nat) (i n : Int) (na : Option Addr) (nl nc : Nat) (c : Int) (b : Bool) (w : World) : Calls Try.prog 49 #[stV ba bl bc i n na nl nc c,.bool b] w (RB w (stV ba bl bc i n na nl nc (if b = true then c else if c = 0 then 73 else c))) := by
 cases b with
 | true => exact rmust_yes ba bl bc i n na nl nc c w
 | false =>
  by_cases hc : c = 0
  ·subst hc; exact rmust_no0 ba bl bc i n na nl nc w
  ·have := rmust_no1 ba bl bc i n na nl nc c hc w
   simpa [hc] using this
end Go.Proofs.Ytgadkiljnebicaa
namespace Go.Proofs.Ytgadkiljnebicaa
open Go.Lib (hid)
open Go.RowKit
set_option maxRecDepth 100000
attribute [local go_sem] run_store_complex
theorem infoT : (Try.prog.info? 31).map (·.size) = some 9 := by kernel_rfl
set_option maxHeartbeats 2000000 in
theorem rp1 (R p m : Nat) (v bv : Value) (bs : List UInt8) (s s1 : St) (sub : Rd Tm) (d : Int) (hd : d ≤ 24) (w : World) (h : RdAt w R p m v bv bs s) (hn : s.n + 1 ≤ 4096) (ho : oneP bs { s with n := s.n + 1 } = .ok (1,s1)) :
  Calls Try.prog 25 #[.pointer (some ⟨R,0,none⟩),.int .i64 d] w (PartPost R p m v bv bs w (kindP bs sub 1 s1)) := by
 have H := hid h
 have HO := hid ho
 have HA := hid (h.below ((Below.refl _ w).alloc (Nat.le_refl _) (.cells #[.int .i64 0,.int .i64 0,.complex .f64 0 0,.string ⟨#[]⟩,.int .i64 0,.int .u32 0,.int .u64 0,nilV,nilV] 31)))
 have r2 := HA.out.c2
 have rf := HA.out.fz 2
 have hn' : (s.n : Int) + 1 ≤ 4096 := by omega
 clear h ho
 go_enter Try.func25,Try.ntmps25
 go_wp2_with fail
 have HR2 : Hid (RdAt ((w.alloc (.cells #[.int .i64 0,.int .i64 0,.complex .f64 0 0,.string ⟨#[]⟩,.int .i64 0,.int .u32 0,.int .u64 0,nilV,nilV] 31)).setCell ⟨R,2,none⟩ (.int .i64 ((s.n : Int) + 1))) R p m v bv bs { s with n := s.n + 1 }) := HA.out.store (by simp) rfl HA.out.ile (show s.n + 1 ≤ 4097 by omega)
 have HT2 := hid ((Turn.alloc (fun i => i = R) w (.cells #[.int .i64 0,.int .i64 0,.complex .f64 0 0,.string ⟨#[]⟩,.int .i64 0,.int .u32 0,.int .u64 0,nilV,nilV] 31)).trans (Turn.setCell _ R 2 (.int .i64 ((s.n : Int) + 1))))
 have hRl := H.out.lt R (.inl rfl)
 have hT0R : ¬ w.heap.size = R := by omega
 have HT0 := hid ((Below.heap_setCell (w.alloc (.cells #[.int .i64 0,.int .i64 0,.complex .f64 0 0,.string ⟨#[]⟩,.int .i64 0,.int .u32 0,.int .u64 0,nilV,nilV] 31)) ⟨R,2,none⟩ (.int .i64 ((s.n : Int) + 1)) _ hT0R).trans (heap_new w _))
 generalize (w.alloc (.cells #[.int .i64 0,.int .i64 0,.complex .f64 0 0,.string ⟨#[]⟩,.int .i64 0,.int .u32 0,.int .u64 0,nilV,nilV] 31)).setCell ⟨R,2,none⟩ (.int .i64 ((s.n : Int) + 1)) = w2 at *
 have H1 := one_any R p m v bv bs _ w2 HR2.out
 rw [HO.out] at H1
 obtain ⟨N,hN⟩ : ∃ N,w.heap.size = N := ⟨_,rfl⟩
 rw [hN] at hRl hT0R HT0 ⊢
 have HN := hid hN
 refine H1.mono ?_
 rintro e w3 ⟨rfl,hR3,hT3⟩
 have HR3 := hid hR3
 have HT3 := hid (HT2.out.trans hT3)
 have HT03 := hid ((hT3.block N (blk_lt HT0.out) hT0R).trans HT0.out)
 have hNl : N < w3.heap.size := blk_lt HT03.out
 clear hR3 hT3 hN HA HR2 HT2 HT0 H1 r2 rf hn' HO
 have HR4 := hid (HR3.out.below ((Below.refl _ w3).alloc (Nat.le_refl _) (.cells #[.int .i64 1,.int .i64 0,.complex .f64 0 0,.string ⟨#[]⟩,.int .i64 0,.int .u32 0,.int .u64 0,nilV,nilV] 31)))
 have HT4 := hid (turnR (p := p) (m := m) (v := v) (HT3.out.trans (Turn.alloc (fun i => i = R) w3 (.cells #[.int .i64 1,.int .i64 0,.complex .f64 0 0,.string ⟨#[]⟩,.int .i64 0,.int .u32 0,.int .u64 0,nilV,nilV] 31))))
 have HT04 := hid ((Below.heap_alloc w3 (.cells #[.int .i64 1,.int .i64 0,.complex .f64 0 0,.string ⟨#[]⟩,.int .i64 0,.int .u32 0,.int .u64 0,nilV,nilV] 31) N hNl).trans HT03.out)
 have HT14 := hid (heap_new w3 (.cells #[.int .i64 1,.int .i64 0,.complex .f64 0 0,.string ⟨#[]⟩,.int .i64 0,.int .u32 0,.int .u64 0,nilV,nilV] 31))
 have hT1R : ¬ w3.heap.size = R := by omega
 obtain ⟨k0,k1,k2,k3,k4,k5,k6,k7,k8⟩ := NineAt.of_block HT14.out
 go_wp2_with fail
 clear k0 k1 k2 k3 k4 k5 k6 k7 k8 HR3 HT3 HT03
 generalize w3.alloc (.cells #[.int .i64 1,.int .i64 0,.complex .f64 0 0,.string ⟨#[]⟩,.int .i64 0,.int .u32 0,.int .u64 0,nilV,nilV] 31) = w4 at *
 generalize w3.heap.size = T at *
 have HW := wide_any R p m v bv bs s1 w4 HR4.out
 cases hw : wideN bs s1 with
 | error x =>
  rw [hw] at HW
  have HK := hid (show kindP bs sub 1 s1 = .error x by simp [kindP,hw])
  have HW := hid HW
  clear hw
  refine HW.out.mono ?_
  rintro e w5 ⟨rfl,hT5⟩
  go_wp2_with fail
  refine ⟨rfl,?_⟩
  rw [HK.out]
  exact ⟨rfl,HT4.out.trans (turnR hT5)⟩
 | ok y =>
  obtain ⟨u,s2⟩ := y
  rw [hw] at HW
  have hu := wideN_lt hw
  have hz := zig_eq u hu
  have HK := hid (show kindP bs sub 1 s1 = if inR (zig u) = true then .ok (.mk { kind := 1,n := zig u } [],s2) else .error 73 by simp [kindP,hw])
  have HW := hid HW
  clear hw
  refine HW.out.mono ?_
  rintro e w5 ⟨rfl,hR5,hT5⟩
  have HR5 := hid hR5
  have HT5 := hid (HT4.out.trans (turnR hT5))
  have HT05 := hid ((hT5.block N (blk_lt HT04.out) hT0R).trans HT04.out)
  have HT15 := hid ((hT5.block T (blk_lt HT14.out) hT1R).trans HT14.out)
  clear hR5 hT5 HR4 HT4 HT04 HT14 HW
  have hNT : ¬ N = T := by omega
  obtain ⟨k0,k1,k2,k3,k4,k5,k6,k7,k8⟩ := NineAt.of_block HT15.out
  have f1 := blk_fz HT15.out 1
  go_wp2_with fail
  clear k0 k1 k2 k3 k4 k5 k6 k7 k8 hz f1 hu
  have hNw := HN.out
  have HR6 := hid (rd_setT (o := 1) (u := .int .i64 (zig u)) H.out HR5.out (show w.heap.size ≤ T by omega) (.inl rfl))
  have HT6 := hid (turn_setT (o := 1) (u := .int .i64 (zig u)) HT5.out (show w.heap.size ≤ T by omega))
  have HT06 := hid ((Below.heap_setCell w5 ⟨T,1,none⟩ (.int .i64 (zig u)) _ hNT).trans HT05.out)
  have HT16 : Hid ((w5.setCell ⟨T,1,none⟩ (.int .i64 (zig u))).heap[T]? = some (.cells #[.int .i64 1,.int .i64 (zig u),.complex .f64 0 0,.string ⟨#[]⟩,.int .i64 0,.int .u32 0,.int .u64 0,nilV,nilV] 31 (0,0))) := heap_setCell_at HT15.out
  clear hNw HR5 HT5 HT05 HT15
  generalize w5.setCell ⟨T,1,none⟩ (.int .i64 (zig u)) = w6 at *
  generalize zig u = n at *
  refine (right1_any n w6).mono ?_
  rintro e w7 ⟨rfl,hb7⟩
  have HR7 := hid (HR6.out.below hb7)
  have HT7 := hid (HT6.out.trans (Turn.of_below hb7))
  have HT07 := hid ((hb7.block N (blk_lt HT06.out)).trans HT06.out)
  have HT17 := hid ((hb7.block T (blk_lt HT16.out)).trans HT16.out)
  clear hb7 HR6 HT6 HT06 HT16
  cases hI : inR n with
  | false =>
   rw [hI] at HK
   clear hI
   go_wp2_with fail
   refine (must_no _ _).mono ?_
   rintro e w8 ⟨rfl,rfl⟩
   go_wp2_with fail
   refine ⟨rfl,?_⟩
   rw [HK.out]
   exact ⟨rfl,HT7.out⟩
  | true =>
   rw [hI] at HK
   clear hI
   go_wp2_with fail
   refine (must_yes _ _).mono ?_
   rintro e w8 ⟨rfl,rfl⟩
   obtain ⟨k0,k1,k2,k3,k4,k5,k6,k7,k8⟩ := NineAt.of_block HT17.out
   go_wp2_with (refine wpList_store_row rfl 31 (.tmp 4) (.tmp 155) rfl N #[.int .i64 1,.int .i64 n,.complex .f64 0 0,.string ⟨#[]⟩,.int .i64 0,.int .u32 0,.int .u64 0,nilV,nilV] rfl rfl 31 #[.int .i64 0,.int .i64 0,.complex .f64 0 0,.string ⟨#[]⟩,.int .i64 0,.int .u32 0,.int .u64 0,nilV,nilV] HT07.out infoT rfl (by simp [Array.all,Value.oneCell']) ?_)
   clear k0 k1 k2 k3 k4 k5 k6 k7 k8
   have ht9 := NineAt.of_block (setRow_heap w8 N #[.int .i64 0,.int .i64 0,.complex .f64 0 0,.string ⟨#[]⟩,.int .i64 0,.int .u32 0,.int .u64 0,nilV,nilV] #[.int .i64 1,.int .i64 n,.complex .f64 0 0,.string ⟨#[]⟩,.int .i64 0,.int .u32 0,.int .u64 0,nilV,nilV] 31 (0,0) HT07.out)
   have HC := hid (rp_close (cs := #[.int .i64 1,.int .i64 n,.complex .f64 0 0,.string ⟨#[]⟩,.int .i64 0,.int .u32 0,.int .u64 0,nilV,nilV]) H.out HR7.out HT7.out HN.out (.inl rfl) (Rep.leaf (h := { kind := 1,n := n }) rfl))
   generalize w8.setRow N #[.int .i64 1,.int .i64 n,.complex .f64 0 0,.string ⟨#[]⟩,.int .i64 0,.int .u32 0,.int .u64 0,nilV,nilV] = wz at *
   obtain ⟨k0,k1,k2,k3,k4,k5,k6,k7,k8⟩ := ht9
   exact bodyPost_ret (v := .agg #[.int .i64 1,.int .i64 n,.complex .f64 0 0,.string ⟨#[]⟩,.int .i64 0,.int .u32 0,.int .u64 0,nilV,nilV]) (by simp [results,Try.results25,go_sem,k0,k1,k2,k3,k4,k5,k6,k7,k8]) rfl (by rw [HK.out]; exact ⟨v,_,rfl,HC.out⟩)
end Go.Proofs.Ytgadkiljnebicaa
