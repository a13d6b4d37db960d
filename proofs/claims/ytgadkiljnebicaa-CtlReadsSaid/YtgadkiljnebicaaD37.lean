/- Several texts in one. -/
import Derived.Test.YtgadkiljnebicaaD33
import Derived.Test.YtgadkiljnebicaaD14
namespace Go.Proofs.Ytgadkiljnebicaa
open Go.Lib (hid)
open Go.RowKit
set_option maxRecDepth 100000
abbrev sC (ba : Option Addr) (bl bc : Nat) (i n : Int) (na : Option Addr) (nl nc : Nat) (code : Int) : Array Value := #[.slice ba bl bc,.int .i64 i,.int .i64 n,.slice na nl nc,.int .i64 code]
abbrev sZ : Array Value := #[nilV,.int .i64 0,.int .i64 0,nilV,.int .i64 0]
structure QAt (X Y Z T : Nat) (xc tc : Array Value) (w wr : World) : Prop where
 xb : wr.heap[X]? = some (.cells xc 80 (0,0))
 yb : wr.heap[Y]? = some (.cells sZ 80 (0,0))
 zb : wr.heap[Z]? = some (.cells zC 31 (0,0))
 tb : wr.heap[T]? = some (.cells tc 31 (0,0))
 below : Below X w wr
 xy : X < Y
 yz : Y < Z
 zt : Z < T
theorem QAt.xl {X Y Z T : Nat} {xc tc : Array Value} {w wr : World} (h : QAt X Y Z T xc tc w wr) : X ≤ wr.heap.size := Nat.le_of_lt (blk_lt h.xb)
theorem QAt.turn {X Y Z T : Nat} {xc tc : Array Value} {w wr w' : World} {S : Nat → Prop} (h : QAt X Y Z T xc tc w wr) (hT : Turn S wr w') (hS : ∀ i,S i → T < i) : QAt X Y Z T xc tc w w' := by
 have a := h.xy; have b := h.yz; have c := h.zt
 refine ⟨(hT.block X (blk_lt h.xb) fun e => by have := hS _ e; omega).trans h.xb,(hT.block Y (blk_lt h.yb) fun e => by have := hS _ e; omega).trans h.yb,(hT.block Z (blk_lt h.zb) fun e => by have := hS _ e; omega).trans h.zb,(hT.block T (blk_lt h.tb) fun e => by have := hS _ e; omega).trans h.tb,h.below.trans (hT.below h.xl fun i e => by have := hS _ e; omega),a,b,c⟩
theorem QAt.call {X Y Z T : Nat} {xc tc : Array Value} {w wr w' : World} (h : QAt X Y Z T xc tc w wr) (hb : Below wr.heap.size wr w') : QAt X Y Z T xc tc w w' :=
 h.turn (S := fun _ => False) (Turn.of_below hb) (fun _ e => e.elim)
theorem QAt.alloc {X Y Z T : Nat} {xc tc : Array Value} {w wr : World} (h : QAt X Y Z T xc tc w wr) (o : Obj) : QAt X Y Z T xc tc w (wr.alloc o) := h.call ((Below.refl _ _).alloc (Nat.le_refl _) o)
theorem QAt.rowX {X Y Z T : Nat} {xc tc : Array Value} {w wr : World} (h : QAt X Y Z T xc tc w wr) (xc' : Array Value) : QAt X Y Z T xc' tc w (wr.setRow X xc') := by
 have a := h.xy; have b := h.yz; have c := h.zt
 exact ⟨setRow_heap wr X xc xc' _ _ h.xb,(setRow_other wr X Y xc' (by omega)).trans h.yb,(setRow_other wr X Z xc' (by omega)).trans h.zb,(setRow_other wr X T xc' (by omega)).trans h.tb,h.below.trans ((setRow_turn wr X xc').below h.xl fun i e => by omega),a,b,c⟩
theorem QAt.cellX {X Y Z T o : Nat} {xc tc : Array Value} {w wr : World} (h : QAt X Y Z T xc tc w wr) (u : Value) : QAt X Y Z T (xc.setIfInBounds o u) tc w (wr.setCell ⟨X,o,none⟩ u) := by
 have a := h.xy; have b := h.yz; have c := h.zt
 exact ⟨heap_setCell_at h.xb,(Below.heap_setCell wr ⟨X,o,none⟩ u Y (by show ¬ Y = X; omega)).trans h.yb,(Below.heap_setCell wr ⟨X,o,none⟩ u Z (by show ¬ Z = X; omega)).trans h.zb,(Below.heap_setCell wr ⟨X,o,none⟩ u T (by show ¬ T = X; omega)).trans h.tb,h.below.setCell (p := ⟨X,o,none⟩) (Nat.le_refl _) u,a,b,c⟩
theorem QAt.cellT {X Y Z T o : Nat} {xc tc : Array Value} {w wr : World} (h : QAt X Y Z T xc tc w wr) (u : Value) : QAt X Y Z T xc (tc.setIfInBounds o u) w (wr.setCell ⟨T,o,none⟩ u) := by
 have a := h.xy; have b := h.yz; have c := h.zt
 exact ⟨(Below.heap_setCell wr ⟨T,o,none⟩ u X (by show ¬ X = T; omega)).trans h.xb,(Below.heap_setCell wr ⟨T,o,none⟩ u Y (by show ¬ Y = T; omega)).trans h.yb,(Below.heap_setCell wr ⟨T,o,none⟩ u Z (by show ¬ Z = T; omega)).trans h.zb,heap_setCell_at h.tb,h.below.setCell (p := ⟨T,o,none⟩) (show X ≤ T by omega) u,a,b,c⟩
theorem QAt.fiveX {X Y Z T : Nat} {c0 c1 c2 c3 c4 d0 d1 d2 d3 d4 : Value} {tc : Array Value} {w wr : World} (h : QAt X Y Z T #[c0,c1,c2,c3,c4] tc w wr) : QAt X Y Z T #[d0,d1,d2,d3,d4] tc w (set5 wr X d0 d1 d2 d3 d4) := by
 have a := h.xy; have b := h.yz; have c := h.zt
 have hT := five_turn wr X d0 d1 d2 d3 d4
 exact ⟨five_set h.xb,(hT.block Y (blk_lt h.yb) (by omega)).trans h.yb,(hT.block Z (blk_lt h.zb) (by omega)).trans h.zb,(hT.block T (blk_lt h.tb) (by omega)).trans h.tb,h.below.trans (hT.below h.xl fun i e => by omega),a,b,c⟩
def PartOut (X0 : Nat) (n0 : Option Addr) (nm0 : List ByteArray) (r : Except Int (Tm × St)) (i n : Int) (na : Option Addr) (nl nc : Nat) (code : Int) (cs : Array Value) (w' : World) : Prop :=
 (¬ code = 0 ∧ r = .error code) ∨ (code = 0 ∧ ∃ t s',r = .ok (t,s') ∧ i = s'.i ∧ n = s'.n ∧ nl = s'.names.length ∧ Strs w' (.slice na nl nc) s'.names ∧ Rep w' (fun b => X0 ≤ b) t cs ∧ (na = n0 ∧ s'.names = nm0 ∨ ∀ b,(Value.slice na nl nc).ownBlock = some b → X0 ≤ b))
theorem rpt_gen {ba : Option Addr} {bl bc : Nat} {n0 : Option Addr} {nm0 : List ByteArray} {W : World} {r : Except Int (Tm × St)} {e : Ending} {w' : World} (h : RPT ba bl bc n0 nm0 W r e w') (hr : ∀ x,r = .error x → ¬ x = 0) :
  ∃ (i n : Int) (na : Option Addr) (nl nc : Nat) (code : Int) (q0 q1 : Int) (q2 q3 : Nat) (q4 : ByteArray) (q5 q6 q7 : Int) (q8 : Option Addr) (q9 q10 : Nat) (q11 : Option Addr) (q12 q13 : Nat),
   e = .returned (.tuple #[stV ba bl bc i n na nl nc code,.agg #[.int .i64 q0,.int .i64 q1,.complex .f64 q2 q3,.string q4,.int .i64 q5,.int .u32 q6,.int .u64 q7,.slice q8 q9 q10,.slice q11 q12 q13]]) ∧ Below W.heap.size W w' ∧
   PartOut W.heap.size n0 nm0 r i n na nl nc code #[.int .i64 q0,.int .i64 q1,.complex .f64 q2 q3,.string q4,.int .i64 q5,.int .u32 q6,.int .u64 q7,.slice q8 q9 q10,.slice q11 q12 q13] w' := by
 cases r with
 | error x =>
  obtain ⟨i,n,na,nl,nc,q0,q1,q2,q3,q4,q5,q6,q7,q8,q9,q10,q11,q12,q13,he,hb⟩ := h
  exact ⟨i,n,na,nl,nc,x,q0,q1,q2,q3,q4,q5,q6,q7,q8,q9,q10,q11,q12,q13,he,hb,.inl ⟨hr x rfl,rfl⟩⟩
 | ok y =>
  obtain ⟨t,s'⟩ := y
  obtain ⟨na,nc,c,he,hs,hb,hrep,hn⟩ := h
  obtain ⟨q0,q1,q2,q3,q4,q5,q6,q7,q8,q9,q10,q11,q12,q13,rfl,_⟩ := rep_nine hrep
  exact ⟨s'.i,s'.n,na,s'.names.length,nc,0,q0,q1,q2,q3,q4,q5,q6,q7,q8,q9,q10,q11,q12,q13,he,hb,.inr ⟨rfl,t,s',rfl,rfl,rfl,rfl,hs,hrep,hn⟩⟩
theorem rpt_back {ba : Option Addr} {bl bc : Nat} {n0 : Option Addr} {nm0 : List ByteArray} {W : World} {r : Except Int (Tm × St)} {w' : World} {i n : Int} {na : Option Addr} {nl nc : Nat} {code q0 q1 : Int} {q2 q3 : Nat} {q4 : ByteArray} {q5 q6 q7 : Int} {q8 : Option Addr} {q9 q10 : Nat} {q11 : Option Addr} {q12 q13 : Nat}
  (hb : Below W.heap.size W w') (h : PartOut W.heap.size n0 nm0 r i n na nl nc code #[.int .i64 q0,.int .i64 q1,.complex .f64 q2 q3,.string q4,.int .i64 q5,.int .u32 q6,.int .u64 q7,.slice q8 q9 q10,.slice q11 q12 q13] w') :
  RPT ba bl bc n0 nm0 W r (.returned (.tuple #[stV ba bl bc i n na nl nc code,.agg #[.int .i64 q0,.int .i64 q1,.complex .f64 q2 q3,.string q4,.int .i64 q5,.int .u32 q6,.int .u64 q7,.slice q8 q9 q10,.slice q11 q12 q13]])) w' := by
 rcases h with ⟨_,rfl⟩ | ⟨rfl,t,s',rfl,rfl,rfl,rfl,hs,hrep,hn⟩
 ·exact ⟨_,_,_,_,_,_,_,_,_,_,_,_,_,_,_,_,_,_,_,rfl,hb⟩
 ·exact ⟨_,_,_,rfl,hs,hb,hrep,hn⟩
theorem rp1_gen {ba : Option Addr} {bl bc : Nat} {na : Option Addr} {nl nc : Nat} {W w' : World} {r : Except Int (Nat × St)} {e : Ending} (h : RP1 ba bl bc na nl nc W (fun c => .int .u64 (c : Nat)) (fun u => ∃ q : Nat,u = .int .u64 q ∧ q < 18446744073709551616) r e w') (hr : ∀ x,r = .error x → ¬ x = 0) (hr2 : ∀ y,r = .ok y → y.1 < 18446744073709551616) :
  ∃ (i n code : Int) (q : Nat),e = .returned (.tuple #[stV ba bl bc i n na nl nc code,.int .u64 (q : Nat)]) ∧ q < 18446744073709551616 ∧ Below W.heap.size W w' ∧ ((¬ code = 0 ∧ r = .error code) ∨ (code = 0 ∧ ∃ s',r = .ok (q,s') ∧ i = s'.i ∧ n = s'.n)) := by
 cases r with
 | error x =>
  obtain ⟨i,n,u,he,⟨q,rfl,hq⟩,hb⟩ := h
  exact ⟨i,n,x,q,he,hq,hb,.inl ⟨hr x rfl,rfl⟩⟩
 | ok y =>
  obtain ⟨q,s'⟩ := y
  obtain ⟨he,hb⟩ := h
  exact ⟨s'.i,s'.n,0,q,he,hr2 _ rfl,hb,.inr ⟨rfl,s',rfl,rfl,rfl⟩⟩
theorem two_new {w5 : World} {o1 o2 zc pc : Array Value} {t1 t2 : TypeId} :
  (((((w5.alloc (.cells o1 t1)).alloc (.cells o2 t2)).setRow w5.heap.size zc).setRow (w5.heap.size + 1) pc).heap[w5.heap.size]? = some (.cells zc t1 (0,0))) ∧
  (((((w5.alloc (.cells o1 t1)).alloc (.cells o2 t2)).setRow w5.heap.size zc).setRow (w5.heap.size + 1) pc).heap[w5.heap.size + 1]? = some (.cells pc t2 (0,0))) ∧
  Below w5.heap.size w5 ((((w5.alloc (.cells o1 t1)).alloc (.cells o2 t2)).setRow w5.heap.size zc).setRow (w5.heap.size + 1) pc) := by
 have h1 : ((w5.alloc (.cells o1 t1)).alloc (.cells o2 t2)).heap[w5.heap.size]? = some (.cells o1 t1 (0,0)) := (Below.heap_alloc _ _ _ (by simp)).trans (heap_new w5 _)
 have h2 : ((w5.alloc (.cells o1 t1)).alloc (.cells o2 t2)).heap[w5.heap.size + 1]? = some (.cells o2 t2 (0,0)) := heap_new_at (by simp)
 have hb : Below w5.heap.size w5 ((w5.alloc (.cells o1 t1)).alloc (.cells o2 t2)) := ((Below.refl w5.heap.size w5).alloc (Nat.le_refl _) _).alloc (by simp) _
 generalize ((w5.alloc (.cells o1 t1)).alloc (.cells o2 t2)) = W at *
 have h3 := setRow_heap W w5.heap.size o1 zc t1 (0,0) h1
 have h4 := (setRow_other W w5.heap.size (w5.heap.size + 1) zc (by omega)).trans h2
 have hb2 := hb.trans ((setRow_turn W w5.heap.size zc).below hb.size fun i e => by omega)
 generalize W.setRow w5.heap.size zc = W2 at *
 exact ⟨(setRow_other W2 (w5.heap.size + 1) w5.heap.size pc (by omega)).trans h3,setRow_heap W2 _ o2 pc t2 (0,0) h4,hb2.trans ((setRow_turn W2 (w5.heap.size + 1) pc).below hb2.size fun i e => by omega)⟩
theorem two_new1 {w5 : World} {o1 o2 : Array Value} {t1 t2 : TypeId} : ((w5.alloc (.cells o1 t1)).alloc (.cells o2 t2)).heap[w5.heap.size]? = some (.cells o1 t1 (0,0)) := (Below.heap_alloc _ _ _ (by simp)).trans (heap_new w5 _)
theorem two_new2 {w5 : World} {o1 o2 zc : Array Value} {t1 t2 : TypeId} : (((w5.alloc (.cells o1 t1)).alloc (.cells o2 t2)).setRow w5.heap.size zc).heap[w5.heap.size + 1]? = some (.cells o2 t2 (0,0)) :=
 (setRow_other _ w5.heap.size (w5.heap.size + 1) zc (by omega)).trans (heap_new_at (by simp))
structure QL (X Y Z T j : Nat) (K : Int) (xc : Array Value) (a : Option Addr) (c : Nat) (xs : List Value) (w wr : World) : Prop where
 q : QAt X Y Z T xc (lC K (.slice a j c)) w wr
 none0 : j = 0 → Value.slice a j c = nilV
 row : wr.ownsRow (T + 1) 31 9 (.slice a j c) j xs
theorem QL.keep {X Y Z T j c : Nat} {K : Int} {xc xc' : Array Value} {a : Option Addr} {xs : List Value} {w wr w' : World} (h : QL X Y Z T j K xc a c xs w wr) (hq : QAt X Y Z T xc' (lC K (.slice a j c)) w w') (hr : ∀ b,(Value.slice a j c).ownBlock = some b → b < wr.heap.size → w'.heap[b]? = wr.heap[b]?) : QL X Y Z T j K xc' a c xs w w' :=
 ⟨hq,h.none0,row_same h.row hr⟩
theorem QL.call {X Y Z T j c : Nat} {K : Int} {xc : Array Value} {a : Option Addr} {xs : List Value} {w wr w' : World} (h : QL X Y Z T j K xc a c xs w wr) (hb : Below wr.heap.size wr w') : QL X Y Z T j K xc a c xs w w' :=
 h.keep (h.q.call hb) fun _ _ hl => hb.block _ hl
theorem QL.rowX {X Y Z T j c : Nat} {K : Int} {xc : Array Value} {a : Option Addr} {xs : List Value} {w wr : World} (h : QL X Y Z T j K xc a c xs w wr) (xc' : Array Value) : QL X Y Z T j K xc' a c xs w (wr.setRow X xc') :=
 h.keep (h.q.rowX xc') fun b e _ => setRow_other _ _ _ _ (by have := (h.row.lt b e).1; have := h.q.xy; have := h.q.yz; have := h.q.zt; omega)
theorem QL.next {X Y Z T j c c8 : Nat} {K : Int} {xc : Array Value} {a a8 : Option Addr} {xs news : List Value} {w w7 w8 : World} {o : Obj} (h : QL X Y Z T j K xc a c xs w w7) (hg : (w7.alloc o).grownBy w8 (Value.slice a j c).ownBlock) (ho8 : w8.ownsRow (T + 1) 31 9 (.slice a8 (j + 1) c8) (j + 1) (xs ++ news)) :
  QL X Y Z T (j + 1) K xc a8 c8 (xs ++ news) w (w8.setCell ⟨T,8,none⟩ (.slice a8 (j + 1) c8)) ∧ Turn (fun i => i = T ∨ (Value.slice a j c).ownBlock = some i) w7 (w8.setCell ⟨T,8,none⟩ (.slice a8 (j + 1) c8)) := by
 obtain ⟨k1,k2,k3⟩ := app_keep h.row hg
 have hq8 : QAt X Y Z T xc (lC K (.slice a j c)) w w8 := h.q.turn k3 fun i e => by have := (h.row.lt i e).1; omega
 refine ⟨⟨hq8.cellT (o := 8) (.slice a8 (j + 1) c8),fun e => by omega,row_same ho8 fun b e hb => Below.heap_setCell w8 ⟨T,8,none⟩ _ b (by have := (ho8.lt b e).1; show ¬ b = T; omega)⟩,?_⟩
 exact (k3.mono fun i _ e => .inr e).trans ((Turn.setCell w8 T 8 _).mono fun i _ e => .inl e)
structure QG (X T j k : Nat) (sub : Rd Tm) (s2 : St) (n0 : Option Addr) (nm0 : List ByteArray) (bs : List UInt8) (i n : Int) (na : Option Addr) (nl nc : Nat) (a : Option Addr) (c : Nat) (xs : List Value) (wr : World) (sj : St) (l : List Tm) (vs : List (Array Value)) : Prop where
 ei : i = sj.i
 en : n = sj.n
 enl : nl = sj.names.length
 exs : xs = cat vs
 len : l.length = j
 jk : j ≤ k
 reps : Reps wr (fun b => T < b ∧ (Value.slice a j c).ownBlock ≠ some b) l vs
 strs : Strs wr (.slice na nl nc) sj.names
 apart : 0 < nl → ∀ b,(Value.slice na nl nc).ownBlock = some b → (b < X ∨ T < b) ∧ (Value.slice a j c).ownBlock ≠ some b
 old : na = n0 ∧ sj.names = nm0 ∨ ∀ b,(Value.slice na nl nc).ownBlock = some b → X ≤ b
 ile : sj.i ≤ bs.length
 nle : sj.n ≤ 4097
 nms : sj.names.length ≤ sj.n
 many : manyP sub k s2 = behind l (manyP sub (k - j) sj)
def QO (X T j : Nat) (kk : Int) (sub : Rd Tm) (s2 : St) (k : Nat) (n0 : Option Addr) (nm0 : List ByteArray) (bs : List UInt8) (i n : Int) (na : Option Addr) (nl nc : Nat) (code : Int) (a : Option Addr) (c : Nat) (xs : List Value) (wr : World) (bad : Int → Prop) (good : Prop) : Prop :=
 (¬ code = 0 ∧ bad code) ∨ (code = 0 ∧ kk = (k : Int) ∧ good ∧ ∃ sj l vs,QG X T j k sub s2 n0 nm0 bs i n na nl nc a c xs wr sj l vs)
theorem three {p q r : Prop} (h : p ∨ q ∨ r) (a : ¬ p) (b : ¬ q) (c : ¬ r) : False := h.elim a fun h => h.elim b c
theorem QG.next {X Y Z T j k c c8 : Nat} {K : Int} {sub : Rd Tm} {s2 sj : St} {n0 na na' a a8 : Option Addr} {nm0 : List ByteArray} {bs : List UInt8} {i n i' n' code' : Int} {nl nc nl' nc' : Nat} {xs : List Value} {w wr w5 w9 : World} {l : List Tm} {vs : List (Array Value)} {cs : Array Value} {xc : Array Value}
  (hG : QG X T j k sub s2 n0 nm0 bs i n na nl nc a c xs wr sj l vs) (hL : QL X Y Z T j K xc a c xs w wr) (hjk : j < k) (hb5 : Below wr.heap.size wr w5) (hP : PartOut wr.heap.size na sj.names (sub sj) i' n' na' nl' nc' code' cs w5)
  (hsn : ∀ s t s',s.i ≤ bs.length → s.n ≤ 4097 → s.names.length ≤ s.n → sub s = .ok (t,s') → s'.i ≤ bs.length ∧ s'.n ≤ 4097 ∧ s'.names.length ≤ s'.n)
  (hT : Turn (fun b => b = X ∨ b = T ∨ (Value.slice a j c).ownBlock = some b) w5 w9) (hown : (Value.slice a8 (j + 1) c8).ownBlock = (Value.slice a j c).ownBlock ∨ ∃ b8,(Value.slice a8 (j + 1) c8).ownBlock = some b8 ∧ w5.heap.size ≤ b8) :
  (¬ code' = 0 ∧ manyP sub k s2 = .error code') ∨ (code' = 0 ∧ ∃ sj l vs,QG X T (j + 1) k sub s2 n0 nm0 bs i' n' na' nl' nc' a8 c8 (xs ++ cs.toList) w9 sj l vs) := by
 have hTl := blk_lt hL.q.tb
 have hX : X < T := by have := hL.q.xy; have := hL.q.yz; have := hL.q.zt; omega
 have hs5 := hb5.size
 have hrow : ∀ b,(Value.slice a j c).ownBlock = some b → T < b ∧ b < wr.heap.size := fun b e => ⟨(hL.row.lt b e).1,(hL.row.lt b e).2⟩
 rcases hP with ⟨h1,h2⟩ | ⟨h1,t,s',h2,rfl,rfl,rfl,hst,hrep,hnm⟩
 ·exact .inl ⟨h1,many_err hG.many hjk h2⟩
 ·obtain ⟨q1,q2,q3⟩ := hsn _ _ _ hG.ile hG.nle hG.nms h2
  refine .inr ⟨h1,s',l ++ [t],vs ++ [cs],⟨rfl,rfl,rfl,by rw [hG.exs,cat_snoc],by simp [hG.len],hjk,?_,?_,?_,?_,q1,q2,q3,many_ok hG.many hjk h2⟩⟩
  ·refine Reps.snoc ?_ ?_
   ·have h3 := Rep.mono (F' := fun b => wr.heap.size ≤ b ∧ b < w5.heap.size) (fun b e hb => ⟨e,hb⟩) _ _ hrep
    have h4 := Rep.keep (w' := w9) (fun b e hb => hT.block b hb (fun e2 => three e2 (fun e3 => by have := e.1; omega) (fun e3 => by have := e.1; omega) (fun e3 => by have := (hrow b e3).2; have := e.1; omega))) _ _ h3
    refine Rep.mono (fun b e _ => ⟨by have := e.1; omega,fun e2 => ?_⟩) _ _ h4
    rcases hown with h5 | ⟨b8,h5,h6⟩
    ·have := (hrow b (h5.symm.trans e2)).2; have := e.1; omega
    ·have h7 := h5.symm.trans e2; cases h7; have := e.2; omega
   ·have h3 := Reps.mono (F' := fun b => T < b ∧ (Value.slice a j c).ownBlock ≠ some b ∧ (Value.slice a8 (j + 1) c8).ownBlock ≠ some b) (fun b e hb => ⟨e.1,e.2,fun e2 => by
     rcases hown with h5 | ⟨b8,h5,h6⟩
     ·exact e.2 (h5.symm.trans e2)
     ·have h7 := h5.symm.trans e2; cases h7; omega⟩) _ _ hG.reps
    have h4 := Reps.keep (w' := w5) (fun b e hb => hb5.block b hb) _ _ h3
    have h5 := Reps.keep (w' := w9) (fun b e hb => hT.block b hb (fun e2 => three e2 (fun e3 => by have := e.1; omega) (fun e3 => by have := e.1; omega) (fun e3 => e.2.1 e3))) _ _ h4
    exact Reps.mono (fun b e _ => ⟨e.1,e.2.2⟩) _ _ h5
  all_goals
   have hap : 0 < s'.names.length → ∀ b,(Value.slice na' s'.names.length nc').ownBlock = some b → (b < X ∨ T < b) ∧ (Value.slice a j c).ownBlock ≠ some b ∧ (Value.slice a8 (j + 1) c8).ownBlock ≠ some b := by
    intro hp b e
    have hbl := hst.lt hp e
    rcases hnm with ⟨rfl,h6⟩ | h6
    ·have e2 : (Value.slice na' nl nc).ownBlock = some b := by cases na' <;> exact e
     have hlen : s'.names.length = nl := by rw [h6,hG.enl]
     obtain ⟨h7,h8⟩ := hG.apart (by omega) b e2
     refine ⟨h7,h8,fun e3 => ?_⟩
     have h9 := hG.strs.lt (by rw [← hG.enl]; omega) e2
     rcases hown with h5 | ⟨b8,h5,h10⟩
     ·exact h8 (h5.symm.trans e3)
     ·have h11 := h5.symm.trans e3; cases h11; omega
    ·have h7 := h6 b e
     refine ⟨.inr (by omega),fun e2 => by have := (hrow b e2).2; omega,fun e3 => ?_⟩
     rcases hown with h5 | ⟨b8,h5,h10⟩
     ·have := (hrow b (h5.symm.trans e3)).2; omega
     ·have h11 := h5.symm.trans e3; cases h11; omega
  ·exact hst.same' fun hp b e hb => hT.block b hb (by
    obtain ⟨h7,h8,_⟩ := hap hp b e
    exact fun e2 => three e2 (fun e3 => by omega) (fun e3 => by omega) (fun e3 => h8 e3))
  ·exact fun hp b e => ⟨(hap hp b e).1,(hap hp b e).2.2⟩
  ·rcases hnm with ⟨rfl,h6⟩ | h6
   ·rcases hG.old with ⟨h7,h8⟩ | h7
    ·exact .inl ⟨h7,h6.trans h8⟩
    ·exact .inr fun b e => h7 b (by cases na' <;> exact e)
   ·exact .inr fun b e => by have := h6 b e; omega
theorem QG.done {X Y Z T j k c : Nat} {K : Nat} {sub : Rd Tm} {s2 sj : St} {n0 na a : Option Addr} {nm0 : List ByteArray} {bs : List UInt8} {i n : Int} {nl nc : Nat} {xs : List Value} {w wr w9 : World} {l : List Tm} {vs : List (Array Value)} {xc : Array Value}
  (hG : QG X T j k sub s2 n0 nm0 bs i n na nl nc a c xs wr sj l vs) (hL : QL X Y Z T j K xc a c xs w wr) (hjk : ¬ j < k) (hT : Turn (fun b => b = Y ∨ b = Z) wr w9) :
  manyP sub k s2 = .ok (l,sj) ∧ i = sj.i ∧ n = sj.n ∧ nl = sj.names.length ∧ Strs w9 (.slice na nl nc) sj.names ∧ Rep w9 (fun b => X ≤ b) (.mk { kind := K } l) (lC K (.slice a j c)) ∧ (na = n0 ∧ sj.names = nm0 ∨ ∀ b,(Value.slice na nl nc).ownBlock = some b → X ≤ b) := by
 have hjk2 : j = k := by have := hG.jk; omega
 have hxy := hL.q.xy; have hyz := hL.q.yz; have hzt := hL.q.zt
 refine ⟨many_end (by have := hG.many; rw [hjk2] at this; exact this),hG.ei,hG.en,hG.enl,hG.strs.same' fun hp b e hb => hT.block b hb (by have := hG.apart (by rw [hG.enl]; exact hp) b e; omega),?_,hG.old⟩
 have hrow : Row wr (fun b => T < b) 31 9 (.slice a j c) l.length (cat vs) := by
  have hl := hG.len
  have h1 := hL.row
  rw [hG.exs] at h1
  refine ⟨by rw [hl]; exact owns_mono h1 (Nat.zero_le _),fun b e => by have := (h1.lt b e).1; omega,fun e => hL.none0 (by omega)⟩
 refine ⟨nilV,.slice a j c,rfl,Row.nil _ _ _ _,vs,(hrow.keep fun b e hb => hT.block b hb (by omega)).mono fun b e _ => by omega,Reps.mono (fun b e _ => by have := e.1; omega) _ _ (Reps.keep (w := wr) (fun b e hb => hT.block b hb (by have := e.1; omega)) _ _ hG.reps)⟩
end Go.Proofs.Ytgadkiljnebicaa
