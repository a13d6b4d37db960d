/- Several texts in one. -/
import Derived.Test.YtgadkiljnebicaaD29
import Derived.Test.YtgadkiljnebicaaD11
import Derived.Deep.CutRange
namespace Go.Proofs.Ytgadkiljnebicaa
open Go.Lib (hid)
open Go.RowKit
set_option maxRecDepth 100000
structure Sq where
 k : Int
 f : I3 := I3.zero
 t : I3 := I3.zero
 r : I3 := I3.zero
 x : Tm := .mk {} []
 n : Int := 0
def id3 (t : Tm) : I3 := ⟨t.hd.node,t.hd.boot,t.hd.idn⟩
def Sq.put (s : Sq) (c : Fld) (p : Tm) : Sq :=
 match c with
 | .f => { s with f := id3 p }
 | .t => { s with t := id3 p }
 | .r => { s with r := id3 p }
 | .n => { s with n := p.hd.n }
 | .x => { s with x := p }
def Sq.puts (s : Sq) (z : List (Fld × Tm)) : Sq := z.foldl (fun s e => s.put e.1 e.2) s
def sqTo (k : Int) (rest : List Tm) (j : Nat) : Sq := Sq.puts { k := k } (((flds k).zip rest).take j)
theorem sqTo_succ {k : Int} {rest : List Tm} {j : Nat} (h1 : j < (flds k).length) (h2 : j < rest.length) : sqTo k rest (j + 1) = (sqTo k rest j).put (flds k)[j] rest[j] := by
 have hz : j < ((flds k).zip rest).length := by rw [List.length_zip]; omega
 unfold sqTo Sq.puts
 rw [List.take_succ_eq_append_getElem hz,List.foldl_append]
 simp [List.getElem_zip]
theorem put_k (s : Sq) (c : Fld) (p : Tm) : (s.put c p).k = s.k := by cases c <;> rfl
theorem sqTo_k (k : Int) (rest : List Tm) (j : Nat) : (sqTo k rest j).k = k := by
 unfold sqTo Sq.puts
 generalize ((flds k).zip rest).take j = z
 have : ∀ (z : List (Fld × Tm)) (s : Sq),(z.foldl (fun s e => s.put e.1 e.2) s).k = s.k := by
  intro z
  induction z with
  | nil => intro s; rfl
  | cons e z ih => intro s; rw [List.foldl_cons,ih,put_k]
 exact this z _
theorem puts_keep {α : Type} (g : Sq → α) (c : Fld) (hg : ∀ s d p,d ≠ c → g (s.put d p) = g s) : ∀ (z : List (Fld × Tm)) (s : Sq),(∀ e ∈ z,e.1 ≠ c) → g (z.foldl (fun s e => s.put e.1 e.2) s) = g s := by
 intro z
 induction z with
 | nil => intro s _; rfl
 | cons e z ih =>
  intro s h
  rw [List.foldl_cons,ih _ fun e he => h e (by simp [he]),hg _ _ _ (h e (by simp))]
theorem sqTo_keep {α : Type} (g : Sq → α) (c : Fld) (hg : ∀ s d p,d ≠ c → g (s.put d p) = g s) (k : Int) (rest : List Tm) (j : Nat) (hc : ∀ d ∈ (flds k).take j,d ≠ c) : g (sqTo k rest j) = g { k := k } := by
 refine puts_keep g c hg _ _ fun e he => ?_
 obtain ⟨i,hi,rfl⟩ := List.mem_iff_getElem.1 he
 rw [List.getElem_take,List.getElem_zip]
 rw [List.length_take,List.length_zip] at hi
 refine hc _ (List.mem_iff_getElem.2 ⟨i,by rw [List.length_take]; omega,?_⟩)
 rw [List.getElem_take]
theorem keep_f : ∀ (s : Sq) (d : Fld) (p : Tm),d ≠ .f → (s.put d p).f = s.f := by intro s d p h; cases d <;> first | rfl | exact absurd rfl h
theorem keep_t : ∀ (s : Sq) (d : Fld) (p : Tm),d ≠ .t → (s.put d p).t = s.t := by intro s d p h; cases d <;> first | rfl | exact absurd rfl h
theorem keep_r : ∀ (s : Sq) (d : Fld) (p : Tm),d ≠ .r → (s.put d p).r = s.r := by intro s d p h; cases d <;> first | rfl | exact absurd rfl h
theorem keep_n : ∀ (s : Sq) (d : Fld) (p : Tm),d ≠ .n → (s.put d p).n = s.n := by intro s d p h; cases d <;> first | rfl | exact absurd rfl h
theorem keep_x : ∀ (s : Sq) (d : Fld) (p : Tm),d ≠ .x → (s.put d p).x = s.x := by intro s d p h; cases d <;> first | rfl | exact absurd rfl h
def fldOf (e : Nat × Int) : Fld := if e.1 = 1 then .f else if e.1 = 4 then .t else .r
theorem flds_split (k : Int) (h1 : 1 ≤ k) (h2 : k ≤ 11) : flds k = ((hasK k).all.map fldOf ++ if hasN k = true then [.n] else []) ++ if hasX k = true then [.x] else [] := by
 rcases kind_cases h1 h2 with rfl | rfl | rfl | rfl | rfl | rfl | rfl | rfl | rfl | rfl | rfl <;> rfl
theorem flds_id {k : Int} (h1 : 1 ≤ k) (h2 : k ≤ 11) {j : Nat} (hj : j < (hasK k).all.length) : ∃ h : j < (flds k).length,(flds k)[j] = fldOf (hasK k).all[j] := by
 have e := flds_split k h1 h2
 have hl : j < (flds k).length := by rw [e]; simp; omega
 refine ⟨hl,?_⟩
 have h3 : (flds k)[j]? = some (fldOf (hasK k).all[j]) := by
  rw [e,List.getElem?_append_left (by simp; omega),List.getElem?_append_left (by simpa using hj)]
  simp [hj]
 rw [List.getElem?_eq_getElem hl] at h3
 exact Option.some.inj h3
theorem fits_iff {k : Int} : ∀ {cs : List Fld} {ts : List Tm},fitsB k cs ts = true ↔ cs.length = ts.length ∧ ∀ i (h1 : i < cs.length) (h2 : i < ts.length),fitB k cs[i] ts[i] = true
 | [],[] => by simp [fitsB]
 | [],_ :: _ => by simp [fitsB]
 | _ :: _,[] => by simp [fitsB]
 | c :: cs,t :: ts => by
  simp only [fitsB,Bool.and_eq_true,fits_iff (cs := cs) (ts := ts),List.length_cons]
  constructor
  ·rintro ⟨h1,h2,h3⟩
   refine ⟨by omega,fun i hi hj => ?_⟩
   cases i with
   | zero => exact h1
   | succ i => exact h3 i (by simpa using hi) (by simpa using hj)
  ·rintro ⟨h1,h2⟩
   exact ⟨h2 0 (by simp) (by simp),by omega,fun i hi hj => h2 (i + 1) (by simpa using hi) (by simpa using hj)⟩
theorem fits_short {k : Int} {cs : List Fld} {ts : List Tm} (h : ts.length < cs.length) : fitsB k cs ts = false := fits_of_length (by omega)
theorem fits_at {k : Int} {cs : List Fld} {ts : List Tm} {i : Nat} (h1 : i < cs.length) (h2 : i < ts.length) (h : fitB k cs[i] ts[i] = false) : fitsB k cs ts = false := by
 cases e : fitsB k cs ts
 ·rfl
 ·have := (fits_iff.1 e).2 i h1 h2
  rw [h] at this
  cases this
theorem good_id {r : Nat} {t : Tm} (h : GoodT r t) (hk : t.hd.kind = 4 ∨ t.hd.kind = 5) : (id3 t).ok = true := by
 cases r with
 | zero => exact h.elim
 | succ r =>
  obtain ⟨hd,l⟩ := t
  obtain ⟨h1,_⟩ := h
  have hk : hd.kind = 4 ∨ hd.kind = 5 := hk
  show idOk hd.node hd.boot hd.idn = true
  cases h1 with
  | id k node boot idn _ _ _ _ h => exact h
  | list k _ hk2 _ => rcases hk2 with rfl | rfl <;> simp at hk
  | int n h => exact absurd hk (by simp [Tm.hd])
  | cx p q _ _ h => exact absurd hk (by simp [Tm.hd])
  | atom s h => exact absurd hk (by simp [Tm.hd])
  | bytes b => exact absurd hk (by simp [Tm.hd])
def SgRep (w : World) (F : Nat → Prop) (s : Sq) (sc : Array Value) : Prop :=
 ∃ (a1 : Option Addr) (m1 c1 : Nat) (a2 : Option Addr) (m2 c2 : Nat),sc = sgC s.k s.f s.t s.r s.x.hd (.slice a1 m1 c1) (.slice a2 m2 c2) s.n ∧ Rep w F s.x (hdC s.x.hd (.slice a1 m1 c1) (.slice a2 m2 c2))
abbrev sgZ : Array Value := sgC 0 I3.zero I3.zero I3.zero {} nilV nilV 0
def Tm.behind (t : Tm) : List Tm := t.l.drop 1
def CtlPost (W : World) (r : Except Int Tm) (e : Ending) (w' : World) : Prop :=
 match r with
 | .ok t => ∃ sc k,e = .returned (.tuple #[.agg sc,.int .i64 0]) ∧ t.l[0]?.map (·.hd.n) = some k ∧ SgRep w' (fun b => W.heap.size ≤ b) (sqTo k t.behind t.behind.length) sc ∧ Below W.heap.size W w'
 | .error x => e = .returned (.tuple #[.agg sgZ,.int .i64 x]) ∧ Below W.heap.size W w'
end Go.Proofs.Ytgadkiljnebicaa
namespace Go.Proofs.Ytgadkiljnebicaa
open Go.Lib (hid)
open Go.RowKit
set_option maxRecDepth 100000
attribute [local go_sem] run_store_complex
abbrev set3 (w : World) (b o : Nat) (u v x : Value) : World := ((w.setCell ⟨b,o,none⟩ u).setCell ⟨b,o + 1,none⟩ v).setCell ⟨b,o + 2,none⟩ x
theorem set3_turn (w : World) (b o : Nat) (u v x : Value) : Turn (fun i => i = b) w (set3 w b o u v x) := ((Turn.setCell w b o u).trans (Turn.setCell _ b (o + 1) v)).trans (Turn.setCell _ b (o + 2) x)
theorem set3_at {w : World} {b o : Nat} {u v x : Value} {cs cs' : Array Value} {t : TypeId} {fr : Nat × Nat} (h : w.heap[b]? = some (.cells cs t fr)) (hc : ((cs.setIfInBounds o u).setIfInBounds (o + 1) v).setIfInBounds (o + 2) x = cs') : (set3 w b o u v x).heap[b]? = some (.cells cs' t fr) := by
 subst hc
 exact heap_setCell_at (heap_setCell_at (heap_setCell_at h))
abbrev set9o (w : World) (b o : Nat) (d0 d1 d2 d3 d4 d5 d6 d7 d8 : Value) : World := (((((((((w.setCell ⟨b,o,none⟩ d0).setCell ⟨b,o + 1,none⟩ d1).setCell ⟨b,o + 2,none⟩ d2).setCell ⟨b,o + 3,none⟩ d3).setCell ⟨b,o + 4,none⟩ d4).setCell ⟨b,o + 5,none⟩ d5).setCell ⟨b,o + 6,none⟩ d6).setCell ⟨b,o + 7,none⟩ d7).setCell ⟨b,o + 8,none⟩ d8)
theorem set9o_turn (w : World) (b o : Nat) (d0 d1 d2 d3 d4 d5 d6 d7 d8 : Value) : Turn (fun i => i = b) w (set9o w b o d0 d1 d2 d3 d4 d5 d6 d7 d8) := (((((((((Turn.setCell w b o d0).trans (Turn.setCell _ b (o + 1) d1)).trans (Turn.setCell _ b (o + 2) d2)).trans (Turn.setCell _ b (o + 3) d3)).trans (Turn.setCell _ b (o + 4) d4)).trans (Turn.setCell _ b (o + 5) d5)).trans (Turn.setCell _ b (o + 6) d6)).trans (Turn.setCell _ b (o + 7) d7)).trans (Turn.setCell _ b (o + 8) d8))
theorem set9o_at {w : World} {b o : Nat} {d0 d1 d2 d3 d4 d5 d6 d7 d8 : Value} {cs cs' : Array Value} {t : TypeId} {fr : Nat × Nat} (h : w.heap[b]? = some (.cells cs t fr)) (hc : (((((((((cs.setIfInBounds o d0).setIfInBounds (o + 1) d1).setIfInBounds (o + 2) d2).setIfInBounds (o + 3) d3).setIfInBounds (o + 4) d4).setIfInBounds (o + 5) d5).setIfInBounds (o + 6) d6).setIfInBounds (o + 7) d7).setIfInBounds (o + 8) d8) = cs') : (set9o w b o d0 d1 d2 d3 d4 d5 d6 d7 d8).heap[b]? = some (.cells cs' t fr) := by
 subst hc
 exact (heap_setCell_at (heap_setCell_at (heap_setCell_at (heap_setCell_at (heap_setCell_at (heap_setCell_at (heap_setCell_at (heap_setCell_at (heap_setCell_at h)))))))))
theorem good_len {r : Nat} {t : Tm} (h : GoodT r t) : t.l.length ≤ 1000000 := by
 cases r with
 | zero => exact h.elim
 | succ r =>
  obtain ⟨hd,l⟩ := t
  have := (hd_nums h.1).2.2
  show l.length ≤ _
  omega
theorem sg_set9 (k : Int) (f t r : I3) (h : Hd) (bv lv : Value) (n : Int) : ((((((((((sgC k f t r h bv lv n).setIfInBounds 10 (.int .i64 0)).setIfInBounds (10 + 1) (.int .i64 0)).setIfInBounds (10 + 2) (.complex .f64 0 0)).setIfInBounds (10 + 3) (.string ⟨#[]⟩)).setIfInBounds (10 + 4) (.int .i64 0)).setIfInBounds (10 + 5) (.int .u32 0)).setIfInBounds (10 + 6) (.int .u64 0)).setIfInBounds (10 + 7) nilV).setIfInBounds (10 + 8) nilV) = sgC k f t r {} nilV nilV n := by
 simp
theorem sg_set19 (k : Int) (f t r : I3) (h : Hd) (bv lv : Value) (n : Int) : (sgC k f t r h bv lv n).setIfInBounds 19 (.int .u64 0) = sgC k f t r h bv lv 0 := by
 simp
structure WhAt (B L R : Nat) (rc : Array Value) (a : Option Addr) (c : Nat) (parts : List Tm) (vs : List (Array Value)) (w0 wr : World) : Prop where
 rb : wr.heap[R]? = some (.cells rc 33 (0,0))
 row : wr.ownsRow L 31 9 (.slice a parts.length c) parts.length (cat vs)
 far : ∀ b,(Value.slice a parts.length c).ownBlock = some b → b < R ∨ w0.heap.size ≤ b
 reps : Reps wr (fun b => b < B) parts vs
 turn : Turn (fun i => L ≤ i ∧ i ≤ R) w0 wr
 bl : B ≤ L
 lr : L < R
 r0 : R < w0.heap.size
theorem WhAt.size {B L R : Nat} {rc : Array Value} {a : Option Addr} {c : Nat} {parts : List Tm} {vs : List (Array Value)} {w0 wr : World} (h : WhAt B L R rc a c parts vs w0 wr) : w0.heap.size ≤ wr.heap.size := h.turn.size
theorem WhAt.keep {B L R : Nat} {rc rc' : Array Value} {a : Option Addr} {c : Nat} {parts : List Tm} {vs : List (Array Value)} {w0 wr w' : World} (h : WhAt B L R rc a c parts vs w0 wr) (hT : Turn (fun i => i = R) wr w') (hr : w'.heap[R]? = some (.cells rc' 33 (0,0))) : WhAt B L R rc' a c parts vs w0 w' := by
 have := h.bl; have := h.lr; have := h.r0; have := h.size
 exact ⟨hr,row_same h.row fun b e hb => hT.block b hb fun k => by have := h.far b e; omega,h.far,Reps.keep (fun b e hb => hT.block b hb fun k => by omega) _ _ h.reps,h.turn.trans (hT.mono fun i _ e => by subst e; exact ⟨by omega,Nat.le_refl _⟩),h.bl,h.lr,h.r0⟩
theorem WhAt.call {B L R : Nat} {rc : Array Value} {a : Option Addr} {c : Nat} {parts : List Tm} {vs : List (Array Value)} {w0 wr w' : World} (h : WhAt B L R rc a c parts vs w0 wr) (hb : Below wr.heap.size wr w') : WhAt B L R rc a c parts vs w0 w' :=
 h.keep (Turn.of_below hb) ((hb.block R (blk_lt h.rb)).trans h.rb)
theorem WhAt.alloc {B L R : Nat} {rc : Array Value} {a : Option Addr} {c : Nat} {parts : List Tm} {vs : List (Array Value)} {w0 wr : World} (h : WhAt B L R rc a c parts vs w0 wr) (o : Obj) : WhAt B L R rc a c parts vs w0 (wr.alloc o) := h.call ((Below.refl _ _).alloc (Nat.le_refl _) o)
theorem WhAt.set {B L R o : Nat} {rc rc' : Array Value} {a : Option Addr} {c : Nat} {parts : List Tm} {vs : List (Array Value)} {w0 wr : World} {u v x : Value} (h : WhAt B L R rc a c parts vs w0 wr) (hc : ((rc.setIfInBounds o u).setIfInBounds (o + 1) v).setIfInBounds (o + 2) x = rc') : WhAt B L R rc' a c parts vs w0 (set3 wr R o u v x) :=
 h.keep (set3_turn wr R o u v x) (set3_at h.rb hc)
theorem WhAt.next {B L R : Nat} {rc : Array Value} {a a8 : Option Addr} {c c8 : Nat} {parts : List Tm} {vs : List (Array Value)} {w0 wr w8 : World} {o : Obj} {t : Tm} {cs : Array Value} (h : WhAt B L R rc a c parts vs w0 wr) (hrep : Rep wr (fun b => b < B) t cs)
  (hg : (wr.alloc o).grownBy w8 (Value.slice a parts.length c).ownBlock) (ho8 : w8.ownsRow L 31 9 (.slice a8 (parts.length + 1) c8) (parts.length + 1) (cat vs ++ cs.toList))
  (hl : (Value.slice a8 (parts.length + 1) c8).ownBlock = (Value.slice a parts.length c).ownBlock ∨ (Value.slice a8 (parts.length + 1) c8).ownBlock = some (wr.alloc o).heap.size) :
  WhAt B L R rc a8 c8 (parts ++ [t]) (vs ++ [cs]) w0 w8 := by
 have hb1 := h.bl; have hb2 := h.lr; have hb3 := h.r0; have hb4 := h.size
 obtain ⟨k1,k2,k3⟩ := app_keep h.row hg
 have hL : (parts ++ [t]).length = parts.length + 1 := by simp
 have hf : ∀ b,(Value.slice a8 (parts.length + 1) c8).ownBlock = some b → b < R ∨ w0.heap.size ≤ b := by
  intro b e
  rcases hl with hl | hl
  ·exact h.far b (hl.symm.trans e)
  ·rw [hl] at e
   cases e
   right
   simp; omega
 refine ⟨(k3.block R (blk_lt h.rb) fun e => by have := h.far R e; omega).trans h.rb,by rw [hL,cat_snoc]; exact ho8,by rw [hL]; exact hf,Reps.snoc (Rep.keep (fun b e hb => k1 b (by omega) hb) _ _ hrep) (Reps.keep (fun b e hb => k1 b (by omega) hb) _ _ h.reps),?_,h.bl,h.lr,h.r0⟩
 refine h.turn.andThen k3 fun i e => ?_
 have h1 := (h.row.lt i e).1
 rcases h.far i e with h2 | h2
 ·exact .inl ⟨h1,Nat.le_of_lt h2⟩
 ·exact .inr h2
theorem WhAt.old {B L R : Nat} {rc : Array Value} {a : Option Addr} {c : Nat} {parts : List Tm} {vs : List (Array Value)} {w0 wr : World} (h : WhAt B L R rc a c parts vs w0 wr) {b : Nat} (hb : b < L) : wr.heap[b]? = w0.heap[b]? :=
 h.turn.block b (by have := h.lr; have := h.r0; omega) fun e => by omega
theorem WhAt.below {B L R : Nat} {rc : Array Value} {a : Option Addr} {c : Nat} {parts : List Tm} {vs : List (Array Value)} {w w0 wr : World} (h : WhAt B L R rc a c parts vs w0 wr) (hw : Below B w w0) : Below B w wr :=
 hw.trans (h.turn.below (by have := h.bl; have := h.lr; have := h.r0; omega) fun i e => by have := h.bl; omega)
theorem WhAt.drew {B L R : Nat} {rc : Array Value} {a : Option Addr} {c : Nat} {parts : List Tm} {vs : List (Array Value)} {w0 wr : World} (h : WhAt B L R rc a c parts vs w0 wr) : WhAt B L R rc a c parts vs w0 wr.drew := h.keep (Turn.refl _ _).drew h.rb
theorem WhAt.end' {B L R D : Nat} {rc : Array Value} {a : Option Addr} {c : Nat} {parts : List Tm} {vs : List (Array Value)} {w w0 wr : World} {old cs : Array Value} (h : WhAt B L R rc a c parts vs w0 wr) (hw : Below B w w0) (hD : B ≤ D) (hy : wr.heap[D]? = some (.cells old 31 (0,0))) :
  (wr.setRow D cs).heap[D]? = some (.cells cs 31 (0,0)) ∧ Below B w (wr.setRow D cs) :=
 ⟨setRow_heap wr D old cs _ _ hy,(h.below hw).trans ((setRow_turn wr D cs).below (Nat.le_trans hD (Nat.le_of_lt (blk_lt hy))) fun i e => by omega)⟩
theorem WhAt.set9 {B L R o : Nat} {rc rc' : Array Value} {a : Option Addr} {c : Nat} {parts : List Tm} {vs : List (Array Value)} {w0 wr : World} {d0 d1 d2 d3 d4 d5 d6 d7 d8 : Value} (h : WhAt B L R rc a c parts vs w0 wr) (hc : (((((((((rc.setIfInBounds o d0).setIfInBounds (o + 1) d1).setIfInBounds (o + 2) d2).setIfInBounds (o + 3) d3).setIfInBounds (o + 4) d4).setIfInBounds (o + 5) d5).setIfInBounds (o + 6) d6).setIfInBounds (o + 7) d7).setIfInBounds (o + 8) d8) = rc') : WhAt B L R rc' a c parts vs w0 (set9o wr R o d0 d1 d2 d3 d4 d5 d6 d7 d8) :=
 h.keep (set9o_turn wr R o d0 d1 d2 d3 d4 d5 d6 d7 d8) (set9o_at h.rb hc)
theorem WhAt.set1 {B L R o : Nat} {rc rc' : Array Value} {a : Option Addr} {c : Nat} {parts : List Tm} {vs : List (Array Value)} {w0 wr : World} {u : Value} (h : WhAt B L R rc a c parts vs w0 wr) (hc : rc.setIfInBounds o u = rc') : WhAt B L R rc' a c parts vs w0 (wr.setCell ⟨R,o,none⟩ u) :=
 h.keep (Turn.setCell wr R o u) (by subst hc; exact heap_setCell_at h.rb)
theorem rep_empty {w : World} {F : Nat → Prop} {c : Array Value} (h : Rep w F (.mk {} []) c) : c = zC := by
 obtain ⟨bv,lv,rfl,hb,vs,hl,_⟩ := h
 rw [hb.2.2 rfl,hl.2.2 rfl]
theorem rep_id (w : World) (F : Nat → Prop) (k : Int) (x : I3) : Rep w F (idT k x) #[.int .i64 k,.int .i64 0,.complex .f64 0 0,.string ⟨#[]⟩,.int .i64 x.a,.int .u32 x.b,.int .u64 x.c,nilV,nilV] := Rep.leaf (h := { kind := k,node := x.a,boot := x.b,idn := x.c }) rfl
theorem rep_int (w : World) (F : Nat → Prop) (n : Int) : Rep w F (intT n) #[.int .i64 1,.int .i64 n,.complex .f64 0 0,.string ⟨#[]⟩,.int .i64 0,.int .u32 0,.int .u64 0,nilV,nilV] := Rep.leaf (h := { kind := 1,n := n }) rfl
abbrev restC (k : Int) (f t r : I3) (h : Hd) (bv lv : Value) (n : Int) (l : List (Nat × Int)) : Array Value := sgC k (zz l 1 f) (zz l 4 t) (zz l 7 r) h bv lv n
structure WhL (B L R : Nat) (k : Int) (f t r : I3) (h : Hd) (bv lv : Value) (n : Int) (j : Nat) (a : Option Addr) (c : Nat) (vs : List (Array Value)) (w0 wr : World) : Prop where
 at' : WhAt B L R (restC k f t r h bv lv n ((hasK k).all.take j)) a c (intT k :: idTms f t r ((hasK k).all.take j)) vs w0 wr
 ok : ∀ e ∈ (hasK k).all.take j,(idAt f t r e.1).ok = true
theorem sg_cells {w : World} {b : Nat} {fr : Nat × Nat} {ty : TypeId} {k : Int} {f t r : I3} {h : Hd} {bv lv : Value} {n : Int} (e : w.heap[b]? = some (.cells (sgC k f t r h bv lv n) ty fr)) : w.cell? ⟨b,0,none⟩ = some (.int .i64 k) ∧ w.cell? ⟨b,1,none⟩ = some (.int .i64 f.a) ∧ w.cell? ⟨b,2,none⟩ = some (.int .u32 f.b) ∧ w.cell? ⟨b,3,none⟩ = some (.int .u64 f.c) ∧ w.cell? ⟨b,4,none⟩ = some (.int .i64 t.a) ∧ w.cell? ⟨b,5,none⟩ = some (.int .u32 t.b) ∧ w.cell? ⟨b,6,none⟩ = some (.int .u64 t.c) ∧ w.cell? ⟨b,7,none⟩ = some (.int .i64 r.a) ∧ w.cell? ⟨b,8,none⟩ = some (.int .u32 r.b) ∧ w.cell? ⟨b,9,none⟩ = some (.int .u64 r.c) ∧ w.cell? ⟨b,10,none⟩ = some (.int .i64 h.kind) ∧ w.cell? ⟨b,11,none⟩ = some (.int .i64 h.n) ∧ w.cell? ⟨b,12,none⟩ = some (.complex .f64 h.re h.im) ∧ w.cell? ⟨b,13,none⟩ = some (.string h.s) ∧ w.cell? ⟨b,14,none⟩ = some (.int .i64 h.node) ∧ w.cell? ⟨b,15,none⟩ = some (.int .u32 h.boot) ∧ w.cell? ⟨b,16,none⟩ = some (.int .u64 h.idn) ∧ w.cell? ⟨b,17,none⟩ = some bv ∧ w.cell? ⟨b,18,none⟩ = some lv ∧ w.cell? ⟨b,19,none⟩ = some (.int .u64 n) := by
 refine ⟨?_,?_,?_,?_,?_,?_,?_,?_,?_,?_,?_,?_,?_,?_,?_,?_,?_,?_,?_,?_⟩ <;> simp [World.cell?,e]
theorem fz_of {w : World} {b : Nat} {cs : Array Value} {ty : TypeId} (e : w.heap[b]? = some (.cells cs ty (0,0))) (o : Nat) : w.frozen? ⟨b,o,none⟩ = false := by simp [World.frozen?,e]
theorem WhL.next1 {B L R : Nat} {k : Int} {f t r : I3} {h : Hd} {bv lv : Value} {n : Int} {j : Nat} {a : Option Addr} {c : Nat} {vs : List (Array Value)} {w0 wr w8 : World} {ob : Obj} {a8 : Option Addr} {c8 : Nat} (hL : WhL B L R k f t r h bv lv n j a c vs w0 w8) (hA : WhAt B L R (restC k f t r h bv lv n ((hasK k).all.take j)) a c (intT k :: idTms f t r ((hasK k).all.take j)) vs w0 wr)
  (hk : (hasK k).all.take (j + 1) = (hasK k).all.take j ++ [(1,5)]) (hok : f.ok = true) {wf : World}
  (hg : (wr.alloc ob).grownBy wf (Value.slice a (intT k :: idTms f t r ((hasK k).all.take j)).length c).ownBlock) (ho : wf.ownsRow L 31 9 (.slice a8 ((intT k :: idTms f t r ((hasK k).all.take j)).length + 1) c8) ((intT k :: idTms f t r ((hasK k).all.take j)).length + 1) (cat vs ++ (#[.int .i64 5,.int .i64 0,.complex .f64 0 0,.string ⟨#[]⟩,.int .i64 f.a,.int .u32 f.b,.int .u64 f.c,nilV,nilV] : Array Value).toList))
  (hl : (Value.slice a8 ((intT k :: idTms f t r ((hasK k).all.take j)).length + 1) c8).ownBlock = (Value.slice a (intT k :: idTms f t r ((hasK k).all.take j)).length c).ownBlock ∨ (Value.slice a8 ((intT k :: idTms f t r ((hasK k).all.take j)).length + 1) c8).ownBlock = some (wr.alloc ob).heap.size) :
  WhAt B L R (restC k f t r h bv lv n ((hasK k).all.take j)) a8 c8 (intT k :: idTms f t r ((hasK k).all.take (j + 1))) (vs ++ [#[.int .i64 5,.int .i64 0,.complex .f64 0 0,.string ⟨#[]⟩,.int .i64 f.a,.int .u32 f.b,.int .u64 f.c,nilV,nilV]]) w0 wf ∧
  WhL B L R k f t r h bv lv n (j + 1) a8 c8 (vs ++ [#[.int .i64 5,.int .i64 0,.complex .f64 0 0,.string ⟨#[]⟩,.int .i64 f.a,.int .u32 f.b,.int .u64 f.c,nilV,nilV]]) w0 (set3 wf R 1 (.int .i64 0) (.int .u32 0) (.int .u64 0)) ∧ (intT k :: idTms f t r ((hasK k).all.take j)).length + 1 = (intT k :: idTms f t r ((hasK k).all.take (j + 1))).length := by
 have h1 := hA.next (rep_id wr _ 5 f) hg ho hl
 have e1 : intT k :: idTms f t r ((hasK k).all.take j) ++ [idT 5 f] = intT k :: idTms f t r ((hasK k).all.take (j + 1)) := by
  rw [hk,idTms_app]
  rfl
 rw [e1] at h1
 refine ⟨h1,⟨?_,?_⟩,by rw [← e1]; simp⟩
 ·refine h1.set (o := 1) ?_
  rw [hk]
  unfold restC
  rw [zz_out,zz_keep _ (by decide),zz_keep _ (by decide)]
  rfl
 ·intro e he
  rw [hk,List.mem_append] at he
  rcases he with he | he
  ·exact hL.ok e he
  ·rw [List.mem_singleton.1 he]
   exact hok
theorem WhL.next4 {B L R : Nat} {k : Int} {f t r : I3} {h : Hd} {bv lv : Value} {n : Int} {j : Nat} {a : Option Addr} {c : Nat} {vs : List (Array Value)} {w0 wr w8 : World} {ob : Obj} {a8 : Option Addr} {c8 : Nat} (hL : WhL B L R k f t r h bv lv n j a c vs w0 w8) (hA : WhAt B L R (restC k f t r h bv lv n ((hasK k).all.take j)) a c (intT k :: idTms f t r ((hasK k).all.take j)) vs w0 wr)
  (hk : (hasK k).all.take (j + 1) = (hasK k).all.take j ++ [(4,5)]) (hok : t.ok = true) {wf : World}
  (hg : (wr.alloc ob).grownBy wf (Value.slice a (intT k :: idTms f t r ((hasK k).all.take j)).length c).ownBlock) (ho : wf.ownsRow L 31 9 (.slice a8 ((intT k :: idTms f t r ((hasK k).all.take j)).length + 1) c8) ((intT k :: idTms f t r ((hasK k).all.take j)).length + 1) (cat vs ++ (#[.int .i64 5,.int .i64 0,.complex .f64 0 0,.string ⟨#[]⟩,.int .i64 t.a,.int .u32 t.b,.int .u64 t.c,nilV,nilV] : Array Value).toList))
  (hl : (Value.slice a8 ((intT k :: idTms f t r ((hasK k).all.take j)).length + 1) c8).ownBlock = (Value.slice a (intT k :: idTms f t r ((hasK k).all.take j)).length c).ownBlock ∨ (Value.slice a8 ((intT k :: idTms f t r ((hasK k).all.take j)).length + 1) c8).ownBlock = some (wr.alloc ob).heap.size) :
  WhAt B L R (restC k f t r h bv lv n ((hasK k).all.take j)) a8 c8 (intT k :: idTms f t r ((hasK k).all.take (j + 1))) (vs ++ [#[.int .i64 5,.int .i64 0,.complex .f64 0 0,.string ⟨#[]⟩,.int .i64 t.a,.int .u32 t.b,.int .u64 t.c,nilV,nilV]]) w0 wf ∧
  WhL B L R k f t r h bv lv n (j + 1) a8 c8 (vs ++ [#[.int .i64 5,.int .i64 0,.complex .f64 0 0,.string ⟨#[]⟩,.int .i64 t.a,.int .u32 t.b,.int .u64 t.c,nilV,nilV]]) w0 (set3 wf R 4 (.int .i64 0) (.int .u32 0) (.int .u64 0)) ∧ (intT k :: idTms f t r ((hasK k).all.take j)).length + 1 = (intT k :: idTms f t r ((hasK k).all.take (j + 1))).length := by
 have h1 := hA.next (rep_id wr _ 5 t) hg ho hl
 have e1 : intT k :: idTms f t r ((hasK k).all.take j) ++ [idT 5 t] = intT k :: idTms f t r ((hasK k).all.take (j + 1)) := by
  rw [hk,idTms_app]
  rfl
 rw [e1] at h1
 refine ⟨h1,⟨?_,?_⟩,by rw [← e1]; simp⟩
 ·refine h1.set (o := 4) ?_
  rw [hk]
  unfold restC
  rw [zz_out,zz_keep _ (by decide),zz_keep _ (by decide)]
  rfl
 ·intro e he
  rw [hk,List.mem_append] at he
  rcases he with he | he
  ·exact hL.ok e he
  ·rw [List.mem_singleton.1 he]
   exact hok
theorem WhL.next7 {B L R : Nat} {k : Int} {f t r : I3} {h : Hd} {bv lv : Value} {n : Int} {j : Nat} {a : Option Addr} {c : Nat} {vs : List (Array Value)} {w0 wr w8 : World} {ob : Obj} {a8 : Option Addr} {c8 : Nat} (hL : WhL B L R k f t r h bv lv n j a c vs w0 w8) (hA : WhAt B L R (restC k f t r h bv lv n ((hasK k).all.take j)) a c (intT k :: idTms f t r ((hasK k).all.take j)) vs w0 wr)
  (hk : (hasK k).all.take (j + 1) = (hasK k).all.take j ++ [(7,4)]) (hok : r.ok = true) {wf : World}
  (hg : (wr.alloc ob).grownBy wf (Value.slice a (intT k :: idTms f t r ((hasK k).all.take j)).length c).ownBlock) (ho : wf.ownsRow L 31 9 (.slice a8 ((intT k :: idTms f t r ((hasK k).all.take j)).length + 1) c8) ((intT k :: idTms f t r ((hasK k).all.take j)).length + 1) (cat vs ++ (#[.int .i64 4,.int .i64 0,.complex .f64 0 0,.string ⟨#[]⟩,.int .i64 r.a,.int .u32 r.b,.int .u64 r.c,nilV,nilV] : Array Value).toList))
  (hl : (Value.slice a8 ((intT k :: idTms f t r ((hasK k).all.take j)).length + 1) c8).ownBlock = (Value.slice a (intT k :: idTms f t r ((hasK k).all.take j)).length c).ownBlock ∨ (Value.slice a8 ((intT k :: idTms f t r ((hasK k).all.take j)).length + 1) c8).ownBlock = some (wr.alloc ob).heap.size) :
  WhAt B L R (restC k f t r h bv lv n ((hasK k).all.take j)) a8 c8 (intT k :: idTms f t r ((hasK k).all.take (j + 1))) (vs ++ [#[.int .i64 4,.int .i64 0,.complex .f64 0 0,.string ⟨#[]⟩,.int .i64 r.a,.int .u32 r.b,.int .u64 r.c,nilV,nilV]]) w0 wf ∧
  WhL B L R k f t r h bv lv n (j + 1) a8 c8 (vs ++ [#[.int .i64 4,.int .i64 0,.complex .f64 0 0,.string ⟨#[]⟩,.int .i64 r.a,.int .u32 r.b,.int .u64 r.c,nilV,nilV]]) w0 (set3 wf R 7 (.int .i64 0) (.int .u32 0) (.int .u64 0)) ∧ (intT k :: idTms f t r ((hasK k).all.take j)).length + 1 = (intT k :: idTms f t r ((hasK k).all.take (j + 1))).length := by
 have h1 := hA.next (rep_id wr _ 4 r) hg ho hl
 have e1 : intT k :: idTms f t r ((hasK k).all.take j) ++ [idT 4 r] = intT k :: idTms f t r ((hasK k).all.take (j + 1)) := by
  rw [hk,idTms_app]
  rfl
 rw [e1] at h1
 refine ⟨h1,⟨?_,?_⟩,by rw [← e1]; simp⟩
 ·refine h1.set (o := 7) ?_
  rw [hk]
  unfold restC
  rw [zz_out,zz_keep _ (by decide),zz_keep _ (by decide)]
  rfl
 ·intro e he
  rw [hk,List.mem_append] at he
  rcases he with he | he
  ·exact hL.ok e he
  ·rw [List.mem_singleton.1 he]
   exact hok
end Go.Proofs.Ytgadkiljnebicaa
