/- Several texts in one. -/
import Derived.Test.YtgadkiljnebicaaD46
import Derived.Test.YtgadkiljnebicaaD25
import Derived.Deep.CutRange
set_option linter.unusedVariables false
set_option linter.unusedSimpArgs false
namespace Go.Proofs.Ytgadkiljnebicaa
open Go.Lib (hid)
open Go.RowKit
set_option maxRecDepth 100000
attribute [local go_sem] run_store_complex
theorem SgRep.keep {w w' : World} {F : Nat → Prop} {s : Sq} {sc : Array Value} (h : SgRep w F s sc) (hs : ∀ b,F b → b < w.heap.size → w'.heap[b]? = w.heap[b]?) : SgRep w' F s sc := by
 obtain ⟨a1,m1,c1,a2,m2,c2,e,hr⟩ := h
 exact ⟨a1,m1,c1,a2,m2,c2,e,Rep.keep hs _ _ hr⟩
set_option maxHeartbeats 2000000 in
theorem same22 (s : Sq) (hx : s.x = .mk {} [] ∨ (GoodT 24 s.x ∧ sizeT s.x ≤ 4096)) (F1 F2 : Nat → Prop) (sc1 sc2 : Array Value) (w : World) (h1 : SgRep w F1 s sc1) (h2 : SgRep w F2 s sc2) (hF1 : ∀ b,F1 b → b < w.heap.size) (hF2 : ∀ b,F2 b → b < w.heap.size) :
  Calls Try.prog 19 #[.agg sc1,.agg sc2] w (RB w (.bool true)) := by
 obtain ⟨a1,m1,c1,a2,m2,c2,rfl,hr1⟩ := h1
 obtain ⟨b1,p1,d1,b2,p2,d2,rfl,hr2⟩ := h2
 obtain ⟨k,f,t,r,x,n⟩ := s
 simp only at *
 have hB0 := (((Below.refl w.heap.size w).alloc (Nat.le_refl _) (.cells (sgC k f t r x.hd (.slice a1 m1 c1) (.slice a2 m2 c2) n) 33)).alloc (by simp) (.cells (sgC k f t r x.hd (.slice b1 p1 d1) (.slice b2 p2 d2) n) 33))
 have HB := hid hB0
 have HX := hid (show ((w.alloc (.cells (sgC k f t r x.hd (.slice a1 m1 c1) (.slice a2 m2 c2) n) 33)).alloc (.cells (sgC k f t r x.hd (.slice b1 p1 d1) (.slice b2 p2 d2) n) 33)).heap[w.heap.size]? = some (.cells (sgC k f t r x.hd (.slice a1 m1 c1) (.slice a2 m2 c2) n) 33 (0,0)) from (Below.heap_alloc _ _ _ (by simp)).trans (heap_new w _))
 have HY := hid (show ((w.alloc (.cells (sgC k f t r x.hd (.slice a1 m1 c1) (.slice a2 m2 c2) n) 33)).alloc (.cells (sgC k f t r x.hd (.slice b1 p1 d1) (.slice b2 p2 d2) n) 33)).heap[w.heap.size + 1]? = some (.cells (sgC k f t r x.hd (.slice b1 p1 d1) (.slice b2 p2 d2) n) 33 (0,0)) from heap_new_at (by simp))
 have HR1 := hid (Rep.keep (fun b _ hb => hB0.block b hb) _ _ hr1)
 have HR2 := hid (Rep.keep (fun b _ hb => hB0.block b hb) _ _ hr2)
 have HF1 := hid (fun b e => Nat.lt_of_lt_of_le (hF1 b e) hB0.size)
 have HF2 := hid (fun b e => Nat.lt_of_lt_of_le (hF2 b e) hB0.size)
 have HXx := hid hx
 clear hB0 hr1 hr2 hF1 hF2 hx
 go_enter Try.func19,Try.ntmps19
 go_upto_region 1 with fail
 obtain ⟨B,hB⟩ : ∃ b,w.heap.size = b := ⟨_,rfl⟩
 rw [hB] at HX HY HB ⊢
 have HN := hid hB
 clear hB
 generalize ((w.alloc (.cells (sgC k f t r x.hd (.slice a1 m1 c1) (.slice a2 m2 c2) n) 33)).alloc (.cells (sgC k f t r x.hd (.slice b1 p1 d1) (.slice b2 p2 d2) n) 33)) = w2 at *
 obtain ⟨k0,k1,k2,k3,k4,k5,k6,k7,k8,k9,k10,k11,k12,k13,k14,k15,k16,k17,k18,k19⟩ := sg_cells HX.out
 obtain ⟨l0,l1,l2,l3,l4,l5,l6,l7,l8,l9,l10,l11,l12,l13,l14,l15,l16,l17,l18,l19⟩ := sg_cells HY.out
 by_cases h0 : x.hd.kind = 0
 ·have g0 : (x.hd.kind == 0) = true := by rw [h0]; rfl
  go_wp2_with fail
  go_ret
  exact ⟨rfl,HN.out ▸ HB.out⟩
 ·have g0 : (x.hd.kind == 0) = false := beq_eq_false_iff_ne.2 h0
  have hg : GoodT 24 x ∧ sizeT x ≤ 4096 := by
   rcases HXx.out with e | e
   ·rw [e] at h0
    exact absurd rfl h0
   ·exact e
  have hfl := flat_fin 24 _ hg.1
  have HS := hid (same_any x (fun y hy => ⟨(hfl y hy).1,by have := (hfl y hy).2; have := hg.2; omega⟩) (by have := flatT_le x; have := hg.2; omega) F1 F2 _ _ w2 HR1.out HR2.out HF1.out HF2.out)
  clear hfl hg h0
  go_wp2_with fail
  refine HS.out.mono ?_
  rintro e w3 ⟨rfl,hb⟩
  have HB3 := hid (HB.out.trans (hb.mono (by have := blk_lt HX.out; omega)))
  clear hb
  go_wp2_with fail
  go_ret
  exact ⟨rfl,HN.out ▸ HB3.out⟩
set_option maxHeartbeats 2000000 in
theorem same23 (s : Sq) (hx : s.x = .mk {} [] ∨ (GoodT 24 s.x ∧ sizeT s.x ≤ 4096)) (F1 F2 : Nat → Prop) (sc1 sc2 : Array Value) (w : World) (h1 : SgRep w F1 s sc1) (h2 : SgRep w F2 s sc2) (hF1 : ∀ b,F1 b → b < w.heap.size) (hF2 : ∀ b,F2 b → b < w.heap.size) :
  Calls Try.prog 7 #[.agg sc1,.agg sc2] w (RB w (.bool true)) := by
 have hB0 := (((Below.refl w.heap.size w).alloc (Nat.le_refl _) (.cells sc1 33)).alloc (by simp) (.cells sc2 33))
 have HS := hid (same22 s hx F1 F2 sc1 sc2 _ (h1.keep (w' := (w.alloc (.cells sc1 33)).alloc (.cells sc2 33)) fun b _ hb => hB0.block b hb) (h2.keep fun b _ hb => hB0.block b hb) (fun b e => Nat.lt_of_lt_of_le (hF1 b e) hB0.size) (fun b e => Nat.lt_of_lt_of_le (hF2 b e) hB0.size))
 have HB := hid hB0
 obtain ⟨a1,m1,c1,a2,m2,c2,rfl,_⟩ := h1
 obtain ⟨b1,p1,d1,b2,p2,d2,rfl,_⟩ := h2
 obtain ⟨k,f,t,r,x,n⟩ := s
 simp only at *
 have HX := hid (show ((w.alloc (.cells (sgC k f t r x.hd (.slice a1 m1 c1) (.slice a2 m2 c2) n) 33)).alloc (.cells (sgC k f t r x.hd (.slice b1 p1 d1) (.slice b2 p2 d2) n) 33)).heap[w.heap.size]? = some (.cells (sgC k f t r x.hd (.slice a1 m1 c1) (.slice a2 m2 c2) n) 33 (0,0)) from (Below.heap_alloc _ _ _ (by simp)).trans (heap_new w _))
 have HY := hid (show ((w.alloc (.cells (sgC k f t r x.hd (.slice a1 m1 c1) (.slice a2 m2 c2) n) 33)).alloc (.cells (sgC k f t r x.hd (.slice b1 p1 d1) (.slice b2 p2 d2) n) 33)).heap[w.heap.size + 1]? = some (.cells (sgC k f t r x.hd (.slice b1 p1 d1) (.slice b2 p2 d2) n) 33 (0,0)) from heap_new_at (by simp))
 clear hB0 hF1 hF2 hx
 go_enter Try.func7,Try.ntmps7
 go_upto_region 1 with fail
 first | apply wp_region_lit | (apply wp_seq_k; intro _ _; apply wp_region_lit)
 refine wpList_load_row rfl 33 (.tmp 2) rfl w.heap.size rfl 33 (sgC k f t r x.hd (.slice a1 m1 c1) (.slice a2 m2 c2) n) (0,0) _ HX.out Try.underlying33 rfl infoSg ?_
 refine wpList_load_row rfl 33 (.tmp 3) rfl (w.heap.size + 1) rfl 33 (sgC k f t r x.hd (.slice b1 p1 d1) (.slice b2 p2 d2) n) (0,0) _ HY.out Try.underlying33 rfl infoSg ?_
 go_wp2_with fail
 refine HS.out.mono ?_
 rintro e w3 ⟨rfl,hb⟩
 have HB3 := hid (HB.out.trans (hb.mono HB.out.size))
 clear hb
 go_wp2_with fail
 go_ret
 exact ⟨rfl,HB3.out⟩
def letC : Fld → Nat
 | .f => 102
 | .t => 116
 | .r => 114
 | .n => 110
 | .x => 120
theorem let_list (k : Int) (h1 : 1 ≤ k) (h2 : k ≤ 11) : (letK k).data.toList.map (·.toNat) = (flds k).map letC := by
 rcases kind_cases h1 h2 with rfl | rfl | rfl | rfl | rfl | rfl | rfl | rfl | rfl | rfl | rfl <;> rfl
theorem let_size (k : Int) (h1 : 1 ≤ k) (h2 : k ≤ 11) : (letK k).size = (flds k).length := by
 have := congrArg List.length (let_list k h1 h2)
 simpa using this
theorem let_at (k : Int) (h1 : 1 ≤ k) (h2 : k ≤ 11) {i : Nat} (hi : i < (flds k).length) (hi2 : i < (letK k).size) : ((letK k)[i]'hi2).toNat = letC (flds k)[i] := by
 have h := congrArg (fun l : List Nat => l[i]?) (let_list k h1 h2)
 simp only [List.getElem?_map] at h
 rw [List.getElem?_eq_getElem hi,byte_at _ hi2] at h
 exact Option.some.inj h
def partOf (f t r : I3) (x : Tm) (n : Int) : Fld → Tm
 | .f => idT 5 f
 | .t => idT 5 t
 | .r => idT 4 r
 | .n => intT n
 | .x => x
theorem parts_flds (k : Int) (h1 : 1 ≤ k) (h2 : k ≤ 11) (f t r : I3) (x : Tm) (n : Int) : sgParts k f t r x n = intT k :: (flds k).map (partOf f t r x n) := by
 rcases kind_cases h1 h2 with rfl | rfl | rfl | rfl | rfl | rfl | rfl | rfl | rfl | rfl | rfl <;> rfl
structure TmAt (B L T : Nat) (a : Option Addr) (c : Nat) (parts : List Tm) (vs : List (Array Value)) (w0 wr : World) : Prop where
 tb : wr.heap[T]? = some (.cells (tuC (.slice a parts.length c)) 31 (0,0))
 row : wr.ownsRow L 31 9 (.slice a parts.length c) parts.length (cat vs)
 far : ∀ b,(Value.slice a parts.length c).ownBlock = some b → b ≠ T
 reps : Reps wr (fun b => b < B) parts vs
 turn : Turn (fun i => L ≤ i) w0 wr
 bl : B ≤ L
 lt : L ≤ T
 l0 : L ≤ w0.heap.size
theorem TmAt.old {B L T : Nat} {a : Option Addr} {c : Nat} {parts : List Tm} {vs : List (Array Value)} {w0 wr : World} (h : TmAt B L T a c parts vs w0 wr) {b : Nat} (hb : b < L) : wr.heap[b]? = w0.heap[b]? := h.turn.block b (by have := h.l0; omega) (by omega)
theorem TmAt.next {B L T : Nat} {a a8 : Option Addr} {c c8 : Nat} {parts : List Tm} {vs : List (Array Value)} {w0 wr w8 : World} {o : Obj} {t : Tm} {cs : Array Value} (h : TmAt B L T a c parts vs w0 wr) (hrep : Rep wr (fun b => b < B) t cs)
  (hg : (wr.alloc o).grownBy w8 (Value.slice a parts.length c).ownBlock) (ho8 : w8.ownsRow L 31 9 (.slice a8 (parts.length + 1) c8) (parts.length + 1) (cat vs ++ cs.toList))
  (hl : (Value.slice a8 (parts.length + 1) c8).ownBlock = (Value.slice a parts.length c).ownBlock ∨ (Value.slice a8 (parts.length + 1) c8).ownBlock = some (wr.alloc o).heap.size) :
  w8.heap[T]? = some (.cells (tuC (.slice a parts.length c)) 31 (0,0)) ∧ TmAt B L T a8 c8 (parts ++ [t]) (vs ++ [cs]) w0 (w8.setCell ⟨T,8,none⟩ (.slice a8 (parts.length + 1) c8)) := by
 have hb1 := h.bl; have hb2 := h.lt; have hb3 := blk_lt h.tb
 obtain ⟨k1,k2,k3⟩ := app_keep h.row hg
 have hL : (parts ++ [t]).length = parts.length + 1 := by simp
 have htb : w8.heap[T]? = some (.cells (tuC (.slice a parts.length c)) 31 (0,0)) := (k3.block T hb3 fun e => h.far T e rfl).trans h.tb
 have hf : ∀ b,(Value.slice a8 (parts.length + 1) c8).ownBlock = some b → b ≠ T := by
  intro b e
  rcases hl with hl | hl
  ·exact h.far b (hl.symm.trans e)
  ·rw [hl] at e
   cases e
   simp; omega
 have hT := Turn.setCell w8 T 8 (.slice a8 (parts.length + 1) c8)
 refine ⟨htb,?_,?_,by rw [hL]; exact hf,?_,?_,hb1,hb2,h.l0⟩
 ·rw [hL]
  exact heap_setCell_at htb
 ·rw [hL,cat_snoc]
  exact row_same ho8 fun b e hb => hT.block b hb (hf b e)
 ·have h1 := Reps.snoc (Rep.keep (w' := w8) (fun b e hb => k1 b (by omega) hb) _ _ hrep) (Reps.keep (fun b e hb => k1 b (by omega) hb) _ _ h.reps)
  exact Reps.keep (fun b e hb => hT.block b hb (by omega)) _ _ h1
 ·refine h.turn.trans ((k3.mono fun i _ e => (h.row.lt i e).1).trans (hT.mono fun i _ e => by omega))
def TermPost (k : Int) (f t r : I3) (x : Tm) (n : Int) (W : World) (e : Ending) (w' : World) : Prop :=
 ∃ (a : Option Addr) (m c : Nat),e = .returned (.agg (tuC (.slice a m c))) ∧ Below W.heap.size W w' ∧ Rep w' (fun b => b < w'.heap.size) (.mk { kind := 6 } (sgParts k f t r x n)) (tuC (.slice a m c))
set_option maxHeartbeats 4000000 in
theorem termD_any (k : Int) (h1 : 1 ≤ k) (h2 : k ≤ 11) (f t r : I3) (x : Tm) (n : Int) (a1 : Option Addr) (m1 c1 : Nat) (a2 : Option Addr) (m2 c2 : Nat) (w : World) (hrep : Rep w (fun b => b < w.heap.size) x (hdC x.hd (.slice a1 m1 c1) (.slice a2 m2 c2))) (hn : n = 0 ∨ n = 1 ∨ n = 2) :
  Calls Try.prog 18 #[.agg (sgC k f t r x.hd (.slice a1 m1 c1) (.slice a2 m2 c2) n)] w (TermPost k f t r x n w) := by
 have hls := let_size k h1 h2
 have hla := fun i hi hi2 => let_at k h1 h2 (i := i) hi hi2
 have hfl : (flds k).length ≤ 4 := by rcases kind_cases h1 h2 with rfl | rfl | rfl | rfl | rfl | rfl | rfl | rfl | rfl | rfl | rfl <;> decide
 have hwr : IntKind.i64.wrap n = n := by rcases hn with rfl | rfl | rfl <;> rfl
 have HRep := hid hrep
 have HPF := hid (parts_flds k h1 h2 f t r x n)
 have HLa := hid hla
 clear hrep hn hla
 obtain ⟨i0,hi,hz0,hz1,hz2⟩ := info_parts infoTm
 have X1 := hid hi
 have X2 := hid hz0
 have X3 := hid hz1
 have X4 := hid hz2
 clear hi hz0 hz1 hz2
 go_enter Try.func18,Try.ntmps18
 go_wp2_with fail
 have HB1 := hid (((Below.refl w.heap.size w).alloc (Nat.le_refl _) (.cells (sgC k f t r x.hd (.slice a1 m1 c1) (.slice a2 m2 c2) n) 33)).alloc (by simp) (.cells zC 31))
 have HX1 := hid (show ((w.alloc (.cells (sgC k f t r x.hd (.slice a1 m1 c1) (.slice a2 m2 c2) n) 33)).alloc (.cells zC 31)).heap[w.heap.size]? = some (.cells (sgC k f t r x.hd (.slice a1 m1 c1) (.slice a2 m2 c2) n) 33 (0,0)) from (Below.heap_alloc _ _ _ (by simp)).trans (heap_new w _))
 have HY1 := hid (show ((w.alloc (.cells (sgC k f t r x.hd (.slice a1 m1 c1) (.slice a2 m2 c2) n) 33)).alloc (.cells zC 31)).heap[w.heap.size + 1]? = some (.cells zC 31 (0,0)) from heap_new_at (by simp))
 obtain ⟨B,hB0⟩ : ∃ b,w.heap.size = b := ⟨_,rfl⟩
 have hB1 := HB1.out.size
 rw [hB0] at HB1 HX1 HY1 HRep hB1 ⊢
 have HBw := hid hB0
 clear hB0
 generalize (w.alloc (.cells (sgC k f t r x.hd (.slice a1 m1 c1) (.slice a2 m2 c2) n) 33)).alloc (.cells zC 31) = w1 at *
 refine (fieldsD_any k h1 h2 _).mono ?_
 rintro e w2 ⟨rfl,hb⟩
 have HB2 := hid (HB1.out.trans (hb.mono hB1))
 have hB2 : B ≤ w2.heap.size := Nat.le_trans hB1 hb.size
 have HX2 := hid ((hb.block _ (blk_lt HX1.out)).trans HX1.out)
 have HY2 := hid ((hb.block _ (blk_lt HY1.out)).trans HY1.out)
 clear hb HB1 HX1 HY1
 have k0 := (sg_cells HX2.out).1
 generalize letK k = Lk at *
 go_upto_region 3 with fail
 obtain ⟨L,hL⟩ : ∃ b,w2.heap.size = b := ⟨_,rfl⟩
 have hYl := blk_lt HY2.out
 have HB3 := hid (HB2.out.trans ((((Below.refl w2.heap.size w2).alloc (Nat.le_refl _) (.cells #[.int .i64 1,.int .i64 k,.complex .f64 0 0,.string ⟨#[]⟩,.int .i64 0,.int .u32 0,.int .u64 0,nilV,nilV] 31)).alloc (by simp) (.cells (tuC (.slice (some ⟨w2.heap.size,0,none⟩) 1 1)) 31)).mono hB2))
 have hP3 : ((w2.alloc (.cells #[.int .i64 1,.int .i64 k,.complex .f64 0 0,.string ⟨#[]⟩,.int .i64 0,.int .u32 0,.int .u64 0,nilV,nilV] 31)).alloc (.cells (tuC (.slice (some ⟨w2.heap.size,0,none⟩) 1 1)) 31)).heap[w2.heap.size]? = some (.cells #[.int .i64 1,.int .i64 k,.complex .f64 0 0,.string ⟨#[]⟩,.int .i64 0,.int .u32 0,.int .u64 0,nilV,nilV] 31 (0,0)) := (Below.heap_alloc _ _ _ (by simp)).trans (heap_new w2 _)
 have hT3 : ((w2.alloc (.cells #[.int .i64 1,.int .i64 k,.complex .f64 0 0,.string ⟨#[]⟩,.int .i64 0,.int .u32 0,.int .u64 0,nilV,nilV] 31)).alloc (.cells (tuC (.slice (some ⟨w2.heap.size,0,none⟩) 1 1)) 31)).heap[w2.heap.size + 1]? = some (.cells (tuC (.slice (some ⟨w2.heap.size,0,none⟩) 1 1)) 31 (0,0)) := heap_new_at (by simp)
 have HX3 := hid ((((Below.refl w2.heap.size w2).alloc (Nat.le_refl _) (.cells #[.int .i64 1,.int .i64 k,.complex .f64 0 0,.string ⟨#[]⟩,.int .i64 0,.int .u32 0,.int .u64 0,nilV,nilV] 31)).alloc (by simp) (.cells (tuC (.slice (some ⟨w2.heap.size,0,none⟩) 1 1)) 31)).block B (blk_lt HX2.out) |>.trans HX2.out)
 have HY3 := hid ((((Below.refl w2.heap.size w2).alloc (Nat.le_refl _) (.cells #[.int .i64 1,.int .i64 k,.complex .f64 0 0,.string ⟨#[]⟩,.int .i64 0,.int .u32 0,.int .u64 0,nilV,nilV] 31)).alloc (by simp) (.cells (tuC (.slice (some ⟨w2.heap.size,0,none⟩) 1 1)) 31)).block (B + 1) (blk_lt HY2.out) |>.trans HY2.out)
 rw [hL] at hP3 hT3 HB3 HX3 HY3 hYl ⊢
 clear hL HX2 HY2 HB2 k0
 generalize (w2.alloc (.cells #[.int .i64 1,.int .i64 k,.complex .f64 0 0,.string ⟨#[]⟩,.int .i64 0,.int .u32 0,.int .u64 0,nilV,nilV] 31)).alloc (.cells (tuC (.slice (some ⟨L,0,none⟩) 1 1)) 31) = w3 at *
 have hrow0 : w3.ownsRow L 31 9 (.slice (some ⟨L,0,none⟩) 1 1) 1 (cat [#[.int .i64 1,.int .i64 k,.complex .f64 0 0,.string ⟨#[]⟩,.int .i64 0,.int .u32 0,.int .u64 0,nilV,nilV]]) := ⟨rfl,.inr ⟨L,1,_,rfl,Nat.le_refl _,hP3,Nat.le_refl _,by decide,rfl,rfl⟩⟩
 have hTl := blk_lt hT3
 have HT0 := hid (show TmAt B L (L + 1) (some ⟨L,0,none⟩) 1 [intT k] [#[.int .i64 1,.int .i64 k,.complex .f64 0 0,.string ⟨#[]⟩,.int .i64 0,.int .u32 0,.int .u64 0,nilV,nilV]] w3 w3 from ⟨hT3,hrow0,fun b e => by cases e; show L ≠ L + 1; omega,⟨_,_,rfl,rep_int w3 _ k,rfl⟩,Turn.refl _ _,by omega,by omega,by omega⟩)
 have HBL := hid (show B + 1 < L from hYl)
 clear hrow0 hP3 hT3 hTl hYl hB1 hB2
 have hlsI : ((Lk.size : Nat) : Int) = ((flds k).length : Int) := by rw [hls]
 go_wp2_with fail
 go_loopw [5] (fun t5 wr => ∃ (i : Nat) (a : Option Addr) (c : Nat) (vs : List (Array Value)),i ≤ (flds k).length ∧ t5 = .int .i64 i ∧ TmAt B L (L + 1) a c (intT k :: ((flds k).take i).map (partOf f t r x n)) vs w3 wr) (fun t5 _ => (flds k).length - (intOf t5).toNat)
 case atStart => exact ⟨0,some ⟨L,0,none⟩,1,_,by omega,rfl,HT0.out⟩
 case round =>
  obtain ⟨i,a,c,vs,hi,rfl,hT⟩ := hrel
  have HT := hid hT
  clear hT HT0
  by_cases hlt : i < (flds k).length
  ·have hlt2 : i < Lk.size := by omega
   have hlti : (i : Int) < (Lk.size : Int) := by omega
   have hlti0 : (0 : Int) ≤ (i : Int) := by omega
   have hle := HLa.out i hlt hlt2
   obtain ⟨l0,l1,l2,l3,l4,l5,l6,l7,l8,l9,l10,l11,l12,l13,l14,l15,l16,l17,l18,l19⟩ := sg_cells ((HT.out.old (by have := HBL.out; omega)).trans HX3.out)
   have t8 := (NineAt.of_block HT.out.tb).2.2.2.2.2.2.2.2
   have HTk := hid (show ((flds k).take (i + 1)).map (partOf f t r x n) = ((flds k).take i).map (partOf f t r x n) ++ [partOf f t r x n (flds k)[i]] by rw [List.take_succ_eq_append_getElem hlt,List.map_append]; rfl)
   have HBr := hid (show ∀ b,b < B → wr.heap[b]? = w.heap[b]? from fun b hb => (HT.out.old (by have := HBL.out; omega)).trans (HB3.out.block b hb))
   have hpl : (intT k :: ((flds k).take i).map (partOf f t r x n)).length ≤ 5 := by simp; omega
   have HM1 := hid (show (intT k :: ((flds k).take i).map (partOf f t r x n)).length + 1 ≤ maxLen by unfold maxLen; omega)
   have HM2 := hid (show ((intT k :: ((flds k).take i).map (partOf f t r x n)).length + 1) * 120 ≤ 140737488355328 by omega)
   generalize (flds k)[i] = fld at *
   generalize hpp : (intT k :: ((flds k).take i).map (partOf f t r x n)) = pl at *
   have HPl := hid hpp
   clear hpp hpl
   cases fld
   case f =>
    have hcv : ((Lk[i]'hlt2).toNat : Int) = 102 := by rw [hle]; rfl
    have HRepP := hid (show Rep wr (fun b => b < B) (idT 5 f) #[.int .i64 5,.int .i64 0,.complex .f64 0 0,.string ⟨#[]⟩,.int .i64 f.a,.int .u32 f.b,.int .u64 f.c,nilV,nilV] from rep_id wr _ 5 f)
    have HR12 := hid (row_same (w' := wr.alloc (.cells #[.int .i64 5,.int .i64 0,.complex .f64 0 0,.string ⟨#[]⟩,.int .i64 f.a,.int .u32 f.b,.int .u64 f.c,nilV,nilV] 31)) HT.out.row (fun b _ hb => Below.heap_alloc _ _ b hb))
    have HS12 := hid (show Src Try.prog 9 29 (.slice (some ⟨wr.heap.size,0,none⟩) 1 1) 1 (#[.int .i64 5,.int .i64 0,.complex .f64 0 0,.string ⟨#[]⟩,.int .i64 f.a,.int .u32 f.b,.int .u64 f.c,nilV,nilV] : Array Value).toList (wr.alloc (.cells #[.int .i64 5,.int .i64 0,.complex .f64 0 0,.string ⟨#[]⟩,.int .i64 f.a,.int .u32 f.b,.int .u64 f.c,nilV,nilV] 31)) from
     Src.ofSlice _ Try.underlying29 _ _ _ _ rfl (World.news_of_block (heap_alloc_new wr _)) (nine_one 5 0 0 0 _ f.a f.b f.c none 0 0 none 0 0))
    have HM3 := hid (show L ≤ (wr.alloc (.cells #[.int .i64 5,.int .i64 0,.complex .f64 0 0,.string ⟨#[]⟩,.int .i64 f.a,.int .u32 f.b,.int .u64 f.c,nilV,nilV] 31)).heap.size by have := blk_lt HT.out.tb; simp; omega)
    go_wp2_with (at_builtin; refine wpList_app _ rfl (.tmp 26) (.tmp 30) 29 29 rfl L 31 i0 (.agg zC) 9 120 Try.underlying29 X1.out X2.out X3.out X4.out rfl (by decide) _ pl.length (cat vs) rfl HR12.out _ 1 (#[.int .i64 5,.int .i64 0,.complex .f64 0 0,.string ⟨#[]⟩,.int .i64 f.a,.int .u32 f.b,.int .u64 f.c,nilV,nilV] : Array Value).toList rfl HS12.out HM1.out HM2.out HM3.out ?_; intro a4 c4 w4 ho4 hg4 _ hl4; have hx := TmAt.next HT.out HRepP.out hg4 ho4 hl4; have HTn := hid hx.2; have ht8 := (NineAt.of_block hx.1).2.2.2.2.2.2.2.2; have hfz := fz_of hx.1 8; clear ho4 hg4 hl4 hx)
    go_round
    case rel => exact ⟨i + 1,a4,c4,_,by omega,by go_num,by rw [HTk.out,← List.cons_append,HPl.out]; exact HTn.out⟩
    case measure => simp [intOf]; omega
   case t =>
    have hcv : ((Lk[i]'hlt2).toNat : Int) = 116 := by rw [hle]; rfl
    have HRepP := hid (show Rep wr (fun b => b < B) (idT 5 t) #[.int .i64 5,.int .i64 0,.complex .f64 0 0,.string ⟨#[]⟩,.int .i64 t.a,.int .u32 t.b,.int .u64 t.c,nilV,nilV] from rep_id wr _ 5 t)
    have HR12 := hid (row_same (w' := wr.alloc (.cells #[.int .i64 5,.int .i64 0,.complex .f64 0 0,.string ⟨#[]⟩,.int .i64 t.a,.int .u32 t.b,.int .u64 t.c,nilV,nilV] 31)) HT.out.row (fun b _ hb => Below.heap_alloc _ _ b hb))
    have HS12 := hid (show Src Try.prog 9 29 (.slice (some ⟨wr.heap.size,0,none⟩) 1 1) 1 (#[.int .i64 5,.int .i64 0,.complex .f64 0 0,.string ⟨#[]⟩,.int .i64 t.a,.int .u32 t.b,.int .u64 t.c,nilV,nilV] : Array Value).toList (wr.alloc (.cells #[.int .i64 5,.int .i64 0,.complex .f64 0 0,.string ⟨#[]⟩,.int .i64 t.a,.int .u32 t.b,.int .u64 t.c,nilV,nilV] 31)) from
     Src.ofSlice _ Try.underlying29 _ _ _ _ rfl (World.news_of_block (heap_alloc_new wr _)) (nine_one 5 0 0 0 _ t.a t.b t.c none 0 0 none 0 0))
    have HM3 := hid (show L ≤ (wr.alloc (.cells #[.int .i64 5,.int .i64 0,.complex .f64 0 0,.string ⟨#[]⟩,.int .i64 t.a,.int .u32 t.b,.int .u64 t.c,nilV,nilV] 31)).heap.size by have := blk_lt HT.out.tb; simp; omega)
    go_wp2_with (at_builtin; refine wpList_app _ rfl (.tmp 36) (.tmp 40) 29 29 rfl L 31 i0 (.agg zC) 9 120 Try.underlying29 X1.out X2.out X3.out X4.out rfl (by decide) _ pl.length (cat vs) rfl HR12.out _ 1 (#[.int .i64 5,.int .i64 0,.complex .f64 0 0,.string ⟨#[]⟩,.int .i64 t.a,.int .u32 t.b,.int .u64 t.c,nilV,nilV] : Array Value).toList rfl HS12.out HM1.out HM2.out HM3.out ?_; intro a4 c4 w4 ho4 hg4 _ hl4; have hx := TmAt.next HT.out HRepP.out hg4 ho4 hl4; have HTn := hid hx.2; have ht8 := (NineAt.of_block hx.1).2.2.2.2.2.2.2.2; have hfz := fz_of hx.1 8; clear ho4 hg4 hl4 hx)
    go_round
    case rel => exact ⟨i + 1,a4,c4,_,by omega,by go_num,by rw [HTk.out,← List.cons_append,HPl.out]; exact HTn.out⟩
    case measure => simp [intOf]; omega
   case r =>
    have hcv : ((Lk[i]'hlt2).toNat : Int) = 114 := by rw [hle]; rfl
    have HRepP := hid (show Rep wr (fun b => b < B) (idT 4 r) #[.int .i64 4,.int .i64 0,.complex .f64 0 0,.string ⟨#[]⟩,.int .i64 r.a,.int .u32 r.b,.int .u64 r.c,nilV,nilV] from rep_id wr _ 4 r)
    have HR12 := hid (row_same (w' := wr.alloc (.cells #[.int .i64 4,.int .i64 0,.complex .f64 0 0,.string ⟨#[]⟩,.int .i64 r.a,.int .u32 r.b,.int .u64 r.c,nilV,nilV] 31)) HT.out.row (fun b _ hb => Below.heap_alloc _ _ b hb))
    have HS12 := hid (show Src Try.prog 9 29 (.slice (some ⟨wr.heap.size,0,none⟩) 1 1) 1 (#[.int .i64 4,.int .i64 0,.complex .f64 0 0,.string ⟨#[]⟩,.int .i64 r.a,.int .u32 r.b,.int .u64 r.c,nilV,nilV] : Array Value).toList (wr.alloc (.cells #[.int .i64 4,.int .i64 0,.complex .f64 0 0,.string ⟨#[]⟩,.int .i64 r.a,.int .u32 r.b,.int .u64 r.c,nilV,nilV] 31)) from
     Src.ofSlice _ Try.underlying29 _ _ _ _ rfl (World.news_of_block (heap_alloc_new wr _)) (nine_one 4 0 0 0 _ r.a r.b r.c none 0 0 none 0 0))
    have HM3 := hid (show L ≤ (wr.alloc (.cells #[.int .i64 4,.int .i64 0,.complex .f64 0 0,.string ⟨#[]⟩,.int .i64 r.a,.int .u32 r.b,.int .u64 r.c,nilV,nilV] 31)).heap.size by have := blk_lt HT.out.tb; simp; omega)
    go_wp2_with (at_builtin; refine wpList_app _ rfl (.tmp 46) (.tmp 50) 29 29 rfl L 31 i0 (.agg zC) 9 120 Try.underlying29 X1.out X2.out X3.out X4.out rfl (by decide) _ pl.length (cat vs) rfl HR12.out _ 1 (#[.int .i64 4,.int .i64 0,.complex .f64 0 0,.string ⟨#[]⟩,.int .i64 r.a,.int .u32 r.b,.int .u64 r.c,nilV,nilV] : Array Value).toList rfl HS12.out HM1.out HM2.out HM3.out ?_; intro a4 c4 w4 ho4 hg4 _ hl4; have hx := TmAt.next HT.out HRepP.out hg4 ho4 hl4; have HTn := hid hx.2; have ht8 := (NineAt.of_block hx.1).2.2.2.2.2.2.2.2; have hfz := fz_of hx.1 8; clear ho4 hg4 hl4 hx)
    go_round
    case rel => exact ⟨i + 1,a4,c4,_,by omega,by go_num,by rw [HTk.out,← List.cons_append,HPl.out]; exact HTn.out⟩
    case measure => simp [intOf]; omega
   case n =>
    have hcv : ((Lk[i]'hlt2).toNat : Int) = 110 := by rw [hle]; rfl
    have HRepP := hid (show Rep wr (fun b => b < B) (intT n) #[.int .i64 1,.int .i64 n,.complex .f64 0 0,.string ⟨#[]⟩,.int .i64 0,.int .u32 0,.int .u64 0,nilV,nilV] from rep_int wr _ n)
    have HR12 := hid (row_same (w' := wr.alloc (.cells #[.int .i64 1,.int .i64 n,.complex .f64 0 0,.string ⟨#[]⟩,.int .i64 0,.int .u32 0,.int .u64 0,nilV,nilV] 31)) HT.out.row (fun b _ hb => Below.heap_alloc _ _ b hb))
    have HS12 := hid (show Src Try.prog 9 29 (.slice (some ⟨wr.heap.size,0,none⟩) 1 1) 1 (#[.int .i64 1,.int .i64 n,.complex .f64 0 0,.string ⟨#[]⟩,.int .i64 0,.int .u32 0,.int .u64 0,nilV,nilV] : Array Value).toList (wr.alloc (.cells #[.int .i64 1,.int .i64 n,.complex .f64 0 0,.string ⟨#[]⟩,.int .i64 0,.int .u32 0,.int .u64 0,nilV,nilV] 31)) from
     Src.ofSlice _ Try.underlying29 _ _ _ _ rfl (World.news_of_block (heap_alloc_new wr _)) (nine_one 1 n 0 0 _ 0 0 0 none 0 0 none 0 0))
    have HM3 := hid (show L ≤ (wr.alloc (.cells #[.int .i64 1,.int .i64 n,.complex .f64 0 0,.string ⟨#[]⟩,.int .i64 0,.int .u32 0,.int .u64 0,nilV,nilV] 31)).heap.size by have := blk_lt HT.out.tb; simp; omega)
    go_wp2_with (at_builtin; refine wpList_app _ rfl (.tmp 56) (.tmp 61) 29 29 rfl L 31 i0 (.agg zC) 9 120 Try.underlying29 X1.out X2.out X3.out X4.out rfl (by decide) _ pl.length (cat vs) rfl HR12.out _ 1 (#[.int .i64 1,.int .i64 n,.complex .f64 0 0,.string ⟨#[]⟩,.int .i64 0,.int .u32 0,.int .u64 0,nilV,nilV] : Array Value).toList rfl HS12.out HM1.out HM2.out HM3.out ?_; intro a4 c4 w4 ho4 hg4 _ hl4; have hx := TmAt.next HT.out HRepP.out hg4 ho4 hl4; have HTn := hid hx.2; have ht8 := (NineAt.of_block hx.1).2.2.2.2.2.2.2.2; have hfz := fz_of hx.1 8; clear ho4 hg4 hl4 hx)
    go_round
    case rel => exact ⟨i + 1,a4,c4,_,by omega,by go_num,by rw [HTk.out,← List.cons_append,HPl.out]; exact HTn.out⟩
    case measure => simp [intOf]; omega
   case x =>
    have hcv : ((Lk[i]'hlt2).toNat : Int) = 120 := by rw [hle]; rfl
    have HRepP := hid (show Rep wr (fun b => b < B) (x) (hdC x.hd (.slice a1 m1 c1) (.slice a2 m2 c2)) from Rep.keep (fun b e hb => HBr.out b e) _ _ HRep.out)
    have HR12 := hid (row_same (w' := wr.alloc (.cells (hdC x.hd (.slice a1 m1 c1) (.slice a2 m2 c2)) 31)) HT.out.row (fun b _ hb => Below.heap_alloc _ _ b hb))
    have HS12 := hid (show Src Try.prog 9 29 (.slice (some ⟨wr.heap.size,0,none⟩) 1 1) 1 ((hdC x.hd (.slice a1 m1 c1) (.slice a2 m2 c2)) : Array Value).toList (wr.alloc (.cells (hdC x.hd (.slice a1 m1 c1) (.slice a2 m2 c2)) 31)) from
     Src.ofSlice _ Try.underlying29 _ _ _ _ rfl (World.news_of_block (heap_alloc_new wr _)) (nine_one _ _ _ _ _ _ _ _ _ _ _ _ _ _))
    have HM3 := hid (show L ≤ (wr.alloc (.cells (hdC x.hd (.slice a1 m1 c1) (.slice a2 m2 c2)) 31)).heap.size by have := blk_lt HT.out.tb; simp; omega)
    go_wp2_with (at_builtin; refine wpList_app _ rfl (.tmp 67) (.tmp 70) 29 29 rfl L 31 i0 (.agg zC) 9 120 Try.underlying29 X1.out X2.out X3.out X4.out rfl (by decide) _ pl.length (cat vs) rfl HR12.out _ 1 ((hdC x.hd (.slice a1 m1 c1) (.slice a2 m2 c2)) : Array Value).toList rfl HS12.out HM1.out HM2.out HM3.out ?_; intro a4 c4 w4 ho4 hg4 _ hl4; have hx := TmAt.next HT.out HRepP.out hg4 ho4 hl4; have HTn := hid hx.2; have ht8 := (NineAt.of_block hx.1).2.2.2.2.2.2.2.2; have hfz := fz_of hx.1 8; clear ho4 hg4 hl4 hx)
    go_round
    case rel => exact ⟨i + 1,a4,c4,_,by omega,by go_num,by rw [HTk.out,← List.cons_append,HPl.out]; exact HTn.out⟩
    case measure => simp [intOf]; omega
  ·obtain rfl : i = (flds k).length := by omega
   have hnl : ¬ ((flds k).length : Int) < (Lk.size : Int) := by omega
   have hnl2 : decide (((flds k).length : Int) < (Lk.size : Int)) = false := decide_eq_false hnl
   have HRepAll := hid HT.out
   rw [List.take_length,← HPF.out] at HRepAll
   have hpos := sgParts_pos k f t r x n
   obtain ⟨pl,hpl⟩ : ∃ pl,sgParts k f t r x n = pl := ⟨_,rfl⟩
   rw [hpl] at HRepAll hpos
   have HPL := hid hpl
   clear hpl
   have HY4 := hid ((HRepAll.out.old (by have := HBL.out; omega)).trans HY3.out)
   go_upto_region 17 with fail
   first | apply wp_region_lit | (apply wp_seq_k; intro _ _; apply wp_region_lit)
   refine wpList_load_row rfl 31 (.tmp 4) rfl (L + 1) rfl 31 (tuC (.slice a pl.length c)) (0,0) _ HRepAll.out.tb Try.underlying31 rfl infoT9 ?_
   go_wp2_with (refine wpList_store_row rfl 31 (.tmp 2) (.tmp 73) rfl (B + 1) (tuC (.slice a pl.length c)) rfl rfl 31 zC HY4.out infoT9 rfl (by simp [Array.all,Value.oneCell']) ?_)
   have hE := setRow_heap wr (B + 1) zC (tuC (.slice a pl.length c)) _ _ HY4.out
   have hT := setRow_turn wr (B + 1) (tuC (.slice a pl.length c))
   have hrow5 := row_same (w' := wr.setRow (B + 1) (tuC (.slice a pl.length c))) HRepAll.out.row (fun b e hb => hT.block b hb (fun e2 => by have := (HRepAll.out.row.lt b e).1; have := HBL.out; omega))
   have hreps5 := Reps.keep (w' := wr.setRow (B + 1) (tuC (.slice a pl.length c))) (fun b e hb => hT.block b hb (fun e2 => by omega)) _ _ HRepAll.out.reps
   have hbb : Below B w (wr.setRow (B + 1) (tuC (.slice a pl.length c))) := (HB3.out.trans (HRepAll.out.turn.below (by have := HRepAll.out.l0; have := HBL.out; omega) fun i e => by have := HBL.out; omega)).trans (hT.below (Nat.le_trans (Nat.le_succ B) (Nat.le_of_lt (blk_lt HY4.out))) fun i e => by omega)
   exact bodyPost_ret (results_cell_row rfl _ _ (B + 1) 31 (tuC (.slice a pl.length c)) (0,0) _ rfl hE Try.underlying31 rfl infoT9) rfl ⟨a,pl.length,c,rfl,HBw.out ▸ hbb,by rw [HPL.out]; exact ⟨nilV,.slice a pl.length c,rfl,Row.nil _ _ _ _,vs,⟨owns_mono hrow5 (Nat.zero_le _),fun b e => (hrow5.lt b e).2,fun e => by omega⟩,Reps.mono (fun b _ hb => hb) _ _ hreps5⟩⟩
end Go.Proofs.Ytgadkiljnebicaa
