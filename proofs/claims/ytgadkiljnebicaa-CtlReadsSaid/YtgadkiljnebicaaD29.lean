/- Several texts in one. -/
import Derived.Test.YtgadkiljnebicaaD10
import Derived.Test.YtgadkiljnebicaaD13
import Derived.Test.YtgadkiljnebicaaD12
import Derived.Test.YtgadkiljnebicaaD25
import Derived.Test.YtgadkiljnebicaaD14
import Derived.Test.YtgadkiljnebicaaD24
namespace Go.Proofs.Ytgadkiljnebicaa
open Go.Lib (hid)
open Go.RowKit
set_option maxRecDepth 100000
attribute [local go_sem] run_store_complex
structure I3 where
 a : Int
 b : Int
 c : Int
abbrev I3.zero : I3 := ⟨0,0,0⟩
def I3.ok (x : I3) : Bool := idOk x.a x.b x.c
abbrev sgC (k : Int) (f t r : I3) (h : Hd) (bv lv : Value) (n : Int) : Array Value :=
 #[.int .i64 k,.int .i64 f.a,.int .u32 f.b,.int .u64 f.c,.int .i64 t.a,.int .u32 t.b,.int .u64 t.c,.int .i64 r.a,.int .u32 r.b,.int .u64 r.c,
  .int .i64 h.kind,.int .i64 h.n,.complex .f64 h.re h.im,.string h.s,.int .i64 h.node,.int .u32 h.boot,.int .u64 h.idn,bv,lv,.int .u64 n]
theorem infoSg : (Try.prog.info? 33).map (·.size) = some 20 := by kernel_rfl
def hasN (k : Int) : Bool := decide (k = 4)
def hasX (k : Int) : Bool := !decide (k = 2 ∨ k = 3 ∨ k = 5 ∨ k = 6)
def idT (k : Int) (x : I3) : Tm := .mk { kind := k,node := x.a,boot := x.b,idn := x.c } []
def intT (n : Int) : Tm := .mk { kind := 1,n := n } []
def idAt (f t r : I3) (o : Nat) : I3 := if o = 1 then f else if o = 4 then t else r
def idTms (f t r : I3) (l : List (Nat × Int)) : List Tm := l.map fun e => idT e.2 (idAt f t r e.1)
theorem idTms_app (f t r : I3) (l m : List (Nat × Int)) : idTms f t r (l ++ m) = idTms f t r l ++ idTms f t r m := by simp [idTms]
def sgParts (k : Int) (f t r : I3) (x : Tm) (n : Int) : List Tm :=
 ((intT k :: idTms f t r (hasK k).all) ++ if hasN k = true then [intT n] else []) ++ if hasX k = true then [x] else []
theorem sgParts_pos (k : Int) (f t r : I3) (x : Tm) (n : Int) : 0 < (sgParts k f t r x n).length := by simp [sgParts]
def idsB (k : Int) (f t r : I3) : Bool := (hasK k).all.all fun e => (idAt f t r e.1).ok
def wholeB (k : Int) (f t r : I3) (x : Tm) (n : Int) : Bool :=
 idsB k f t r && (!hasN k || decide (n = 1 ∨ n = 2)) && (!hasX k || shapedB k x)
theorem fresh (h : Has) (j : Nat) (hj : j < h.all.length) : (h.all[j].1 = 1 ∧ h.all[j].2 = 5 ∧ (h.all.take j).any (fun e => e.1 == 1) = false ∨ h.all[j].1 = 4 ∧ h.all[j].2 = 5 ∧ (h.all.take j).any (fun e => e.1 == 4) = false ∨ h.all[j].1 = 7 ∧ h.all[j].2 = 4 ∧ (h.all.take j).any (fun e => e.1 == 7) = false) := by
 obtain ⟨a,b,c⟩ := h
 have h3 : j < 3 := Nat.lt_of_lt_of_le hj (upto_le ⟨a,b,c⟩ 3)
 rcases (show j = 0 ∨ j = 1 ∨ j = 2 by omega) with rfl | rfl | rfl <;> revert hj <;> cases a <;> cases b <;> cases c <;> decide
def zz (l : List (Nat × Int)) (o : Nat) (f : I3) : I3 := if l.any (fun e => e.1 == o) = true then I3.zero else f
theorem zz_keep {l : List (Nat × Int)} {o o2 : Nat} {k : Int} (f : I3) (h : ¬ o2 = o) : zz (l ++ [(o2,k)]) o f = zz l o f := by
 have e : (o2 == o) = false := beq_eq_false_iff_ne.2 h
 unfold zz
 rw [List.any_append]
 simp only [List.any_cons,List.any_nil,e,Bool.or_false]
theorem zz_out {l : List (Nat × Int)} {o : Nat} {k : Int} (f : I3) : zz (l ++ [(o,k)]) o f = I3.zero := by simp [zz]
theorem zz_fresh {l : List (Nat × Int)} {o : Nat} (f : I3) (h : l.any (fun e => e.1 == o) = false) : zz l o f = f := by simp [zz,h]
theorem zz_all (h : Has) (f t r : I3) (hf : h.f = false → f = I3.zero) (ht : h.t = false → t = I3.zero) (hr : h.r = false → r = I3.zero) : zz h.all 1 f = I3.zero ∧ zz h.all 4 t = I3.zero ∧ zz h.all 7 r = I3.zero := by
 obtain ⟨a,b,c⟩ := h
 simp only at hf ht hr
 refine ⟨?_,?_,?_⟩ <;> cases a <;> cases b <;> cases c <;> simp_all [zz,Has.all,Has.p2,Has.p1]
theorem take_next {h : Has} {j : Nat} (hj : j < h.all.length) {o : Nat} {k : Int} (h1 : h.all[j].1 = o) (h2 : h.all[j].2 = k) : h.all.take (j + 1) = h.all.take j ++ [(o,k)] := by
 rw [List.take_succ_eq_append_getElem hj,← h1,← h2]
theorem ids_cell {w : World} {B S : Nat} {l : List (Nat × Int)} {a : Option Addr} {c : Nat} (h : w.ownsRow B tPair 2 (.slice a l.length c) l.length (idCells S l)) {j : Nat} (hj : j < l.length) :
  ∃ g,a = some ⟨g,0,none⟩ ∧ B ≤ g ∧ w.cell? ⟨g,j * 2,none⟩ = some (.pointer (some ⟨S,l[j].1,none⟩)) ∧ w.cell? ⟨g,j * 2 + 1,none⟩ = some (.int .i64 l[j].2) := by
 rcases h.2 with ⟨_,h0⟩ | ⟨g,cap,cur,hv,hB,_⟩
 ·omega
 cases hv
 have get : ∀ (l : List (Nat × Int)) (j : Nat) (hj : j < l.length),(idCells S l)[j * 2]? = some (.pointer (some ⟨S,l[j].1,none⟩)) ∧ (idCells S l)[j * 2 + 1]? = some (.int .i64 l[j].2) := by
  intro l
  induction l with
  | nil => intro j hj; simp at hj
  | cons e l ih =>
   intro j hj
   cases j with
   | zero => simp [idCells]
   | succ j =>
    have := ih j (by simpa using hj)
    have e2 : idCells S (e :: l) = .pointer (some ⟨S,e.1,none⟩) :: .int .i64 e.2 :: idCells S l := by simp [idCells]
    rw [e2,show (j + 1) * 2 = j * 2 + 1 + 1 by omega]
    simpa using this
 obtain ⟨g1,g2⟩ := get l j hj
 refine ⟨g,rfl,hB,?_,?_⟩
 ·have := h.cells (g := g) rfl (j * 2) _ g1
  simpa [Addr.add_lit] using this
 ·have := h.cells (g := g) rfl (j * 2 + 1) _ g2
  simpa [Addr.add_lit] using this
theorem cat_one {w : World} {F : Nat → Prop} : ∀ {l : List Tm} {vs : List (Array Value)},Reps w F l vs → ∀ u ∈ cat vs,u.oneCell' = true
 | [],vs,h,u,hu => by
  have : vs = [] := h
  subst this
  simp [cat] at hu
 | t :: l,_,⟨c,r,e,h1,h2⟩,u,hu => by
  subst e
  have e2 : cat (c :: r) = c.toList ++ cat r := by simp [cat]
  rw [e2,List.mem_append] at hu
  rcases hu with hu | hu
  ·obtain ⟨a1,c1,a2,c2,rfl⟩ := rep_hdC h1
   exact nine_one _ _ _ _ _ _ _ _ _ _ _ _ _ _ u hu
  ·exact cat_one h2 u hu
theorem cat_length {w : World} {F : Nat → Prop} : ∀ {l : List Tm} {vs : List (Array Value)},Reps w F l vs → (cat vs).length = l.length * 9
 | [],vs,h => by
  have : vs = [] := h
  subst this
  simp [cat]
 | t :: l,_,⟨c,r,e,h1,h2⟩ => by
  subst e
  have e2 : cat (c :: r) = c.toList ++ cat r := by simp [cat]
  rw [e2,List.length_append,cat_length h2]
  have := h1.size
  simp; omega
theorem parts_src {w : World} {F : Nat → Prop} {B : Nat} {l : List Tm} {vs : List (Array Value)} {a : Option Addr} {c : Nat} (h : w.ownsRow B 31 9 (.slice a l.length c) l.length (cat vs)) (hr : Reps w F l vs) (hl : 0 < l.length) : Src Try.prog 9 29 (.slice a l.length c) l.length (cat vs) w := by
 rcases h.2 with ⟨_,h0⟩ | ⟨g,cap,cur,hv,_⟩
 ·omega
 cases hv
 exact Src.ofSlice _ Try.underlying29 _ _ _ _ (cat_length hr) (h.cells (g := g) rfl) (cat_one hr)
abbrev tuC (lv : Value) : Array Value := #[.int .i64 6,.int .i64 0,.complex .f64 0 0,.string ⟨#[]⟩,.int .i64 0,.int .u32 0,.int .u64 0,nilV,lv]
def TuPost (W : World) (n : Nat) (xs : List Value) (e : Ending) (w' : World) : Prop :=
 ∃ (a : Option Addr) (c : Nat),e = .returned (.agg (tuC (.slice a n c))) ∧ w'.ownsRow W.heap.size 31 9 (.slice a n c) n xs ∧ Below W.heap.size W w'
set_option maxHeartbeats 1000000 in
theorem tuple_any (a : Option Addr) (n c : Nat) (xs : List Value) (w : World) (hn : n ≤ 4096) (h : Src Try.prog 9 29 (.slice a n c) n xs (w.alloc (.cells zC 31))) : Calls Try.prog 29 #[.slice a n c] w (TuPost w n xs) := by
 have HS := hid h
 obtain ⟨i0,hi,hz0,hz1,hz2⟩ := info_parts infoTm
 have X1 := hid hi
 have X2 := hid hz0
 have X3 := hid hz1
 have X4 := hid hz2
 have HB := hid ((Below.refl w.heap.size w).alloc (Nat.le_refl _) (.cells zC 31))
 have HZ := hid (heap_new w (.cells zC 31))
 clear h hi hz0 hz1 hz2
 have HM1 := hid (show 0 + n ≤ maxLen by unfold maxLen; omega)
 have HM2 := hid (show (0 + n) * 120 ≤ 140737488355328 by omega)
 have HM3 := hid (blk_lt HZ.out)
 go_enter Try.func29,Try.ntmps29
 go_upto_region 1 with fail
 obtain ⟨b0,hb0⟩ : ∃ b,w.heap.size = b := ⟨_,rfl⟩
 rw [hb0] at HB HZ HM3 ⊢
 have HN := hid hb0
 clear hb0
 generalize w.alloc (.cells #[.int .i64 0,.int .i64 0,.complex .f64 0 0,.string ⟨#[]⟩,.int .i64 0,.int .u32 0,.int .u64 0,nilV,nilV] 31) = w1 at *
 go_wp2_with (first
  | (at_builtin; refine wpList_app _ rfl (.const (.slice none 0 0)) (.tmp 3) 29 29 rfl (b0 + 1) 31 i0 (.agg zC) 9 120 Try.underlying29 X1.out X2.out X3.out X4.out rfl (by decide) _ 0 [] rfl (World.ownsRow_nil _ _ _ _) _ n xs rfl HS.out HM1.out HM2.out HM3.out ?_; intro a4 c4 w4 ho4 hg4 _ hl4; rw [List.nil_append,Nat.zero_add] at ho4; rw [Nat.zero_add] at hl4 ⊢; have HO4 := hid ho4; have hG4 := Turn.of_grownBy hg4; have HZ4 := hid ((hG4.block b0 HM3.out (fun e => by cases e)).trans HZ.out); have HB4 := hid (HB.out.trans (hG4.below (Nat.le_of_lt HM3.out) (fun i e => by cases e))); clear ho4 hg4 hl4 hG4)
  | (refine wpList_store_row rfl 31 (.tmp 2) (.tmp 5) rfl b0 (tuC (.slice a4 n c4)) rfl rfl 31 zC HZ4.out infoT9 rfl (by simp [Array.all,Value.oneCell']) ?_))
 have hZ5 := setRow_heap w4 b0 zC (tuC (.slice a4 n c4)) 31 (0,0) HZ4.out
 have HB5 := hid (HB4.out.trans ((setRow_turn w4 b0 (tuC (.slice a4 n c4))).below (Nat.le_of_lt (blk_lt HZ4.out)) (fun i e => by omega)))
 have HO5 := hid (row_same (w' := w4.setRow b0 (tuC (.slice a4 n c4))) HO4.out (fun b e _ => setRow_other _ _ _ _ (by have := (HO4.out.lt b e).1; omega)))
 generalize w4.setRow b0 (tuC (.slice a4 n c4)) = w5 at *
 obtain ⟨k0,k1,k2,k3,k4,k5,k6,k7,k8⟩ := NineAt.of_block hZ5
 exact bodyPost_ret (v := .agg (tuC (.slice a4 n c4))) (by simp [results,Try.results29,go_sem,k0,k1,k2,k3,k4,k5,k6,k7,k8]) rfl ⟨a4,c4,rfl,HN.out ▸ owns_mono HO5.out (Nat.le_succ _),HN.out ▸ HB5.out⟩
end Go.Proofs.Ytgadkiljnebicaa
