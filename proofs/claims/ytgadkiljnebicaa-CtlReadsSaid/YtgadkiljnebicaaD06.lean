/- Several texts in one. -/
import Derived.Test.YtgadkiljnebicaaD05
import Derived.BigRegion
import Derived.Deep.QuietTactic
import Derived.BigQuiet
import Derived.StillTailTactics
import Derived.Laws.Tables
import Derived.Laws.Externs
import Derived.Laws.IdiomStrings
namespace Go.Proofs.Ytgadkiljnebicaa
open Go.Lib (hid)
open Go.RowKit
set_option maxRecDepth 100000
theorem run_store_complex {P : Program} {w : World} {a : Addr} {m : Mode} (k : FloatKind) (p q : Nat) : (store a (.complex k p q) m).run P w = stored P w a (.complex k p q) m := run_store P w a _ m rfl
attribute [local go_sem] run_store_complex
abbrev hdC (h : Hd) (bv lv : Value) : Array Value := #[.int .i64 h.kind,.int .i64 h.n,.complex .f64 h.re h.im,.string h.s,.int .i64 h.node,.int .u32 h.boot,.int .u64 h.idn,bv,lv]
abbrev nilV : Value := .slice none 0 0
abbrev v1 (n : Int) : Value := .agg #[.int .i64 1,.int .i64 n,.complex .f64 0 0,.string ⟨#[]⟩,.int .i64 0,.int .u32 0,.int .u64 0,nilV,nilV]
abbrev v2 (p q : Nat) : Value := .agg #[.int .i64 2,.int .i64 0,.complex .f64 p q,.string ⟨#[]⟩,.int .i64 0,.int .u32 0,.int .u64 0,nilV,nilV]
theorem cx_eql (w : World) : (binOp .eql 28 (.complex .f64 0 0) (.complex .f64 0 0)).run Try.prog w = .ok (.bool true) w := by kernel_rfl
theorem right1_any (n : Int) (w : World) : Calls Try.prog 42 #[v1 n] w (RB w (.bool (inR n))) := by
 have hcx := cx_eql
 have hI := hid (show inR n = decide (-4611686018427387904 ≤ n ∧ n ≤ 4611686018427387903) from rfl)
 rcases Int.lt_or_le n (-4611686018427387904) with h1 | h1
 ·have hf : decide ((-4611686018427387904 : Int) ≤ n) = false := decide_eq_false (by omega)
  go_enter Try.func42,Try.ntmps42
  go_wp2_with fail
  go_ret
  exact ⟨ret_bool (by rw [hI.out]; simp; omega),(Below.refl _ _).alloc (Nat.le_refl _) _⟩
 ·rcases Int.lt_or_le 4611686018427387903 n with h2 | h2
  ·have hf : decide (n ≤ (4611686018427387903 : Int)) = false := decide_eq_false (by omega)
   go_enter Try.func42,Try.ntmps42
   go_wp2_with fail
   go_ret
   exact ⟨ret_bool (by rw [hI.out]; simp; omega),(Below.refl _ _).alloc (Nat.le_refl _) _⟩
  ·go_enter Try.func42,Try.ntmps42
   go_wp2_with fail
   go_ret
   exact ⟨ret_bool (by rw [hI.out]; simp; omega),(Below.refl _ _).alloc (Nat.le_refl _) _⟩
theorem word_kinds (p : Nat) (hp : p < 18446744073709551616) : (¬ p % 9223372036854775808 < 9218868437227405312 ∧ okF p = false) ∨
  (p % 9223372036854775808 < 9218868437227405312 ∧ (FloatKind.f64.format.order p 0 == some .eq) = true ∧ (∃ r,(∀ (P : Program) (w : World),(binOp .quo 102 (.float .f64 4607182418800017408) (.float .f64 p)).run P w = .ok (.float .f64 r) w) ∧ (FloatKind.f64.format.order r 0 == some .lt) = !okF p)) ∨
  (p % 9223372036854775808 < 9218868437227405312 ∧ (FloatKind.f64.format.order p 0 == some .eq) = false ∧ okF p = true) := by
 by_cases h : p % 9223372036854775808 < 9218868437227405312
 ·by_cases h0 : p % 9223372036854775808 = 0
  ·refine .inr (.inl ⟨h,by rw [order_zero,decide_eq_true h0],?_⟩)
   obtain ⟨r,hr,hl⟩ := div_zero hp h0
   refine ⟨r,hr,hl.trans ?_⟩
   unfold okF
   rw [← decide_not]
   congr 1
   simp [h]
  ·refine .inr (.inr ⟨h,by rw [order_zero,decide_eq_false h0],?_⟩)
   unfold okF
   exact decide_eq_true ⟨h,by omega⟩
 ·exact .inl ⟨h,by unfold okF; exact decide_eq_false fun k => h k.1⟩
theorem below_drewN {B : Nat} {a b : World} (h : Below B a b) (q : Nat) : Below B a (b.drewN q) := ⟨h.os,h.tape,h.output,h.size,h.block⟩
set_option maxHeartbeats 2000000 in
theorem right2_any (p q : Nat) (hp : p < 18446744073709551616) (hq : q < 18446744073709551616) (w : World) : Calls Try.prog 42 #[v2 p q] w (RB w (.bool (okF p && okF q))) := by
 have hi0 : (FloatKind.f64.format.order 0 0 == some .eq) = true := by decide
 go_enter Try.func42,Try.ntmps42
 go_wp2_with fail
 have HB1 := hid ((Below.refl w.heap.size w).alloc (Nat.le_refl _) (.cells #[.int .i64 2,.int .i64 0,.complex .f64 p q,.string ⟨#[]⟩,.int .i64 0,.int .u32 0,.int .u64 0,nilV,nilV] 31))
 go_quiet (fail)
 go_wp2_with fail
 rcases word_kinds p hp with ⟨hfp,hop⟩ | ⟨hfp,hzp,rp,hrp,hop⟩ | ⟨hfp,hzp,hop⟩
 ·refine (finite_no p hfp _).mono ?_
  rintro e w2 ⟨rfl,rfl⟩
  rw [hop]
  go_wp2_with fail
  go_ret
  exact ⟨ret_bool (by rw [hop]; rfl),below_drewN HB1.out _⟩
 ·have hr1 := hrp Try.prog
  clear hrp
  refine (finite_yes p hfp _).mono ?_
  rintro e w2 ⟨rfl,rfl⟩
  go_wp2_with fail
  rcases word_kinds q hq with ⟨hfq,hoq⟩ | ⟨hfq,hzq,rq,hrq,hoq⟩ | ⟨hfq,hzq,hoq⟩
  ·refine (finite_no q hfq _).mono ?_
   rintro e w2 ⟨rfl,rfl⟩
   go_wp2_with fail
   go_ret
   exact ⟨ret_bool (by rw [hoq,Bool.and_false]),below_drewN HB1.out _⟩
  ·have hr2 := hrq Try.prog
   clear hrq
   refine (finite_yes q hfq _).mono ?_
   rintro e w2 ⟨rfl,rfl⟩
   generalize okF p = dp at *
   generalize okF q = dq at *
   cases dp <;> cases dq
   all_goals
    go_wp2_with fail
    go_ret
    exact ⟨ret_bool (by simp [*]),below_drewN HB1.out _⟩
  ·refine (finite_yes q hfq _).mono ?_
   rintro e w2 ⟨rfl,rfl⟩
   rw [hoq]
   generalize okF p = dp at *
   cases dp
   all_goals
    go_wp2_with fail
    go_ret
    exact ⟨ret_bool (by simp [*]),below_drewN HB1.out _⟩
 ·refine (finite_yes p hfp _).mono ?_
  rintro e w2 ⟨rfl,rfl⟩
  rw [hop]
  go_wp2_with fail
  rcases word_kinds q hq with ⟨hfq,hoq⟩ | ⟨hfq,hzq,rq,hrq,hoq⟩ | ⟨hfq,hzq,hoq⟩
  ·refine (finite_no q hfq _).mono ?_
   rintro e w2 ⟨rfl,rfl⟩
   go_wp2_with fail
   go_ret
   exact ⟨ret_bool (by rw [hoq,Bool.and_false]),below_drewN HB1.out _⟩
  ·have hr2 := hrq Try.prog
   clear hrq
   refine (finite_yes q hfq _).mono ?_
   rintro e w2 ⟨rfl,rfl⟩
   generalize okF q = dq at *
   cases dq
   all_goals
    go_wp2_with fail
    go_ret
    exact ⟨ret_bool (by simp [*]),below_drewN HB1.out _⟩
  ·refine (finite_yes q hfq _).mono ?_
   rintro e w2 ⟨rfl,rfl⟩
   rw [hoq]
   go_wp2_with fail
   go_ret
   exact ⟨ret_bool (by simp [*]),below_drewN HB1.out _⟩
def Row (w : World) (F : Nat → Prop) (e : TypeId) (size : Nat) (v : Value) (n : Nat) (xs : List Value) : Prop := w.ownsRow 0 e size v n xs ∧ (∀ b,v.ownBlock = some b → F b) ∧ (n = 0 → v = nilV)
theorem Row.nil (w : World) (F : Nat → Prop) (e : TypeId) (size : Nat) : Row w F e size nilV 0 [] := ⟨World.ownsRow_nil _ _ _ _,(fun b e => by cases e),fun _ => rfl⟩
theorem Row.keep {w w' : World} {F : Nat → Prop} {e : TypeId} {size : Nat} {v : Value} {n : Nat} {xs : List Value} (h : Row w F e size v n xs) (hs : ∀ b,F b → b < w.heap.size → w'.heap[b]? = w.heap[b]?) : Row w' F e size v n xs :=
 ⟨row_same h.1 fun b e hb => hs b (h.2.1 b e) hb,h.2⟩
theorem Row.mono {w : World} {F F' : Nat → Prop} {e : TypeId} {size : Nat} {v : Value} {n : Nat} {xs : List Value} (h : Row w F e size v n xs) (hF : ∀ b,F b → b < w.heap.size → F' b) : Row w F' e size v n xs :=
 ⟨h.1,fun b e => hF b (h.2.1 b e) (h.1.lt b e).2,h.2.2⟩
def cat (vs : List (Array Value)) : List Value := vs.flatMap Array.toList
mutual
def Rep (w : World) (F : Nat → Prop) : Tm → Array Value → Prop
 | .mk h l,c => ∃ bv lv,c = hdC h bv lv ∧ Row w F 5 1 bv h.b.length (h.b.map cellB) ∧ ∃ vs,Row w F 31 9 lv l.length (cat vs) ∧ Reps w F l vs
def Reps (w : World) (F : Nat → Prop) : List Tm → List (Array Value) → Prop
 | [],vs => vs = []
 | t :: l,vs => ∃ c r,vs = c :: r ∧ Rep w F t c ∧ Reps w F l r
end
mutual
theorem Rep.keep {w w' : World} {F : Nat → Prop} (hs : ∀ b,F b → b < w.heap.size → w'.heap[b]? = w.heap[b]?) : ∀ (t : Tm) (c : Array Value),Rep w F t c → Rep w' F t c
 | .mk _ l,_ => fun ⟨bv,lv,e,hb,vs,hl,hr⟩ => ⟨bv,lv,e,hb.keep hs,vs,hl.keep hs,Reps.keep hs l vs hr⟩
theorem Reps.keep {w w' : World} {F : Nat → Prop} (hs : ∀ b,F b → b < w.heap.size → w'.heap[b]? = w.heap[b]?) : ∀ (l : List Tm) (vs : List (Array Value)),Reps w F l vs → Reps w' F l vs
 | [],_ => fun h => h
 | t :: l,_ => fun ⟨c,r,e,h1,h2⟩ => ⟨c,r,e,Rep.keep hs t c h1,Reps.keep hs l r h2⟩
end
mutual
theorem Rep.mono {w : World} {F F' : Nat → Prop} (hF : ∀ b,F b → b < w.heap.size → F' b) : ∀ (t : Tm) (c : Array Value),Rep w F t c → Rep w F' t c
 | .mk _ l,_ => fun ⟨bv,lv,e,hb,vs,hl,hr⟩ => ⟨bv,lv,e,hb.mono hF,vs,hl.mono hF,Reps.mono hF l vs hr⟩
theorem Reps.mono {w : World} {F F' : Nat → Prop} (hF : ∀ b,F b → b < w.heap.size → F' b) : ∀ (l : List Tm) (vs : List (Array Value)),Reps w F l vs → Reps w F' l vs
 | [],_ => fun h => h
 | t :: l,_ => fun ⟨c,r,e,h1,h2⟩ => ⟨c,r,e,Rep.mono hF t c h1,Reps.mono hF l r h2⟩
end
theorem Rep.size {w : World} {F : Nat → Prop} : ∀ {t : Tm} {c : Array Value},Rep w F t c → c.size = 9
 | .mk _ _,_,⟨_,_,e,_⟩ => by rw [e]; rfl
theorem Reps.snoc {w : World} {F : Nat → Prop} {t : Tm} {c : Array Value} (h : Rep w F t c) : ∀ {l : List Tm} {vs : List (Array Value)},Reps w F l vs → Reps w F (l ++ [t]) (vs ++ [c])
 | [],vs,h0 => by
  have : vs = [] := h0
  subst this
  exact ⟨c,[],rfl,h,rfl⟩
 | _ :: _,_,⟨d,r,e,h1,h2⟩ => by
  subst e
  exact ⟨d,r ++ [c],rfl,h1,Reps.snoc h h2⟩
theorem cat_snoc (vs : List (Array Value)) (c : Array Value) : cat (vs ++ [c]) = cat vs ++ c.toList := by simp [cat]
end Go.Proofs.Ytgadkiljnebicaa
namespace Go.Proofs.Ytgadkiljnebicaa
open Go.Lib (hid)
open Go.RowKit
set_option maxRecDepth 100000
attribute [local go_sem] run_store_complex
theorem in_any (n : Int) (hn : (Lit.int .i64 n).wf = true) (w : World) : Calls Try.prog 77 #[.int .i64 n] w fun e w' => e = .returned (.bool (inR n)) ∧ w' = w := by
 have hI := hid (show inR n = decide (-4611686018427387904 ≤ n ∧ n ≤ 4611686018427387903) from rfl)
 have hd : n.tdiv 2 * 2 + n.tmod 2 = n := Int.tdiv_mul_add_tmod n 2
 have hm : (0 ≤ n → 0 ≤ n.tmod 2 ∧ n.tmod 2 ≤ 1) ∧ (n ≤ 0 → n.tmod 2 ≤ 0 ∧ -1 ≤ n.tmod 2) := by
  constructor
  ·intro h
   rw [Int.tmod_eq_emod_of_nonneg h]
   omega
  ·intro h
   have : n.tmod 2 = -((-n) % 2) := by rw [← Int.tmod_eq_emod_of_nonneg (by omega),Int.neg_tmod,Int.neg_neg]
   omega
 obtain ⟨hn1,hn2⟩ : -9223372036854775808 ≤ n ∧ n ≤ 9223372036854775807 := by simpa [Lit.wf,IntKind.min,IntKind.max,IntKind.signed,IntKind.bits] using hn
 have hw : wrap64 (n.tdiv 2) = n.tdiv 2 := by
  unfold wrap64
  omega
 generalize hq : n.tdiv 2 = q at *
 generalize hr : n.tmod 2 = r at *
 go_enter Try.func77,Try.ntmps77
 go_wp2_with fail
 all_goals
  go_ret
  exact ⟨ret_bool (by rw [hI.out,Bool.eq_iff_iff]; simp <;> omega),rfl⟩
theorem bare1 (n : Int) (w : World) : Calls Try.prog 76 #[v1 n] w (RB w (.bool true)) := by
 go_enter Try.func76,Try.ntmps76
 go_wp2_with fail
 go_ret
 exact ⟨rfl,(Below.refl _ _).alloc (Nat.le_refl _) _⟩
theorem bare2 (p q : Nat) (w : World) : Calls Try.prog 76 #[v2 p q] w (RB w (.bool true)) := by
 go_enter Try.func76,Try.ntmps76
 go_wp2_with fail
 go_ret
 exact ⟨rfl,(Below.refl _ _).alloc (Nat.le_refl _) _⟩
theorem new_cells (w : World) (cs : Array Value) (t : TypeId) {w1 : World} (hb : Below (w.alloc (.cells cs t)).heap.size (w.alloc (.cells cs t)) w1) (i : Nat) (h : i < cs.size) : w1.cell? ⟨w.heap.size,i,none⟩ = some cs[i] := by
 have hh := (hb.block w.heap.size (by simp)).trans (heap_new w _)
 simp [World.cell?,hh,h]
theorem refright1 (n : Int) (hn : (Lit.int .i64 n).wf = true) (w : World) : Calls Try.prog 50 #[v1 n] w (RB w (.bool (inR n))) := by
 have hi0 : (FloatKind.f64.format.order 0 0 == some .eq) = true := by decide
 have HI := hid (in_any n hn)
 go_enter Try.func50,Try.ntmps50
 go_wp2_with fail
 refine (bare1 n _).mono ?_
 rintro e w1 ⟨rfl,hb⟩
 have k0 : w1.cell? ⟨w.heap.size,0,none⟩ = some (.int .i64 1) := new_cells _ _ _ hb 0 (by simp)
 have k1 : w1.cell? ⟨w.heap.size,1,none⟩ = some (.int .i64 n) := new_cells _ _ _ hb 1 (by simp)
 have k2 : w1.cell? ⟨w.heap.size,2,none⟩ = some (.complex .f64 0 0) := new_cells _ _ _ hb 2 (by simp)
 have HB := hid (((Below.refl w.heap.size w).alloc (Nat.le_refl _) _).trans (hb.mono (by simp)))
 clear hb
 go_wp2_with fail
 refine (HI.out _).mono ?_
 rintro e w2 ⟨rfl,rfl⟩
 go_wp2_with fail
 go_ret
 exact ⟨ret_bool (by simp),HB.out⟩
theorem okF_eq (p : Nat) : okF p = (finB p && !decide (p = 9223372036854775808)) := by
 unfold okF finB
 rw [Bool.eq_iff_iff]
 simp
theorem refright2 (p q : Nat) (hp : p < 18446744073709551616) (hq : q < 18446744073709551616) (w : World) : Calls Try.prog 50 #[v2 p q] w (RB w (.bool (okF p && okF q))) := by
 have H1 := hid (reffin_any p)
 have H2 := hid (reffin_any q)
 have H3 := hid (minus_any p hp)
 have H4 := hid (minus_any q hq)
 have H5 := hid (okF_eq p)
 have H6 := hid (okF_eq q)
 generalize finB p = fp at *
 generalize finB q = fq at *
 generalize decide (p = 9223372036854775808) = mp at *
 generalize decide (q = 9223372036854775808) = mq at *
 go_enter Try.func50,Try.ntmps50
 go_wp2_with fail
 refine (bare2 p q _).mono ?_
 rintro e w1 ⟨rfl,hb⟩
 have k0 : w1.cell? ⟨w.heap.size,0,none⟩ = some (.int .i64 2) := new_cells _ _ _ hb 0 (by simp)
 have k1 : w1.cell? ⟨w.heap.size,1,none⟩ = some (.int .i64 0) := new_cells _ _ _ hb 1 (by simp)
 have k2 : w1.cell? ⟨w.heap.size,2,none⟩ = some (.complex .f64 p q) := new_cells _ _ _ hb 2 (by simp)
 have HB := hid (((Below.refl w.heap.size w).alloc (Nat.le_refl _) _).trans (hb.mono (by simp)))
 clear hb
 go_wp2_with fail
 refine (H1.out _).mono ?_
 rintro e w2 ⟨rfl,rfl⟩
 cases fp
 ·go_wp2_with fail
  go_ret
  exact ⟨ret_bool (by rw [H5.out]; rfl),HB.out⟩
 ·go_wp2_with fail
  refine (H2.out _).mono ?_
  rintro e w3 ⟨rfl,rfl⟩
  cases fq
  ·go_wp2_with fail
   go_ret
   exact ⟨ret_bool (by rw [H6.out]; simp),HB.out⟩
  ·go_wp2_with fail
   refine (H3.out _).mono ?_
   rintro e w3 ⟨rfl,rfl⟩
   cases mp
   ·go_wp2_with fail
    refine (H4.out _).mono ?_
    rintro e w3 ⟨rfl,rfl⟩
    go_wp2_with fail
    go_ret
    exact ⟨ret_bool (by rw [H5.out,H6.out]; simp),HB.out⟩
   ·go_wp2_with fail
    go_ret
    exact ⟨ret_bool (by rw [H5.out]; rfl),HB.out⟩
abbrev fv (k : Nat) : Value := .func (.func k) #[] #[]
abbrev kTab : Array Value := #[.nilFunc,.nilFunc,fv 69,fv 63,fv 70,fv 63,fv 71,fv 72,fv 67,fv 64,fv 67,fv 64,fv 68,fv 66,fv 68,fv 66,fv 74,fv 66]
abbrev zTab : Array Value := #[.nilFunc,.nilFunc,.nilFunc,.nilFunc,.nilFunc,.nilFunc,.nilFunc,.nilFunc,.nilFunc,.nilFunc,.nilFunc,.nilFunc,.nilFunc,.nilFunc,.nilFunc,.nilFunc,.nilFunc,.nilFunc]
theorem setRow_new (w : World) (old cells : Array Value) (t : TypeId) : (w.alloc (.cells old t)).setRow w.heap.size cells = w.alloc (.cells cells t) := by
 unfold World.setRow World.alloc
 congr 1
 apply Array.ext_getElem?
 intro k
 simp only [Array.getElem?_modify,Array.getElem?_push]
 by_cases hk : w.heap.size = k
 ·subst hk; simp
 ·have : ¬ k = w.heap.size := fun e => hk e.symm
  simp [hk,this]
set_option maxRecDepth 100000 in
theorem kinds_any (w : World) : Calls Try.prog 45 #[] w (RB w (.agg kTab)) := by
 go_enter Try.func45,Try.ntmps45
 have hi56 : (Try.prog.info? 108).map (·.size) = some kTab.size := by kernel_rfl
 have hall : kTab.all (·.oneCell') = true := by kernel_rfl
 go_wp2_with (refine wpList_store_row rfl 108 (.tmp 0) (.tmp 25) rfl w.heap.size kTab rfl rfl 108 zTab (heap_new _ _) hi56 rfl hall ?_; rw [setRow_new])
 exact bodyPost_ret (v := .agg kTab) (by simp [results,Try.results45,go_sem]) rfl ⟨rfl,(Below.refl w.heap.size w).alloc (Nat.le_refl _) _⟩
end Go.Proofs.Ytgadkiljnebicaa
namespace Go.Proofs.Ytgadkiljnebicaa
open Go.Lib (hid)
open Go.RowKit
set_option maxRecDepth 100000
theorem tk_succ {bs : List UInt8} {i j : Nat} (h : i + j < bs.length) : (bs.drop i).take (j + 1) = (bs.drop i).take j ++ [bs[i + j]] := by
 rw [List.take_succ_eq_append_getElem (by simp; omega)]
 simp
theorem tk_len {bs : List UInt8} {i j : Nat} (h : i + j ≤ bs.length) : ((bs.drop i).take j).length = j := by simp; omega
theorem wordOf_snoc (l : List UInt8) (c : UInt8) : wordOf (l ++ [c]) = wordOf l * 256 + c.toNat := by simp [wordOf]
theorem word_lt : ∀ (l : List UInt8) (u n : Nat),u < 256 ^ n → l.foldl (fun u c => u * 256 + c.toNat) u < 256 ^ (n + l.length)
 | [],u,n,h => by simpa using h
 | c :: l,u,n,h => by
  have := c.toNat_lt
  have e : n + (c :: l).length = (n + 1) + l.length := by simp; omega
  rw [e]
  exact word_lt l _ _ (by show u * 256 + c.toNat < 256 ^ (n + 1); rw [Nat.pow_succ]; omega)
theorem wordOf_lt (l : List UInt8) : wordOf l < 256 ^ l.length := by
 have := word_lt l 0 0 (by decide)
 simpa [wordOf] using this
theorem frombits (n : Nat) (w : World) : (callFunc 60 #[.int .u64 (n : Int)]).run Try.prog w = .ok (.value (.float .f64 n)) w := by
 rw [run_callFunc_extern Try.func60 (by kernel_rfl) (by kernel_rfl) (by kernel_rfl) (e := Extern.MathFloatBits.float64frombits) (by kernel_rfl)]
 rfl
theorem shl8 (u c : Nat) (hu : u < 72057594037927936) (hc : c < 256) : IntKind.u64.wrap ((u : Int) * 256) = ((u * 256 : Nat) : Int) ∧ bits .or .u64 ((u : Int) * 256) (c : Int) = ((u * 256 + c : Nat) : Int) := by
 constructor
 ·rw [← wrap_u64_nat (u * 256) (by omega)]; simp
 ·rw [show ((u : Int) * 256) = ((u * 256 : Nat) : Int) by simp,(bits_nat .u64 64 (by decide) wraps_u64 (u * 256) c (by omega) (by omega)).2,Nat.mul_comm,show 256 = 2 ^ 8 from rfl,← Nat.two_pow_add_eq_or_of_lt (by omega) u]
def floatRel (R p m : Nat) (v bv : Value) (bs : List UInt8) (s : St) (W : World) (t3 t4 : Value) (w : World) : Prop :=
 ∃ j : Nat,j ≤ 8 ∧ s.i + j ≤ bs.length ∧ t4 = .int .i64 j ∧ t3 = .int .u64 (wordOf ((bs.drop s.i).take j) : Nat) ∧ RdAt w R p m v bv bs { s with i := s.i + j } ∧ Turn (fun i => i = R) W w
set_option maxHeartbeats 1000000 in
theorem float_any (R p m : Nat) (v bv : Value) (bs : List UInt8) (s : St) (w : World) (h : RdAt w R p m v bv bs s) :
  Calls Try.prog 43 #[.pointer (some ⟨R,0,none⟩)] w (P1 R p m v bv bs w (fun l => .float .f64 (wordOf l)) (someP bs 8 s)) := by
 have H := hid h
 clear h
 go_enter Try.func43,Try.ntmps43
 go_wp2_with fail
 go_loopw [3,4] (fun t3 t4 wr => floatRel R p m v bv bs s w t3 t4 wr) (fun _ t4 _ => 8 - (intOf t4).toNat)
 case atStart => exact ⟨0,by omega,H.out.ile,rfl,by simp [wordOf],H.out,Turn.refl _ _⟩
 case round =>
  obtain ⟨j,hj,hl,rfl,rfl,hR,hT⟩ := hrel
  have HR := hid hR
  have HT := hid hT
  have HL := hid hl
  clear hR hT hl
  by_cases hlt : j < 8
  ·by_cases hi : s.i + j < bs.length
   ·have H1 := hid (one_yes R p m v bv bs _ wr HR.out hi)
    have hwl := wordOf_lt ((bs.drop s.i).take j)
    rw [tk_len HL.out] at hwl
    have hw2 : wordOf ((bs.drop s.i).take j) < 72057594037927936 := Nat.lt_of_lt_of_le hwl (Nat.le_trans (Nat.pow_le_pow_right (by decide) (show j ≤ 7 by omega)) (by decide))
    have HW := hid (show wordOf ((bs.drop s.i).take (j + 1)) = wordOf ((bs.drop s.i).take j) * 256 + bs[s.i + j].toNat by rw [tk_succ hi,wordOf_snoc])
    obtain ⟨f1,f2⟩ := shl8 (wordOf ((bs.drop s.i).take j)) bs[s.i + j].toNat hw2 bs[s.i + j].toNat_lt
    have f3 := wrap_u64_nat bs[s.i + j].toNat (by have := bs[s.i + j].toNat_lt; omega)
    have hj1 : (j : Int) < 8 := by omega
    clear hwl hw2
    generalize wordOf ((bs.drop s.i).take j) = u at *
    go_wp2_with fail
    refine H1.out.mono ?_
    rintro e w2 ⟨rfl,hR2,hT2⟩
    have HR2 := hid hR2
    have HT2 := hid hT2
    clear hT2 hR2
    go_wp2_with fail
    go_round
    case rel => exact ⟨j + 1,by omega,by omega,by go_num,by rw [HW.out]; simp only [Int.natCast_add,Int.natCast_mul]; rfl,HR2.out,HT.out.trans HT2.out⟩
    case measure => simp [intOf]; omega
   ·have H1 := hid (one_no R p m v bv bs _ wr HR.out hi)
    have HW := hid (show someP bs 8 s = .error 72 by unfold someP; rw [if_neg (by omega)])
    have hj1 : (j : Int) < 8 := by omega
    go_wp2_with fail
    refine H1.out.mono ?_
    rintro e w2 ⟨rfl,hT2⟩
    have HT2 := hid hT2
    clear hT2
    go_wp2_with fail
    refine ⟨rfl,?_⟩
    rw [HW.out]
    exact ⟨rfl,HT.out.trans HT2.out⟩
  ·obtain rfl : j = 8 := by omega
   have HW := hid (show someP bs 8 s = .ok ((bs.drop s.i).take 8,{ s with i := s.i + 8 }) by unfold someP; rw [if_pos HL.out])
   have hf := frombits (wordOf ((bs.drop s.i).take 8))
   go_wp2_with fail
   go_ret
   rw [HW.out]
   exact ⟨rfl,HR.out,HT.out⟩
def P2 {α : Type} (R p m : Nat) (v bv : Value) (bs : List UInt8) (W : World) (res : α → Value) (r : Except Int (α × St)) (e : Ending) (w' : World) : Prop :=
 match r with
 | .ok (a,s') => ∃ v',e = .returned (res a) ∧ RdAt w' R p m v' bv bs s' ∧ Turn (foot R p m v) W w' ∧ (v'.ownBlock = v.ownBlock ∨ ∀ b,v'.ownBlock = some b → W.heap.size ≤ b)
 | .error x => e = .panicked (thrown x) ∧ Turn (foot R p m v) W w'
theorem turnR {R p m : Nat} {v : Value} {a b : World} (h : Turn (fun i => i = R) a b) : Turn (foot R p m v) a b := h.mono fun _ _ e => .inl e
theorem wide_names {bs : List UInt8} : ∀ (rest k acc : Nat) (s s' : St) (n : Nat),wideP bs rest k acc s = .ok (n,s') → s'.names = s.names ∧ s'.n = s.n ∧ s.i < s'.i := by
 intro rest
 induction rest with
 | zero => intro k acc s s' n h; cases h
 | succ rest ih =>
  intro k acc s s' n h
  simp only [wideP] at h
  cases ho : oneP bs s with
  | error x => rw [ho] at h; cases h
  | ok y =>
   obtain ⟨c,s2⟩ := y
   rw [ho] at h
   obtain ⟨_,rfl,_⟩ := oneP_ok ho
   simp only at h
   split at h
   ·cases h
   ·split at h
    ·obtain ⟨h1,h2,h3⟩ := ih _ _ _ _ _ h
     exact ⟨h1,h2,by simp at h3; omega⟩
    ·split at h
     ·cases h
     ·cases h; exact ⟨rfl,rfl,by simp⟩
theorem wideN_lt {bs : List UInt8} {s s' : St} {n : Nat} (h : wideN bs s = .ok (n,s')) : n < 18446744073709551616 := by
 have key : ∀ (rest k acc : Nat) (s : St),k + rest = 10 → acc < 2 ^ (7 * k) → k ≤ 9 → wideP bs rest k acc s = .ok (n,s') → n < 18446744073709551616 := by
  intro rest
  induction rest with
  | zero => intro k acc s _ _ _ h; cases h
  | succ rest ih =>
   intro k acc s hk ha h9 h
   simp only [wideP] at h
   cases ho : oneP bs s with
   | error x => rw [ho] at h; cases h
   | ok y =>
    obtain ⟨c,s2⟩ := y
    rw [ho] at h
    obtain ⟨hc,rfl,_⟩ := oneP_ok ho
    simp only at h
    split at h
    ·cases h
    ·rename_i hn
     have hd : c % 128 < 128 := Nat.mod_lt _ (by decide)
     split at h
     ·exact ih _ _ _ (by omega) (acc_lt ha hd) (by omega) h
     ·split at h
      ·cases h
      ·cases h
       by_cases e9 : k = 9
       ·subst e9
        have h1 : c % 128 ≤ 1 := by omega
        have : c % 128 * 2 ^ (7 * 9) ≤ 1 * 2 ^ (7 * 9) := Nat.mul_le_mul_right _ h1
        have h2 : acc < 9223372036854775808 := ha
        have h3 : c % 128 * 2 ^ (7 * 9) ≤ 9223372036854775808 := this
        omega
       ·exact Nat.lt_of_lt_of_le (acc_lt (k := k) ha hd) (Nat.le_trans (pow_le9 (k := k + 1) (by omega)) (by decide))
 exact key 10 0 0 s rfl (by decide) (by decide) h
def nameK (bs : List UInt8) (k : Nat) : Rd ByteArray := fun s =>
 if s.names.length < k then .error 73
 else if k < s.names.length then .ok (s.names.getD k ⟨#[]⟩,s)
 else match oneP bs s with
  | .error e => .error e
  | .ok (size,s) =>
   if size < 1 ∨ 32 < size then .error 73
   else match someP bs size s with
    | .error e => .error e
    | .ok (l,s) =>
     if nameB ⟨l.toArray⟩ = true ∧ pos s.names ⟨l.toArray⟩ = none then .ok (⟨l.toArray⟩,{ s with names := s.names ++ [⟨l.toArray⟩] })
     else .error 73
theorem nameP_eq (bs : List UInt8) (s : St) : nameP bs s = match wideN bs s with
 | .error e => .error e
 | .ok (k,s) => nameK bs k s := by
 unfold nameP nameK
 rfl
set_option maxHeartbeats 1000000 in
theorem name_low (R p m : Nat) (v bv : Value) (bs : List UInt8) (s s1 : St) (k : Nat) (w : World) (h : RdAt w R p m v bv bs s) (hw : wideN bs s = .ok (k,s1)) (hk : ¬ k = s1.names.length) :
  Calls Try.prog 44 #[.pointer (some ⟨R,0,none⟩)] w (P2 R p m v bv bs w .string (nameP bs s)) := by
 have HN := hid (show nameP bs s = nameK bs k s1 by rw [nameP_eq,hw])
 have H1 := wide_any R p m v bv bs s w h
 rw [hw] at H1
 have HW := hid H1
 have hkl := wideN_lt hw
 clear H1 hw h
 go_enter Try.func44,Try.ntmps44
 go_wp2_with fail
 refine HW.out.mono ?_
 rintro e w1 ⟨rfl,hR1,hT1⟩
 have HR1 := hid hR1
 have HT1 := hid hT1
 have HL := hid (len_any p m v s1.names w1 hR1.tab)
 have r3 := hR1.c3
 have hnl := hR1.tab.len
 have f0 := wrap_u64_nat s1.names.length (by omega)
 clear hR1 hT1 HW
 go_wp2_with fail
 refine HL.out.mono ?_
 rintro e w2 ⟨rfl,rfl⟩
 by_cases hlt : k < s1.names.length
 ·have hle : ((k : Int) ≤ (s1.names.length : Int)) := by omega
  have hlt' : ((k : Int) < (s1.names.length : Int)) := by omega
  have HK := hid (show nameK bs k s1 = .ok (s1.names[k],s1) by unfold nameK; rw [if_neg (by omega),if_pos hlt]; simp [List.getD,hlt])
  have HName := hid (tname_in p m v s1.names k w1 HR1.out.tab hlt)
  have f1 : IntKind.i64.wrap (k : Int) = k := IntWalk.i64_in _ (by omega)
  go_wp2_with fail
  refine (must_yes _ _).mono ?_
  rintro e w3 ⟨rfl,rfl⟩
  go_wp2_with fail
  refine HName.out.mono ?_
  rintro e w3 ⟨rfl,rfl⟩
  go_wp2_with fail
  go_ret
  rw [HN.out,HK.out]
  exact ⟨v,rfl,HR1.out,turnR HT1.out,.inl rfl⟩
 ·have hle : decide (k ≤ s1.names.length) = false := decide_eq_false (by omega)
  have HK := hid (show nameK bs k s1 = .error 73 by unfold nameK; rw [if_pos (by omega)])
  go_wp2_with fail
  refine (must_no _ _).mono ?_
  rintro e w3 ⟨rfl,rfl⟩
  go_wp2_with fail
  refine ⟨rfl,?_⟩
  rw [HN.out,HK.out]
  exact ⟨rfl,turnR HT1.out⟩
end Go.Proofs.Ytgadkiljnebicaa
