/- Several texts in one. -/
import Derived.Test.YtkfblapfphnggaaD01
import Derived.Test.YtkfblapfphnggaaD03
import Derived.BigRegion
import Derived.Deep.QuietTactic
import Derived.BigQuiet
import Derived.StillTailTactics
import Derived.Laws.Tables
/- Which floats are finite, which is -0: the code's and the document's tests. -/
namespace Go.Proofs.Ytkfblapfphnggaa
open Go.RowKit
set_option maxRecDepth 100000

theorem nan_bits (t : Nat) : ∃ s u, Ieee.double.read ((t % 2) * 2 ^ 63 + 0x7ff0000000000000 + 1 + (t / 2) % (2 ^ 52 - 1)) = .nan s u := by
  unfold Ieee.Format.read
  simp only [sw, ir, bi]
  have h1 : ((t % 2) * 2 ^ 63 + 0x7ff0000000000000 + 1 + (t / 2) % (2 ^ 52 - 1)) % 9223372036854775808 = 0x7ff0000000000000 + 1 + (t / 2) % (2 ^ 52 - 1) := by omega
  rw [h1, if_neg (by omega), if_neg (by omega), if_neg (by omega)]
  exact ⟨_, _, rfl⟩
theorem run_sub_nan (P : Program) (ty : TypeId) (p : Nat) (h : Ieee.double.sub p p = none) (w : World) : ∃ r, (binOp .sub ty (.float .f64 p) (.float .f64 p)).run P w = .ok (.float .f64 r) w.drew ∧ ∃ s u, Ieee.double.read r = .nan s u := by
  refine ⟨_, ?_, nan_bits (w.tape w.drawn (.nanBits .f64 p p))⟩
  have h' : FloatKind.f64.format.sub p p = none := h
  simp [binOp, Op.floatArith, h', Question.forced, Question.cut]
theorem finite_yes (p : Nat) (h : p % 9223372036854775808 < 9218868437227405312) (w : World) : Calls Try.prog 55 #[.float .f64 p] w fun e w' => e = .returned (.bool true) ∧ w' = w := by
  have hs : (binOp .sub 83 (.float .f64 p) (.float .f64 p)).run Try.prog w = .ok (.float .f64 0) w := run_float_arith w .sub _ .f64 p p 0 (sub_self_fin h)
  have he : (FloatKind.f64.format.order 0 0 == some .eq) = true := by decide
  go_enter Try.func55, Try.ntmps55
  go_wp2_with fail
  go_ret
  exact ⟨rfl, rfl⟩
theorem finite_no (p : Nat) (h : ¬ p % 9223372036854775808 < 9218868437227405312) (w : World) : Calls Try.prog 55 #[.float .f64 p] w fun e w' => e = .returned (.bool false) ∧ w' = w.drew := by
  obtain ⟨r, hs, s, u, hn⟩ := run_sub_nan Try.prog 83 p (sub_self_not h) w
  have he : (FloatKind.f64.format.order r 0 == some .eq) = false := by
    have : FloatKind.f64.format.order r 0 = none := by
      show (Ieee.double.read r).order _ = none
      rw [hn]
      rfl
    rw [this]
    rfl
  clear hn h
  go_enter Try.func55, Try.ntmps55
  go_wp2_with fail
  go_ret
  exact ⟨rfl, rfl⟩
/-- finite? -/
def finB (p : Nat) : Bool := decide (p % 9223372036854775808 < 9218868437227405312)
theorem reffin_any (p : Nat) (w : World) : Calls Try.prog 61 #[.float .f64 p] w fun e w' => e = .returned (.bool (finB p)) ∧ w' = w := by
  by_cases h : p % 9223372036854775808 < 9218868437227405312
  · obtain ⟨h1, h2⟩ := order_fin h
    have e1 : (FloatKind.f64.format.order p 18442240474082181119 == some .gt || FloatKind.f64.format.order p 18442240474082181119 == some .eq) = true := h2
    have e2 : (FloatKind.f64.format.order p 9218868437227405311 == some .lt || FloatKind.f64.format.order p 9218868437227405311 == some .eq) = true := h1
    have HF := Lib.hid (show finB p = true from decide_eq_true h)
    clear h h1 h2
    go_enter Try.func61, Try.ntmps61
    go_wp2_with fail
    go_ret
    exact ⟨ret_bool HF.out.symm, rfl⟩
  · have h2 := order_not h
    have HF := Lib.hid (show finB p = false from decide_eq_false h)
    clear h
    rcases hg : (Ieee.double.order p 18442240474082181119 == some .gt || Ieee.double.order p 18442240474082181119 == some .eq) with _ | _
    · have e1 : (FloatKind.f64.format.order p 18442240474082181119 == some .gt || FloatKind.f64.format.order p 18442240474082181119 == some .eq) = false := hg
      clear h2 hg
      go_enter Try.func61, Try.ntmps61
      go_wp2_with fail
      go_ret
      exact ⟨ret_bool HF.out.symm, rfl⟩
    · rw [hg, Bool.true_and] at h2
      have e1 : (FloatKind.f64.format.order p 18442240474082181119 == some .gt || FloatKind.f64.format.order p 18442240474082181119 == some .eq) = true := hg
      have e2 : (FloatKind.f64.format.order p 9218868437227405311 == some .lt || FloatKind.f64.format.order p 9218868437227405311 == some .eq) = false := h2
      clear h2 hg
      go_enter Try.func61, Try.ntmps61
      go_wp2_with fail
      go_ret
      exact ⟨ret_bool HF.out.symm, rfl⟩
/-- the word of a zero, of 0 or of -0 -/
theorem read_zero {p : Nat} (h : p % 9223372036854775808 = 0) : Ieee.double.read p = .number (p / 9223372036854775808 % 2 == 1) 0 Ieee.double.leastPlace := by
  unfold Ieee.Format.read
  simp only [sw, ir, bi, h]
  rfl
theorem order_zero {p : Nat} : (FloatKind.f64.format.order p 0 == some .eq) = decide (p % 9223372036854775808 = 0) := by
  show ((Ieee.double.read p).order (Ieee.double.read 0) == some .eq) = _
  have r0 : Ieee.double.read 0 = .number false 0 Ieee.double.leastPlace := by decide
  rw [r0]
  by_cases h : p % 9223372036854775808 = 0
  · rw [read_zero h, decide_eq_true h]
    cases (p / 9223372036854775808 % 2 == 1) <;> rfl
  · rw [decide_eq_false h]
    have hnum : ∀ s m e, 0 < m → (Ieee.Datum.order (.number s m e) (.number false 0 Ieee.double.leastPlace) == some .eq) = false := by
      intro s m e hm
      have h0 : ∀ k, 0 < m <<< k := fun k => Nat.lt_of_lt_of_le hm (shl_ge m k)
      have key : ∀ x : Int, x ≠ 0 → (some (compare x 0) == some Ordering.eq) = false := by
        intro x hx
        rcases Int.lt_or_gt_of_ne hx with h | h
        · simp [compare, compareOfLessAndEq, h]
        · have h2 : ¬ x < 0 := by omega
          simp [compare, compareOfLessAndEq, h2, hx]
      have e0 : ∀ k, Ieee.signed false 0 k = 0 := fun k => by simp [Ieee.signed]
      have hx : Ieee.signed s m (e - min e Ieee.double.leastPlace).toNat ≠ 0 := by
        have hk := h0 (e - min e Ieee.double.leastPlace).toNat
        unfold Ieee.signed
        generalize m <<< (e - min e Ieee.double.leastPlace).toNat = y at *
        cases s <;> simp <;> omega
      simp only [Ieee.Datum.order, e0]
      exact key _ hx
    unfold Ieee.Format.read
    simp only [sw, ir, bi]
    split
    · exact hnum _ _ _ (by omega)
    · split
      · exact hnum _ _ _ (by omega)
      · split
        · cases (p / 9223372036854775808 % 2 == 1) <;> rfl
        · rfl
theorem div_zero {p : Nat} (hp : p < 18446744073709551616) (h : p % 9223372036854775808 = 0) : ∃ r, (∀ (P : Program) (w : World), (binOp .quo 83 (.float .f64 4607182418800017408) (.float .f64 p)).run P w = .ok (.float .f64 r) w) ∧ (FloatKind.f64.format.order r 0 == some .lt) = decide (p = 9223372036854775808) := by
  have hc : p = 0 ∨ p = 9223372036854775808 := by omega
  rcases hc with rfl | rfl
  · exact ⟨9218868437227405312, fun P w => run_float_arith w .quo _ .f64 _ _ _ (by decide), by decide⟩
  · exact ⟨18442240474082181120, fun P w => run_float_arith w .quo _ .f64 _ _ _ (by decide), by decide⟩
/-- is it -0? -/
theorem minus_any (p : Nat) (hp : p < 18446744073709551616) (w : World) : Calls Try.prog 62 #[.float .f64 p] w fun e w' => e = .returned (.bool (decide (p = 9223372036854775808))) ∧ w' = w := by
  have hz := order_zero (p := p)
  by_cases h : p % 9223372036854775808 = 0
  · obtain ⟨r, hr, hl⟩ := div_zero hp h
    rw [decide_eq_true h] at hz
    have hr2 := hr Try.prog w
    clear h hr
    generalize decide (p = 9223372036854775808) = d at *
    go_enter Try.func62, Try.ntmps62
    cases d
    all_goals
      go_wp2_with fail
      go_ret
      exact ⟨rfl, rfl⟩
  · rw [decide_eq_false h] at hz
    have hd := Lib.hid (show decide (p = 9223372036854775808) = false from decide_eq_false (by omega))
    clear h
    go_enter Try.func62, Try.ntmps62
    go_wp2_with fail
    go_ret
    exact ⟨ret_bool hd.out.symm, rfl⟩
end Go.Proofs.Ytkfblapfphnggaa
/- Which numbers are right: the code's and the document's tests, of an int and of a complex number. -/
namespace Go.Proofs.Ytkfblapfphnggaa
open Go.RowKit
set_option maxRecDepth 100000

theorem run_store_complex {P : Program} {w : World} {a : Addr} {m : Mode} (k : FloatKind) (p q : Nat) : (store a (.complex k p q) m).run P w = stored P w a (.complex k p q) m := run_store P w a _ m rfl
attribute [local go_sem] run_store_complex
/-- a term's nine cells -/
abbrev hdC (h : Hd) (bv lv : Value) : Array Value := #[.int .i64 h.kind, .int .i64 h.n, .complex .f64 h.re h.im, .string h.s, .int .i64 h.node, .int .u32 h.boot, .int .u64 h.idn, bv, lv]
abbrev nilV : Value := .slice none 0 0
abbrev v1 (n : Int) : Value := .agg #[.int .i64 1, .int .i64 n, .complex .f64 0 0, .string ⟨#[]⟩, .int .i64 0, .int .u32 0, .int .u64 0, nilV, nilV]
abbrev v2 (p q : Nat) : Value := .agg #[.int .i64 2, .int .i64 0, .complex .f64 p q, .string ⟨#[]⟩, .int .i64 0, .int .u32 0, .int .u64 0, nilV, nilV]
theorem cx_eql (w : World) : (binOp .eql 24 (.complex .f64 0 0) (.complex .f64 0 0)).run Try.prog w = .ok (.bool true) w := by kernel_rfl
theorem right1_any (n : Int) (w : World) : Calls Try.prog 28 #[v1 n] w (RB w (.bool (inR n))) := by
  have hcx := cx_eql
  have hI := Lib.hid (show inR n = decide (-4611686018427387904 ≤ n ∧ n ≤ 4611686018427387903) from rfl)
  rcases Int.lt_or_le n (-4611686018427387904) with h1 | h1
  · have hf : decide ((-4611686018427387904 : Int) ≤ n) = false := decide_eq_false (by omega)
    go_enter Try.func28, Try.ntmps28
    go_wp2_with fail
    go_ret
    exact ⟨ret_bool (by rw [hI.out]; simp; omega), (Below.refl _ _).alloc (Nat.le_refl _) _⟩
  · rcases Int.lt_or_le 4611686018427387903 n with h2 | h2
    · have hf : decide (n ≤ (4611686018427387903 : Int)) = false := decide_eq_false (by omega)
      go_enter Try.func28, Try.ntmps28
      go_wp2_with fail
      go_ret
      exact ⟨ret_bool (by rw [hI.out]; simp; omega), (Below.refl _ _).alloc (Nat.le_refl _) _⟩
    · go_enter Try.func28, Try.ntmps28
      go_wp2_with fail
      go_ret
      exact ⟨ret_bool (by rw [hI.out]; simp; omega), (Below.refl _ _).alloc (Nat.le_refl _) _⟩
/-- the four kinds of words: no number; -0; 0; another number -/
theorem word_kinds (p : Nat) (hp : p < 18446744073709551616) : (¬ p % 9223372036854775808 < 9218868437227405312 ∧ okF p = false) ∨
    (p % 9223372036854775808 < 9218868437227405312 ∧ (FloatKind.f64.format.order p 0 == some .eq) = true ∧ (∃ r, (∀ (P : Program) (w : World), (binOp .quo 83 (.float .f64 4607182418800017408) (.float .f64 p)).run P w = .ok (.float .f64 r) w) ∧ (FloatKind.f64.format.order r 0 == some .lt) = !okF p)) ∨
    (p % 9223372036854775808 < 9218868437227405312 ∧ (FloatKind.f64.format.order p 0 == some .eq) = false ∧ okF p = true) := by
  by_cases h : p % 9223372036854775808 < 9218868437227405312
  · by_cases h0 : p % 9223372036854775808 = 0
    · refine .inr (.inl ⟨h, by rw [order_zero, decide_eq_true h0], ?_⟩)
      obtain ⟨r, hr, hl⟩ := div_zero hp h0
      refine ⟨r, hr, hl.trans ?_⟩
      unfold okF
      rw [← decide_not]
      congr 1
      simp [h]
    · refine .inr (.inr ⟨h, by rw [order_zero, decide_eq_false h0], ?_⟩)
      unfold okF
      exact decide_eq_true ⟨h, by omega⟩
  · exact .inl ⟨h, by unfold okF; exact decide_eq_false fun k => h k.1⟩
theorem below_drewN {B : Nat} {a b : World} (h : Below B a b) (q : Nat) : Below B a (b.drewN q) := ⟨h.os, h.tape, h.output, h.size, h.block⟩
set_option maxHeartbeats 2000000 in
theorem right2_any (p q : Nat) (hp : p < 18446744073709551616) (hq : q < 18446744073709551616) (w : World) : Calls Try.prog 28 #[v2 p q] w (RB w (.bool (okF p && okF q))) := by
  have hi0 : (FloatKind.f64.format.order 0 0 == some .eq) = true := by decide
  go_enter Try.func28, Try.ntmps28
  go_wp2_with fail
  have HB1 := Lib.hid ((Below.refl w.heap.size w).alloc (Nat.le_refl _) (.cells #[.int .i64 2, .int .i64 0, .complex .f64 p q, .string ⟨#[]⟩, .int .i64 0, .int .u32 0, .int .u64 0, nilV, nilV] 31))
  go_quiet (fail)
  go_wp2_with fail
  rcases word_kinds p hp with ⟨hfp, hop⟩ | ⟨hfp, hzp, rp, hrp, hop⟩ | ⟨hfp, hzp, hop⟩
  · refine (finite_no p hfp _).mono ?_
    rintro e w2 ⟨rfl, rfl⟩
    rw [hop]
    go_wp2_with fail
    go_ret
    exact ⟨ret_bool (by rw [hop]; rfl), below_drewN HB1.out _⟩
  · have hr1 := hrp Try.prog
    clear hrp
    refine (finite_yes p hfp _).mono ?_
    rintro e w2 ⟨rfl, rfl⟩
    go_wp2_with fail
    rcases word_kinds q hq with ⟨hfq, hoq⟩ | ⟨hfq, hzq, rq, hrq, hoq⟩ | ⟨hfq, hzq, hoq⟩
    · refine (finite_no q hfq _).mono ?_
      rintro e w2 ⟨rfl, rfl⟩
      go_wp2_with fail
      go_ret
      exact ⟨ret_bool (by rw [hoq, Bool.and_false]), below_drewN HB1.out _⟩
    · have hr2 := hrq Try.prog
      clear hrq
      refine (finite_yes q hfq _).mono ?_
      rintro e w2 ⟨rfl, rfl⟩
      generalize okF p = dp at *
      generalize okF q = dq at *
      cases dp <;> cases dq
      all_goals
        go_wp2_with fail
        go_ret
        exact ⟨ret_bool (by simp [*]), below_drewN HB1.out _⟩
    · refine (finite_yes q hfq _).mono ?_
      rintro e w2 ⟨rfl, rfl⟩
      rw [hoq]
      generalize okF p = dp at *
      cases dp
      all_goals
        go_wp2_with fail
        go_ret
        exact ⟨ret_bool (by simp [*]), below_drewN HB1.out _⟩
  · refine (finite_yes p hfp _).mono ?_
    rintro e w2 ⟨rfl, rfl⟩
    rw [hop]
    go_wp2_with fail
    rcases word_kinds q hq with ⟨hfq, hoq⟩ | ⟨hfq, hzq, rq, hrq, hoq⟩ | ⟨hfq, hzq, hoq⟩
    · refine (finite_no q hfq _).mono ?_
      rintro e w2 ⟨rfl, rfl⟩
      go_wp2_with fail
      go_ret
      exact ⟨ret_bool (by rw [hoq, Bool.and_false]), below_drewN HB1.out _⟩
    · have hr2 := hrq Try.prog
      clear hrq
      refine (finite_yes q hfq _).mono ?_
      rintro e w2 ⟨rfl, rfl⟩
      generalize okF q = dq at *
      cases dq
      all_goals
        go_wp2_with fail
        go_ret
        exact ⟨ret_bool (by simp [*]), below_drewN HB1.out _⟩
    · refine (finite_yes q hfq _).mono ?_
      rintro e w2 ⟨rfl, rfl⟩
      rw [hoq]
      go_wp2_with fail
      go_ret
      exact ⟨ret_bool (by simp [*]), below_drewN HB1.out _⟩
end Go.Proofs.Ytkfblapfphnggaa
/- A term in memory. -/
namespace Go.Proofs.Ytkfblapfphnggaa
open Go.RowKit
set_option maxRecDepth 100000

/-- a slice of the call's own, in blocks of F -/
def Row (w : World) (F : Nat → Prop) (e : TypeId) (size : Nat) (v : Value) (n : Nat) (xs : List Value) : Prop := w.ownsRow 0 e size v n xs ∧ (∀ b, v.ownBlock = some b → F b) ∧ (n = 0 → v = nilV)
theorem Row.nil (w : World) (F : Nat → Prop) (e : TypeId) (size : Nat) : Row w F e size nilV 0 [] := ⟨World.ownsRow_nil _ _ _ _, (fun b e => by cases e), fun _ => rfl⟩
theorem Row.keep {w w' : World} {F : Nat → Prop} {e : TypeId} {size : Nat} {v : Value} {n : Nat} {xs : List Value} (h : Row w F e size v n xs) (hs : ∀ b, F b → b < w.heap.size → w'.heap[b]? = w.heap[b]?) : Row w' F e size v n xs :=
  ⟨row_same h.1 fun b e hb => hs b (h.2.1 b e) hb, h.2⟩
theorem Row.mono {w : World} {F F' : Nat → Prop} {e : TypeId} {size : Nat} {v : Value} {n : Nat} {xs : List Value} (h : Row w F e size v n xs) (hF : ∀ b, F b → b < w.heap.size → F' b) : Row w F' e size v n xs :=
  ⟨h.1, fun b e => hF b (h.2.1 b e) (h.1.lt b e).2, h.2.2⟩
/-- the cells of several parts, one behind the other -/
def cat (vs : List (Array Value)) : List Value := vs.flatMap Array.toList
mutual
/-- these nine cells hold a term, whose lists lie in blocks of F -/
def Rep (w : World) (F : Nat → Prop) : Tm → Array Value → Prop
  | .mk h l, c => ∃ bv lv, c = hdC h bv lv ∧ Row w F 5 1 bv h.b.length (h.b.map cellB) ∧ ∃ vs, Row w F 31 9 lv l.length (cat vs) ∧ Reps w F l vs
def Reps (w : World) (F : Nat → Prop) : List Tm → List (Array Value) → Prop
  | [], vs => vs = []
  | t :: l, vs => ∃ c r, vs = c :: r ∧ Rep w F t c ∧ Reps w F l r
end
mutual
theorem Rep.keep {w w' : World} {F : Nat → Prop} (hs : ∀ b, F b → b < w.heap.size → w'.heap[b]? = w.heap[b]?) : ∀ (t : Tm) (c : Array Value), Rep w F t c → Rep w' F t c
  | .mk _ l, _ => fun ⟨bv, lv, e, hb, vs, hl, hr⟩ => ⟨bv, lv, e, hb.keep hs, vs, hl.keep hs, Reps.keep hs l vs hr⟩
theorem Reps.keep {w w' : World} {F : Nat → Prop} (hs : ∀ b, F b → b < w.heap.size → w'.heap[b]? = w.heap[b]?) : ∀ (l : List Tm) (vs : List (Array Value)), Reps w F l vs → Reps w' F l vs
  | [], _ => fun h => h
  | t :: l, _ => fun ⟨c, r, e, h1, h2⟩ => ⟨c, r, e, Rep.keep hs t c h1, Reps.keep hs l r h2⟩
end
mutual
theorem Rep.mono {w : World} {F F' : Nat → Prop} (hF : ∀ b, F b → b < w.heap.size → F' b) : ∀ (t : Tm) (c : Array Value), Rep w F t c → Rep w F' t c
  | .mk _ l, _ => fun ⟨bv, lv, e, hb, vs, hl, hr⟩ => ⟨bv, lv, e, hb.mono hF, vs, hl.mono hF, Reps.mono hF l vs hr⟩
theorem Reps.mono {w : World} {F F' : Nat → Prop} (hF : ∀ b, F b → b < w.heap.size → F' b) : ∀ (l : List Tm) (vs : List (Array Value)), Reps w F l vs → Reps w F' l vs
  | [], _ => fun h => h
  | t :: l, _ => fun ⟨c, r, e, h1, h2⟩ => ⟨c, r, e, Rep.mono hF t c h1, Reps.mono hF l r h2⟩
end
theorem Rep.size {w : World} {F : Nat → Prop} : ∀ {t : Tm} {c : Array Value}, Rep w F t c → c.size = 9
  | .mk _ _, _, ⟨_, _, e, _⟩ => by rw [e]; rfl
theorem Reps.snoc {w : World} {F : Nat → Prop} {t : Tm} {c : Array Value} (h : Rep w F t c) : ∀ {l : List Tm} {vs : List (Array Value)}, Reps w F l vs → Reps w F (l ++ [t]) (vs ++ [c])
  | [], vs, h0 => by
    have : vs = [] := h0
    subst this
    exact ⟨c, [], rfl, h, rfl⟩
  | _ :: _, _, ⟨d, r, e, h1, h2⟩ => by
    subst e
    exact ⟨d, r ++ [c], rfl, h1, Reps.snoc h h2⟩
theorem cat_snoc (vs : List (Array Value)) (c : Array Value) : cat (vs ++ [c]) = cat vs ++ c.toList := by simp [cat]
end Go.Proofs.Ytkfblapfphnggaa
/- The document's test of numbers. -/
namespace Go.Proofs.Ytkfblapfphnggaa
open Go.RowKit
set_option maxRecDepth 100000
attribute [local go_sem] run_store_complex

theorem in_any (n : Int) (hn : (Lit.int .i64 n).wf = true) (w : World) : Calls Try.prog 60 #[.int .i64 n] w fun e w' => e = .returned (.bool (inR n)) ∧ w' = w := by
  have hI := Lib.hid (show inR n = decide (-4611686018427387904 ≤ n ∧ n ≤ 4611686018427387903) from rfl)
  have hd : n.tdiv 2 * 2 + n.tmod 2 = n := Int.tdiv_mul_add_tmod n 2
  have hm : (0 ≤ n → 0 ≤ n.tmod 2 ∧ n.tmod 2 ≤ 1) ∧ (n ≤ 0 → n.tmod 2 ≤ 0 ∧ -1 ≤ n.tmod 2) := by
    constructor
    · intro h
      rw [Int.tmod_eq_emod_of_nonneg h]
      omega
    · intro h
      have : n.tmod 2 = -((-n) % 2) := by rw [← Int.tmod_eq_emod_of_nonneg (by omega), Int.neg_tmod, Int.neg_neg]
      omega
  obtain ⟨hn1, hn2⟩ : -9223372036854775808 ≤ n ∧ n ≤ 9223372036854775807 := by simpa [Lit.wf, IntKind.min, IntKind.max, IntKind.signed, IntKind.bits] using hn
  have hw : wrap64 (n.tdiv 2) = n.tdiv 2 := by
    unfold wrap64
    omega
  generalize hq : n.tdiv 2 = q at *
  generalize hr : n.tmod 2 = r at *
  go_enter Try.func60, Try.ntmps60
  go_wp2_with fail
  all_goals
    go_ret
    exact ⟨ret_bool (by rw [hI.out, Bool.eq_iff_iff]; simp <;> omega), rfl⟩
theorem bare1 (n : Int) (w : World) : Calls Try.prog 59 #[v1 n] w (RB w (.bool true)) := by
  go_enter Try.func59, Try.ntmps59
  go_wp2_with fail
  go_ret
  exact ⟨rfl, (Below.refl _ _).alloc (Nat.le_refl _) _⟩
theorem bare2 (p q : Nat) (w : World) : Calls Try.prog 59 #[v2 p q] w (RB w (.bool true)) := by
  go_enter Try.func59, Try.ntmps59
  go_wp2_with fail
  go_ret
  exact ⟨rfl, (Below.refl _ _).alloc (Nat.le_refl _) _⟩
theorem new_cells (w : World) (cs : Array Value) (t : TypeId) {w1 : World} (hb : Below (w.alloc (.cells cs t)).heap.size (w.alloc (.cells cs t)) w1) (i : Nat) (h : i < cs.size) : w1.cell? ⟨w.heap.size, i, none⟩ = some cs[i] := by
  have hh := (hb.block w.heap.size (by simp)).trans (heap_new w _)
  simp [World.cell?, hh, h]
theorem refright1 (n : Int) (hn : (Lit.int .i64 n).wf = true) (w : World) : Calls Try.prog 33 #[v1 n] w (RB w (.bool (inR n))) := by
  have hi0 : (FloatKind.f64.format.order 0 0 == some .eq) = true := by decide
  have HI := Lib.hid (in_any n hn)
  go_enter Try.func33, Try.ntmps33
  go_wp2_with fail
  refine (bare1 n _).mono ?_
  rintro e w1 ⟨rfl, hb⟩
  have k0 : w1.cell? ⟨w.heap.size, 0, none⟩ = some (.int .i64 1) := new_cells _ _ _ hb 0 (by simp)
  have k1 : w1.cell? ⟨w.heap.size, 1, none⟩ = some (.int .i64 n) := new_cells _ _ _ hb 1 (by simp)
  have k2 : w1.cell? ⟨w.heap.size, 2, none⟩ = some (.complex .f64 0 0) := new_cells _ _ _ hb 2 (by simp)
  have HB := Lib.hid (((Below.refl w.heap.size w).alloc (Nat.le_refl _) _).trans (hb.mono (by simp)))
  clear hb
  go_wp2_with fail
  refine (HI.out _).mono ?_
  rintro e w2 ⟨rfl, rfl⟩
  go_wp2_with fail
  go_ret
  exact ⟨ret_bool (by simp), HB.out⟩
theorem okF_eq (p : Nat) : okF p = (finB p && !decide (p = 9223372036854775808)) := by
  unfold okF finB
  rw [Bool.eq_iff_iff]
  simp
theorem refright2 (p q : Nat) (hp : p < 18446744073709551616) (hq : q < 18446744073709551616) (w : World) : Calls Try.prog 33 #[v2 p q] w (RB w (.bool (okF p && okF q))) := by
  have H1 := Lib.hid (reffin_any p)
  have H2 := Lib.hid (reffin_any q)
  have H3 := Lib.hid (minus_any p hp)
  have H4 := Lib.hid (minus_any q hq)
  have H5 := Lib.hid (okF_eq p)
  have H6 := Lib.hid (okF_eq q)
  generalize finB p = fp at *
  generalize finB q = fq at *
  generalize decide (p = 9223372036854775808) = mp at *
  generalize decide (q = 9223372036854775808) = mq at *
  go_enter Try.func33, Try.ntmps33
  go_wp2_with fail
  refine (bare2 p q _).mono ?_
  rintro e w1 ⟨rfl, hb⟩
  have k0 : w1.cell? ⟨w.heap.size, 0, none⟩ = some (.int .i64 2) := new_cells _ _ _ hb 0 (by simp)
  have k1 : w1.cell? ⟨w.heap.size, 1, none⟩ = some (.int .i64 0) := new_cells _ _ _ hb 1 (by simp)
  have k2 : w1.cell? ⟨w.heap.size, 2, none⟩ = some (.complex .f64 p q) := new_cells _ _ _ hb 2 (by simp)
  have HB := Lib.hid (((Below.refl w.heap.size w).alloc (Nat.le_refl _) _).trans (hb.mono (by simp)))
  clear hb
  go_wp2_with fail
  refine (H1.out _).mono ?_
  rintro e w2 ⟨rfl, rfl⟩
  cases fp
  · go_wp2_with fail
    go_ret
    exact ⟨ret_bool (by rw [H5.out]; rfl), HB.out⟩
  · go_wp2_with fail
    refine (H2.out _).mono ?_
    rintro e w3 ⟨rfl, rfl⟩
    cases fq
    · go_wp2_with fail
      go_ret
      exact ⟨ret_bool (by rw [H6.out]; simp), HB.out⟩
    · go_wp2_with fail
      refine (H3.out _).mono ?_
      rintro e w3 ⟨rfl, rfl⟩
      cases mp
      · go_wp2_with fail
        refine (H4.out _).mono ?_
        rintro e w3 ⟨rfl, rfl⟩
        go_wp2_with fail
        go_ret
        exact ⟨ret_bool (by rw [H5.out, H6.out]; simp), HB.out⟩
      · go_wp2_with fail
        go_ret
        exact ⟨ret_bool (by rw [H5.out]; rfl), HB.out⟩
end Go.Proofs.Ytkfblapfphnggaa
/- The table of kinds. -/
namespace Go.Proofs.Ytkfblapfphnggaa
open Go.RowKit
set_option maxRecDepth 100000
attribute [local go_sem] run_store_complex

/-- the table of kinds -/
abbrev fv (k : Nat) : Value := .func (.func k) #[] #[]
abbrev kTab : Array Value := #[.nilFunc, .nilFunc, fv 48, fv 42, fv 49, fv 42, fv 50, fv 51, fv 46, fv 43, fv 46, fv 43, fv 47, fv 45, fv 47, fv 45, fv 53, fv 45]
abbrev zTab : Array Value := #[.nilFunc, .nilFunc, .nilFunc, .nilFunc, .nilFunc, .nilFunc, .nilFunc, .nilFunc, .nilFunc, .nilFunc, .nilFunc, .nilFunc, .nilFunc, .nilFunc, .nilFunc, .nilFunc, .nilFunc, .nilFunc]
theorem setRow_new (w : World) (old cells : Array Value) (t : TypeId) : (w.alloc (.cells old t)).setRow w.heap.size cells = w.alloc (.cells cells t) := by
  unfold World.setRow World.alloc
  congr 1
  apply Array.ext_getElem?
  intro k
  simp only [Array.getElem?_modify, Array.getElem?_push]
  by_cases hk : w.heap.size = k
  · subst hk; simp
  · have : ¬ k = w.heap.size := fun e => hk e.symm
    simp [hk, this]
set_option maxRecDepth 100000 in
theorem kinds_any (w : World) : Calls Try.prog 24 #[] w (RB w (.agg kTab)) := by
  go_enter Try.func24, Try.ntmps24
  have hi56 : (Try.prog.info? 72).map (·.size) = some kTab.size := by kernel_rfl
  have hall : kTab.all (·.oneCell') = true := by kernel_rfl
  go_wp2_with (refine wpList_store_row rfl 72 (.tmp 0) (.tmp 25) rfl w.heap.size kTab rfl rfl 72 zTab (heap_new _ _) hi56 rfl hall ?_; rw [setRow_new])
  exact bodyPost_ret (v := .agg kTab) (by simp [results, Try.results24, go_sem]) rfl ⟨rfl, (Below.refl w.heap.size w).alloc (Nat.le_refl _) _⟩
end Go.Proofs.Ytkfblapfphnggaa
