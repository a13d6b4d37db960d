/- Several texts in one. -/
import Derived.Test.YtgadkiljnebicaaD03
import Derived.Test.YtgadkiljnebicaaD04
import Derived.WalkMore
import Derived.ScopeJumps
import Derived.Laws.BitsLemmas
import Derived.Test.YtgadkiljnebicaaD02
namespace Go.Proofs.Ytgadkiljnebicaa
open Go.Lib (hid)
open Go.RowKit
set_option maxRecDepth 100000
theorem nan_bits (t : Nat) : ∃ s u,Ieee.double.read ((t % 2) * 2 ^ 63 + 0x7ff0000000000000 + 1 + (t / 2) % (2 ^ 52 - 1)) = .nan s u := by
 unfold Ieee.Format.read
 simp only [sw,ir,bi]
 have h1 : ((t % 2) * 2 ^ 63 + 0x7ff0000000000000 + 1 + (t / 2) % (2 ^ 52 - 1)) % 9223372036854775808 = 0x7ff0000000000000 + 1 + (t / 2) % (2 ^ 52 - 1) := by omega
 rw [h1,if_neg (by omega),if_neg (by omega),if_neg (by omega)]
 exact ⟨_,_,rfl⟩
theorem run_sub_nan (P : Program) (ty : TypeId) (p : Nat) (h : Ieee.double.sub p p = none) (w : World) : ∃ r,(binOp .sub ty (.float .f64 p) (.float .f64 p)).run P w = .ok (.float .f64 r) w.drew ∧ ∃ s u,Ieee.double.read r = .nan s u := by
 refine ⟨_,?_,nan_bits (w.tape w.drawn (.nanBits .f64 p p))⟩
 have h' : FloatKind.f64.format.sub p p = none := h
 simp [binOp,Op.floatArith,h',Question.forced,Question.cut]
theorem finite_yes (p : Nat) (h : p % 9223372036854775808 < 9218868437227405312) (w : World) : Calls Try.prog 59 #[.float .f64 p] w fun e w' => e = .returned (.bool true) ∧ w' = w := by
 have hs : (binOp .sub 102 (.float .f64 p) (.float .f64 p)).run Try.prog w = .ok (.float .f64 0) w := run_float_arith w .sub _ .f64 p p 0 (sub_self_fin h)
 have he : (FloatKind.f64.format.order 0 0 == some .eq) = true := by decide
 go_enter Try.func59,Try.ntmps59
 go_wp2_with fail
 go_ret
 exact ⟨rfl,rfl⟩
theorem finite_no (p : Nat) (h : ¬ p % 9223372036854775808 < 9218868437227405312) (w : World) : Calls Try.prog 59 #[.float .f64 p] w fun e w' => e = .returned (.bool false) ∧ w' = w.drew := by
 obtain ⟨r,hs,s,u,hn⟩ := run_sub_nan Try.prog 102 p (sub_self_not h) w
 have he : (FloatKind.f64.format.order r 0 == some .eq) = false := by
  have : FloatKind.f64.format.order r 0 = none := by
   show (Ieee.double.read r).order _ = none
   rw [hn]
   rfl
  rw [this]
  rfl
 clear hn h
 go_enter Try.func59,Try.ntmps59
 go_wp2_with fail
 go_ret
 exact ⟨rfl,rfl⟩
def finB (p : Nat) : Bool := decide (p % 9223372036854775808 < 9218868437227405312)
theorem reffin_any (p : Nat) (w : World) : Calls Try.prog 78 #[.float .f64 p] w fun e w' => e = .returned (.bool (finB p)) ∧ w' = w := by
 by_cases h : p % 9223372036854775808 < 9218868437227405312
 ·obtain ⟨h1,h2⟩ := order_fin h
  have e1 : (FloatKind.f64.format.order p 18442240474082181119 == some .gt || FloatKind.f64.format.order p 18442240474082181119 == some .eq) = true := h2
  have e2 : (FloatKind.f64.format.order p 9218868437227405311 == some .lt || FloatKind.f64.format.order p 9218868437227405311 == some .eq) = true := h1
  have HF := hid (show finB p = true from decide_eq_true h)
  clear h h1 h2
  go_enter Try.func78,Try.ntmps78
  go_wp2_with fail
  go_ret
  exact ⟨ret_bool HF.out.symm,rfl⟩
 ·have h2 := order_not h
  have HF := hid (show finB p = false from decide_eq_false h)
  clear h
  rcases hg : (Ieee.double.order p 18442240474082181119 == some .gt || Ieee.double.order p 18442240474082181119 == some .eq) with _ | _
  ·have e1 : (FloatKind.f64.format.order p 18442240474082181119 == some .gt || FloatKind.f64.format.order p 18442240474082181119 == some .eq) = false := hg
   clear h2 hg
   go_enter Try.func78,Try.ntmps78
   go_wp2_with fail
   go_ret
   exact ⟨ret_bool HF.out.symm,rfl⟩
  ·rw [hg,Bool.true_and] at h2
   have e1 : (FloatKind.f64.format.order p 18442240474082181119 == some .gt || FloatKind.f64.format.order p 18442240474082181119 == some .eq) = true := hg
   have e2 : (FloatKind.f64.format.order p 9218868437227405311 == some .lt || FloatKind.f64.format.order p 9218868437227405311 == some .eq) = false := h2
   clear h2 hg
   go_enter Try.func78,Try.ntmps78
   go_wp2_with fail
   go_ret
   exact ⟨ret_bool HF.out.symm,rfl⟩
theorem read_zero {p : Nat} (h : p % 9223372036854775808 = 0) : Ieee.double.read p = .number (p / 9223372036854775808 % 2 == 1) 0 Ieee.double.leastPlace := by
 unfold Ieee.Format.read
 simp only [sw,ir,bi,h]
 rfl
theorem order_zero {p : Nat} : (FloatKind.f64.format.order p 0 == some .eq) = decide (p % 9223372036854775808 = 0) := by
 show ((Ieee.double.read p).order (Ieee.double.read 0) == some .eq) = _
 have r0 : Ieee.double.read 0 = .number false 0 Ieee.double.leastPlace := by decide
 rw [r0]
 by_cases h : p % 9223372036854775808 = 0
 ·rw [read_zero h,decide_eq_true h]
  cases (p / 9223372036854775808 % 2 == 1) <;> rfl
 ·rw [decide_eq_false h]
  have hnum : ∀ s m e,0 < m → (Ieee.Datum.order (.number s m e) (.number false 0 Ieee.double.leastPlace) == some .eq) = false := by
   intro s m e hm
   have h0 : ∀ k,0 < m <<< k := fun k => Nat.lt_of_lt_of_le hm (shl_ge m k)
   have key : ∀ x : Int,x ≠ 0 → (some (compare x 0) == some Ordering.eq) = false := by
    intro x hx
    rcases Int.lt_or_gt_of_ne hx with h | h
    ·simp [compare,compareOfLessAndEq,h]
    ·have h2 : ¬ x < 0 := by omega
     simp [compare,compareOfLessAndEq,h2,hx]
   have e0 : ∀ k,Ieee.signed false 0 k = 0 := fun k => by simp [Ieee.signed]
   have hx : Ieee.signed s m (e - min e Ieee.double.leastPlace).toNat ≠ 0 := by
    have hk := h0 (e - min e Ieee.double.leastPlace).toNat
    unfold Ieee.signed
    generalize m <<< (e - min e Ieee.double.leastPlace).toNat = y at *
    cases s <;> simp <;> omega
   simp only [Ieee.Datum.order,e0]
   exact key _ hx
  unfold Ieee.Format.read
  simp only [sw,ir,bi]
  split
  ·exact hnum _ _ _ (by omega)
  ·split
   ·exact hnum _ _ _ (by omega)
   ·split
    ·cases (p / 9223372036854775808 % 2 == 1) <;> rfl
    ·rfl
theorem div_zero {p : Nat} (hp : p < 18446744073709551616) (h : p % 9223372036854775808 = 0) : ∃ r,(∀ (P : Program) (w : World),(binOp .quo 102 (.float .f64 4607182418800017408) (.float .f64 p)).run P w = .ok (.float .f64 r) w) ∧ (FloatKind.f64.format.order r 0 == some .lt) = decide (p = 9223372036854775808) := by
 have hc : p = 0 ∨ p = 9223372036854775808 := by omega
 rcases hc with rfl | rfl
 ·exact ⟨9218868437227405312,fun P w => run_float_arith w .quo _ .f64 _ _ _ (by decide),by decide⟩
 ·exact ⟨18442240474082181120,fun P w => run_float_arith w .quo _ .f64 _ _ _ (by decide),by decide⟩
theorem minus_any (p : Nat) (hp : p < 18446744073709551616) (w : World) : Calls Try.prog 79 #[.float .f64 p] w fun e w' => e = .returned (.bool (decide (p = 9223372036854775808))) ∧ w' = w := by
 have hz := order_zero (p := p)
 by_cases h : p % 9223372036854775808 = 0
 ·obtain ⟨r,hr,hl⟩ := div_zero hp h
  rw [decide_eq_true h] at hz
  have hr2 := hr Try.prog w
  clear h hr
  generalize decide (p = 9223372036854775808) = d at *
  go_enter Try.func79,Try.ntmps79
  cases d
  all_goals
   go_wp2_with fail
   go_ret
   exact ⟨rfl,rfl⟩
 ·rw [decide_eq_false h] at hz
  have hd := hid (show decide (p = 9223372036854775808) = false from decide_eq_false (by omega))
  clear h
  go_enter Try.func79,Try.ntmps79
  go_wp2_with fail
  go_ret
  exact ⟨ret_bool hd.out.symm,rfl⟩
theorem oneP_ok {bs : List UInt8} {s s' : St} {c : Nat} (h : oneP bs s = .ok (c,s')) : c < 256 ∧ s' = { s with i := s.i + 1 } ∧ s.i < bs.length := by
 unfold oneP at h
 cases hb : bs[s.i]? with
 | none => rw [hb] at h; cases h
 | some x =>
  rw [hb] at h
  cases h
  exact ⟨x.toNat_lt,rfl,(List.getElem?_eq_some_iff.1 hb).1⟩
theorem wrap_u64_nat (n : Nat) (h : n < 18446744073709551616) : IntKind.u64.wrap (n : Int) = n := by
 simp [IntKind.wrap,IntKind.bits,IntKind.signed]
 omega
theorem and127 (c : Nat) (hc : c < 256) : bits .and .u8 (c : Int) 127 = ((c % 128 : Nat) : Int) := by
 have := bits_mask .u8 8 (by decide) wraps_u8 7 (by decide) (c : Int) (by omega) (by omega)
 rw [show ((2 : Int) ^ 7 - 1) = 127 by decide] at this
 rw [this]
 simp
theorem pow_le9 {k : Nat} (h : k ≤ 9) : 2 ^ (7 * k) ≤ 2 ^ 63 := Nat.pow_le_pow_right (by decide) (by omega)
theorem lt_shl {d k : Nat} (hd : d < 128) (hk : k ≤ 9) (h9 : k = 9 → d ≤ 1) : d * 2 ^ (7 * k) < 18446744073709551616 := by
 by_cases e : k = 9
 ·have := h9 e
  subst e
  calc d * 2 ^ (7 * 9) ≤ 1 * 2 ^ (7 * 9) := Nat.mul_le_mul_right _ this
   _ < _ := by decide
 ·calc d * 2 ^ (7 * k) ≤ 127 * 2 ^ (7 * 8) := Nat.mul_le_mul (by omega) (Nat.pow_le_pow_right (by decide) (by omega))
   _ < _ := by decide
theorem wrapK (d k : Nat) (hd : d < 128) (hk : k ≤ 9) (h9 : k = 9 → d ≤ 1) : IntKind.u64.wrap ((d : Int) * 2 ^ (7 * k)) = ((d * 2 ^ (7 * k) : Nat) : Int) := by
 have e2 : ((d : Int) * 2 ^ (7 * k)) = ((d * 2 ^ (7 * k) : Nat) : Int) := by simp
 rw [e2,wrap_u64_nat _ (lt_shl hd hk h9)]
theorem wraps_u64 (n : Int) (h₀ : 0 ≤ n) (h₁ : n < 2 ^ 64) : IntKind.u64.wrap n = n := by
 obtain ⟨a,rfl⟩ := Int.eq_ofNat_of_zero_le h₀
 exact wrap_u64_nat a (by omega)
theorem orK (acc d k : Nat) (ha : acc < 2 ^ (7 * k)) (hd : d < 128) (hk : k ≤ 9) (h9 : k = 9 → d ≤ 1) : bits .or .u64 (acc : Int) ((d * 2 ^ (7 * k) : Nat) : Int) = ((acc + d * 2 ^ (7 * k) : Nat) : Int) := by
 have h1 : acc < 2 ^ 64 := Nat.lt_of_lt_of_le ha (Nat.le_trans (pow_le9 hk) (by decide))
 rw [(bits_nat .u64 64 (by decide) wraps_u64 acc _ h1 (lt_shl hd hk h9)).2,Nat.or_comm,Nat.mul_comm,← Nat.two_pow_add_eq_or_of_lt ha d,Nat.add_comm]
theorem acc_lt {acc d k : Nat} (ha : acc < 2 ^ (7 * k)) (hd : d < 128) : acc + d * 2 ^ (7 * k) < 2 ^ (7 * (k + 1)) := by
 have e : 2 ^ (7 * (k + 1)) = 128 * 2 ^ (7 * k) := by rw [Nat.mul_add,Nat.pow_add,Nat.mul_comm]
 rw [e]
 calc acc + d * 2 ^ (7 * k) < 2 ^ (7 * k) + d * 2 ^ (7 * k) := by omega
  _ = (d + 1) * 2 ^ (7 * k) := by rw [Nat.add_mul]; omega
  _ ≤ 128 * 2 ^ (7 * k) := Nat.mul_le_mul_right _ (by omega)
def wideJ (R p m : Nat) (v bv : Value) (bs : List UInt8) (W : World) (r0 : Except Int (Nat × St)) (a : Act) (w : World) : Prop :=
 ∃ (rest k acc : Nat) (s : St) (t : List Value),a = { tmps := (Value.pointer (some ⟨R,0,none⟩) :: undef :: .int .u64 0 :: .int .u64 acc :: .int .i64 k :: t).toArray,defers := [] } ∧ t.length = 32 ∧ k + rest = 9 ∧ acc < 2 ^ (7 * k) ∧
  RdAt w R p m v bv bs s ∧ Turn (fun i => i = R) W w ∧ wideP bs (rest + 1) k acc s = r0
set_option maxHeartbeats 1000000 in
theorem wide_any (R p m : Nat) (v bv : Value) (bs : List UInt8) (s : St) (w : World) (h : RdAt w R p m v bv bs s) :
  Calls Try.prog 40 #[.pointer (some ⟨R,0,none⟩)] w (P1 R p m v bv bs w (fun c => .int .u64 (c : Nat)) (wideN bs s)) := by
 have H := hid h
 clear h
 go_enter Try.func40,Try.ntmps40
 go_wp2_with fail
 have hJ : wideJ R p m v bv bs w (wideN bs s) { tmps := #[.pointer (some ⟨R,0,none⟩),undef,.int .u64 0,.int .u64 0,.int .i64 0,undef,undef,undef,undef,undef,undef,undef,undef,undef,undef,undef,undef,undef,undef,undef,undef,undef,undef,undef,undef,undef,undef,undef,undef,undef,undef,undef,undef,undef,undef,undef,undef],defers := [] } w :=
  ⟨9,0,0,s,[undef,undef,undef,undef,undef,undef,undef,undef,undef,undef,undef,undef,undef,undef,undef,undef,undef,undef,undef,undef,undef,undef,undef,undef,undef,undef,undef,undef,undef,undef,undef,undef],by simp,by simp,rfl,by decide,H.out,Turn.refl _ _,rfl⟩
 have key : ∃ X,findLabel (match Try.f40.body with | some (.seq _ (.scope c)) => c | _ => .skip) 0 = some (.seq .skip X) ∧ ∀ a1 w1,wideJ R p m v bv bs w (wideN bs s) a1 w1 → Code.wp Try.prog X (Exit.jump 0 (fun a' w' => wideJ R p m v bv bs w (wideN bs s) a' w' ∧ 10 - (intOf (a'.tmps.getD 4 undef)).toNat < 10 - (intOf (a1.tmps.getD 4 undef)).toNat) (bodyPost Try.prog Try.f40 (P1 R p m v bv bs w (fun c => .int .u64 (c : Nat)) (wideN bs s)))) a1 w1 := by
  refine ⟨_,rfl,?_⟩
  rintro a w1 ⟨rest,k,acc,s1,t,rfl,ht,hk,hacc,hR,hT,hr⟩
  have HR := hid hR
  have HT := hid hT
  have HK := hid hr
  clear hR hT hr H
  match t,ht with
  | [t5,t6,t7,t8,t9,t10,t11,t12,t13,t14,t15,t16,t17,t18,t19,t20,t21,t22,t23,t24,t25,t26,t27,t28,t29,t30,t31,t32,t33,t34,t35,t36],_ =>
  have H1 := hid (one_any R p m v bv bs s1 w1 HR.out)
  cases ho : oneP bs s1 with
  | error x =>
   have HO := hid (show wideN bs s = .error x by rw [← HK.out]; simp only [wideP,ho])
   rw [ho] at H1
   clear ho
   go_wp2_with fail
   refine H1.out.mono ?_
   rintro e w2 ⟨rfl,hT2⟩
   go_wp2_with fail
   refine ⟨rfl,?_⟩
   rw [HO.out]
   exact ⟨rfl,HT.out.trans hT2⟩
  | ok y =>
   obtain ⟨c,s2⟩ := y
   obtain ⟨hc,_,_⟩ := oneP_ok ho
   have HO := hid (show wideN bs s = if k = 9 ∧ 1 < c then .error 73
    else if 128 ≤ c then wideP bs rest (k + 1) (acc + c % 128 * 2 ^ (7 * k)) s2
    else if c = 0 ∧ 0 < k then .error 73
    else .ok (acc + c % 128 * 2 ^ (7 * k),s2) by rw [← HK.out]; simp only [wideP,ho])
   rw [ho] at H1
   clear ho
   by_cases hA : k = 9 ∧ 1 < c
   ·have HW := hid (show wideN bs s = .error 73 by rw [HO.out,if_pos hA])
    obtain ⟨rfl,hA2⟩ := hA
    have hA3 : (1 : Int) < (c : Int) := by omega
    clear HO
    go_wp2_with fail
    refine H1.out.mono ?_
    rintro e w2 ⟨rfl,hR2,hT2⟩
    have HT2 := hid hT2
    clear hT2 hR2
    go_wp2_with fail
    refine (fail_any _ 73 _).mono ?_
    rintro e w3 ⟨rfl,rfl⟩
    go_wp2_with fail
    refine ⟨rfl,?_⟩
    rw [HW.out]
    exact ⟨rfl,HT.out.trans HT2.out⟩
   ·have hd : c % 128 < 128 := Nat.mod_lt _ (by decide)
    have h9 : k = 9 → c % 128 ≤ 1 := fun e => by omega
    have hand := and127 c hc
    have HS := hid (wrapK (c % 128) k hd (by omega) h9)
    have HOr := hid (orK acc (c % 128) k hacc hd (by omega) h9)
    have HL := hid (acc_lt (k := k) hacc hd)
    have hk9 : k ≤ 9 := by omega
    have hw := wrap_u64_nat (c % 128) (by omega)
    rw [if_neg hA] at HO
    generalize c % 128 * 2 ^ (7 * k) = y at *
    generalize c % 128 = d at *
    have HS2 := HS.out
    have HOr2 := HOr.out
    by_cases hB : 128 ≤ c
    ·have hk' : ¬ k = 9 := fun e => by omega
     have hk2 : ((k : Int) == 9) = false := by rw [beq_eq_false_iff_ne]; omega
     have hB2 : (128 : Int) ≤ (c : Int) := by omega
     rw [if_pos hB] at HO
     clear HS HOr
     go_wp2_with fail
     refine H1.out.mono ?_
     rintro e w2 ⟨rfl,hR2,hT2⟩
     have HR2 := hid hR2
     have HT2 := hid hT2
     clear hT2 hR2
     go_wp2_with fail
     go_step3
     obtain ⟨r,rfl⟩ : ∃ r,rest = r + 1 := ⟨rest - 1,by omega⟩
     refine ⟨rfl,⟨r,k + 1,acc + y,s2,_,rfl,rfl,by omega,HL.out,HR2.out,HT.out.trans HT2.out,HO.out.symm⟩,?_⟩
     simp [intOf]
     omega
    ·have hB2 : (c : Int) < 128 := by omega
     rw [if_neg hB] at HO
     clear HS HOr hB
     have hkc : (((k : Int) == 9) = false ∧ ¬ k = 9) ∨ (((k : Int) == 9) = true ∧ (c : Int) ≤ 1) := by
      rcases Nat.lt_or_ge k 9 with hk8 | hk8
      ·exact .inl ⟨by rw [beq_eq_false_iff_ne]; omega,by omega⟩
      ·exact .inr ⟨by rw [beq_iff_eq]; omega,by omega⟩
     clear h9 hA
     by_cases hC : c = 0 ∧ 0 < k
     ·have HW := hid (show wideN bs s = .error 73 by rw [HO.out,if_pos hC])
      have hK1 : (0 : Int) < (k : Int) := by omega
      have hc0 : ((c : Int) == 0) = true := by rw [beq_iff_eq]; omega
      clear hC HO
      rcases hkc with ⟨hk2,hk3⟩ | ⟨hk2,hc1⟩
      all_goals
       go_wp2_with fail
       refine H1.out.mono ?_
       rintro e w2 ⟨rfl,hR2,hT2⟩
       have HT2 := hid hT2
       clear hT2 hR2
       go_wp2_with fail
       refine (fail_any _ 73 _).mono ?_
       rintro e w3 ⟨rfl,rfl⟩
       go_wp2_with fail
       refine ⟨rfl,?_⟩
       rw [HW.out]
       exact ⟨rfl,HT.out.trans HT2.out⟩
     ·have HW := hid (show wideN bs s = .ok (acc + y,s2) by rw [HO.out,if_neg hC])
      have hcc : (((c : Int) == 0) = false) ∨ (((c : Int) == 0) = true ∧ ¬ (0 : Int) < (k : Int)) := by
       by_cases e : c = 0
       ·exact .inr ⟨by rw [beq_iff_eq]; omega,by omega⟩
       ·exact .inl (by rw [beq_eq_false_iff_ne]; omega)
      clear hC HO
      rcases hkc with ⟨hk2,hk3⟩ | ⟨hk2,hc1⟩ <;> rcases hcc with hc0 | ⟨hc0,hk0⟩
      all_goals
       go_wp2_with fail
       refine H1.out.mono ?_
       rintro e w2 ⟨rfl,hR2,hT2⟩
       have HR2 := hid hR2
       have HT2 := hid hT2
       clear hT2 hR2
       go_wp2_with fail
       refine (show bodyPost _ _ _ .ret _ _ from ?_)
       go_ret
       rw [HW.out]
       exact ⟨rfl,HR2.out,HT.out.trans HT2.out⟩
 obtain ⟨X,hX,pass⟩ := key
 refine wp_scope_jumps 0 (wideJ R p m v bv bs w (wideN bs s)) (fun a' _ => 10 - (intOf (a'.tmps.getD 4 undef)).toNat) hX ?first (fun a1 w1 h1 => wp_seq (wp_skip (pass a1 w1 h1)))
 obtain ⟨-,rfl⟩ := Code.seq.inj (Option.some.inj hX)
 clear hX
 go_wp2_with fail
 go_step3
 rename_i hK
 apply hK
 refine wp_mono (pass _ _ hJ) ?_
 intro e a w1 h
 cases e with
 | goto l => exact ⟨h.1,h.2.1⟩
 | _ => exact h
set_option maxHeartbeats 2000000 in
theorem name_rw (s : ByteArray) (w : World) (hs : s.size ≤ maxLen) :
    Calls Try.prog 80 #[.string s] w fun e w' => e = .returned (.bool (nameB s)) ∧ w' = w := by
  unfold maxLen at hs
  by_cases h0 : s.size = 0
  · go_enter Try.func80,Try.ntmps80
    go_wp2
    go_ret
    exact ⟨ret_bool (nameB_empty h0).symm,rfl⟩
  · have hpos : 0 < s.size := by omega
    have hl := len_ne h0
    by_cases h32 : 32 < s.size
    · go_enter Try.func80,Try.ntmps80
      go_wp2
      go_ret
      exact ⟨ret_bool (nameB_long h32).symm,rfl⟩
    · go_enter Try.func80,Try.ntmps80
      go_wp2
      go_loop [2,3] (fun r i => nameRel s r i) (fun _ i => s.size - (intOf i).toNat)
      case atStart => exact ⟨0,Nat.zero_le _,rfl,rfl,okTo_zero s,fun h => absurd h (by omega)⟩
      case round =>
        obtain ⟨k,hk,rfl,rfl,hall,hfirst⟩ := hrel
        have HA := hid hall
        have HF := hid hfirst
        clear hall hfirst
        by_cases hlt : k < s.size
        · have HG := hid (getB s hlt)
          rcases classes ((s[k]'hlt).toNat : Int) (by omega) with ⟨c1,c2,c3,d1,d2,d3⟩ | ⟨c1,c2,c3,d1,d2,d3⟩ | ⟨c1,c2,c3,d1,d2,d3⟩ | ⟨c1,c2,c3,d1,d2,d3⟩ | ⟨c1,c2,c3,d1,d2,d3⟩ | ⟨c1,c2,c3,d1,d2,d3⟩ | ⟨c1,c2,c3,d1,d2,d3⟩ | ⟨c1,c2,c3,d1,d2,d3⟩ | ⟨c1,c2,c3,d1,d2,d3⟩
          all_goals
            have C3 := hid c3
            rcases Nat.eq_zero_or_pos k with rfl | hkp
          all_goals
            try have hk0 : ((k : Int) == 0) = false := by rw [beq_eq_false_iff_ne]; omega
            go_wp2
            all_goals
             first
              | (go_ret
                 exact ⟨ret_bool (first_bad hlt HG.out (.inl ⟨rfl,small_not (by omega)⟩)).symm,rfl⟩)
              | (go_ret
                 exact ⟨ret_bool (first_bad hlt HG.out (.inr (okb_not (by omega) (by omega) (by omega) (beq_eq_false_iff_ne.1 C3.out)))).symm,rfl⟩)
              | (go_round
                 case rel => exact ⟨_,by omega,by go_num,rfl,okTo_succ HA.out (by rw [HG.out]; first | exact okb_of (by omega) | exact okb_of (.inr (.inr (.inr (beq_iff_eq.1 C3.out))))),fun _ => by first | exact HF.out (by omega) | (rw [HG.out]; exact small_of (by omega) (by omega))⟩
                 case measure => simp [intOf]; omega)
        · go_wp2
          go_ret
          obtain rfl : k = s.size := by omega
          exact ⟨ret_bool (nameB_true hpos (by omega) (HF.out hpos) HA.out).symm,rfl⟩
theorem find_still (v : Value) (l : List ByteArray) (s : ByteArray) (w : World) (hv : Strs w v l) : Calls Try.prog 81 #[v,.string s] w fun e w' => e = .returned (.int .i64 ((pos l s).getD l.length : Nat)) ∧ w' = w :=
  (find_any v l s w hv).mono fun _ _ h => ⟨h.1,h.2.symm⟩
theorem conv_any {P : Program} (w : World) {src dst e : TypeId} (hs : P.underlying src = some (.slice e)) (he : P.underlying e = some (.int .u8)) (hd : P.underlying dst = some .string) {v : Value} {l : List UInt8} (h : Sl w v (l.map cellB)) :
  (convert src dst v).run P w = .ok (.string ⟨l.toArray⟩) w := by
 obtain ⟨a,c,rfl,hm,hc⟩ := h
 have hlm : (l.map cellB).length = l.length := by simp
 rw [hlm]
 by_cases h0 : 0 < l.length
 ·obtain ⟨b,off,rfl,hcell⟩ := hc (by simpa using h0)
  exact run_convert_bytes_back w src dst e ⟨b,off,none⟩ c l hs he hd (fun k hk => by
   have := hcell k (by simpa using hk)
   rw [List.getElem_map] at this
   rw [Addr.add_lit]
   exact this)
 ·have hl : l = [] := List.eq_nil_of_length_eq_zero (by omega)
  subst hl
  show (convert src dst (.slice a 0 c)).run P w = _
  rw [run_convert_bytes_string w src dst e a 0 c hs he hd]
  cases a with
  | none => rfl
  | some a => exact run_bytesToString w a 0 c [] (by rfl)
end Go.Proofs.Ytgadkiljnebicaa
