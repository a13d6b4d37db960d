/- Several texts in one. -/
import Derived.Test.YtkfblapfphnggaaD06
import Derived.Test.YtkfblapfphnggaaD03
import Derived.WalkMore
import Derived.ScopeJumps
import Derived.Laws.BitsLemmas
import Derived.Laws.Externs
import Derived.Laws.IdiomStrings
/- term.Check: right terms, and ids. -/
namespace Go.Proofs.Ytkfblapfphnggaa
open Go.RowKit
set_option maxRecDepth 100000
attribute [local go_sem] run_store_complex run_store_func' run_store_nilFunc'

set_option maxHeartbeats 1000000 in
theorem check_of (k n node boot idn : Int) (re im : Nat) (s : ByteArray) (ba : Option Addr) (bn bc : Nat) (la : Option Addr) (ll lc : Nat) (r : Int) (w : World)
    (hpart : ∀ p w1, Below w.heap.size w w1 → w.heap.size ≤ p → LkAt w1 p 0 → Calls Try.prog 25 #[.pointer (some ⟨p, 0, none⟩), .agg #[.int .i64 k, .int .i64 n, .complex .f64 re im, .string s, .int .i64 node, .int .u32 boot, .int .u64 idn, .slice ba bn bc, .slice la ll lc], .int .i64 1] w1 fun e w' => e = .returned (.int .i64 r) ∧ Turn (fun i => i = p) w1 w') :
    Calls Try.prog 10 #[.agg #[.int .i64 k, .int .i64 n, .complex .f64 re im, .string s, .int .i64 node, .int .u32 boot, .int .u64 idn, .slice ba bn bc, .slice la ll lc]] w (RB w (.int .i64 r)) := by
  have HPart := Lib.hid hpart
  have hi59 : (Try.prog.info? 75).map (·.size) = some (kL 0).size := by kernel_rfl
  have hall : (kL 0).all (·.oneCell') = true := by kernel_rfl
  clear hpart
  go_enter Try.func10, Try.ntmps10
  go_wp2_with fail
  refine (kinds_any _).mono ?_
  rintro e w1 ⟨rfl, hb1⟩
  have HN1 := Lib.hid (NineAt.block (nine_new w k n re im s node boot idn (.slice ba bn bc) (.slice la ll lc) 31) (hb1.block _ (by simp)))
  have HB1 := Lib.hid (((Below.refl w.heap.size w).alloc (Nat.le_refl _) _).trans (hb1.mono (by simp)))
  have hs1 : w.heap.size < w1.heap.size := by have := hb1.size; simp at this; omega
  clear hb1
  obtain ⟨k0, k1, k2, k3, k4, k5, k6, k7, k8⟩ := HN1.out
  go_wp2_with (refine wpList_store_row rfl 75 (.tmp 3) (.tmp 5) rfl w1.heap.size (kL 0) rfl rfl 75 #[.int .i64 0, .nilFunc, .nilFunc, .nilFunc, .nilFunc, .nilFunc, .nilFunc, .nilFunc, .nilFunc, .nilFunc, .nilFunc, .nilFunc, .nilFunc, .nilFunc, .nilFunc, .nilFunc, .nilFunc, .nilFunc, .nilFunc] (heap_new _ _) hi59 rfl hall ?_; rw [setRow_new])
  refine (HPart.out w1.heap.size _ (HB1.out.alloc (by omega) _) (by omega) (heap_new w1 _)).mono ?_
  rintro e w2 ⟨rfl, ht⟩
  have hb2 : Below w.heap.size w1 w2 := ((Below.refl w.heap.size w1).alloc (by omega) (.cells (kL 0) 75)).trans (ht.below (by simp; omega) (fun i e => by omega))
  have HB2 := Lib.hid (HB1.out.trans hb2)
  clear ht hb2 k0 k1 k2 k3 k4 k5 k6 k7 k8
  go_wp2_with fail
  go_ret
  exact ⟨rfl, HB2.out⟩
/-- Check OF A RIGHT TERM -/
theorem check_good (t : Tm) (ht : GoodT 24 t) (hsz : sizeT t ≤ 4096) (F : Nat → Prop) (c : Array Value) (w : World) (hrep : Rep w F t c) (hF : ∀ b, F b → b < w.heap.size) : Calls Try.prog 10 #[.agg c] w (RB w (.int .i64 0)) := by
  obtain ⟨h, l⟩ := t
  have hrep' := hrep
  obtain ⟨bv, lv, rfl, hb, vs, hlv, hreps⟩ := hrep
  obtain ⟨ba, bc, rfl⟩ := row_slice hb.1
  obtain ⟨la, lc, rfl⟩ := row_slice hlv.1
  refine check_of _ _ _ _ _ _ _ _ _ _ _ _ _ _ _ w fun p w1 hb1 hp1 hL => ?_
  refine (look_good 24 _ (Nat.le_refl _) ht F _ p 0 w1 hL (Rep.keep (fun b _ hb => hb1.block b hb) _ _ hrep') (fun b e => by have := hF b e; omega) (by omega) 1 rfl).mono ?_
  rintro e w' ⟨h1, _, h3⟩
  exact ⟨h1, h3⟩
/-- Check OF AN ID -/
theorem check_id (k node boot idn : Int) (hk : k = 4 ∨ k = 5) (w : World) : Calls Try.prog 10 #[vI k node boot idn] w (RB w (.int .i64 (if idOk node boot idn = true then 0 else 24))) := by
  refine check_of _ _ _ _ _ _ _ _ _ _ _ _ _ _ _ w fun p w1 hb1 hp1 hL => ?_
  cases hd : idOk node boot idn with
  | true =>
    rcases hk with rfl | rfl
    · refine (lk_walk 4 46 43 0 node boot idn 0 0 ⟨#[]⟩ none 0 0 none 0 [] [] 1 (fun _ => False) p 0 w1 (by decide) (by decide) (fun _ => rfl) (fun _ => rfl) (enters Try.func46 (by kernel_rfl) (by kernel_rfl)) (enters Try.func43 (by kernel_rfl) (by kernel_rfl)) (fun w => bare4 4 node boot idn w) (fun w => by have := good2 4 node boot idn w; rw [hd] at this; exact this) (by simp) (by decide) (by decide) (by decide) hL (Row.nil _ _ _ _) rfl (by simp)).mono ?_
      rintro e w' ⟨h1, _, h3⟩
      exact ⟨h1, h3⟩
    · refine (lk_walk 5 46 43 0 node boot idn 0 0 ⟨#[]⟩ none 0 0 none 0 [] [] 1 (fun _ => False) p 0 w1 (by decide) (by decide) (fun _ => rfl) (fun _ => rfl) (enters Try.func46 (by kernel_rfl) (by kernel_rfl)) (enters Try.func43 (by kernel_rfl) (by kernel_rfl)) (fun w => bare4 5 node boot idn w) (fun w => by have := good2 5 node boot idn w; rw [hd] at this; exact this) (by simp) (by decide) (by decide) (by decide) hL (Row.nil _ _ _ _) rfl (by simp)).mono ?_
      rintro e w' ⟨h1, _, h3⟩
      exact ⟨h1, h3⟩
  | false =>
    rcases hk with rfl | rfl
    · exact lk_bad 4 46 43 0 node boot idn 0 0 ⟨#[]⟩ none 0 0 none 0 [] 1 p 0 w1 (by decide) (by decide) (fun _ => rfl) (fun _ => rfl) (enters Try.func46 (by kernel_rfl) (by kernel_rfl)) (enters Try.func43 (by kernel_rfl) (by kernel_rfl)) (fun w => bare4 4 node boot idn w) (fun w => by have := good2 4 node boot idn w; rw [hd] at this; exact this) (by decide) (by decide) hL
    · exact lk_bad 5 46 43 0 node boot idn 0 0 ⟨#[]⟩ none 0 0 none 0 [] 1 p 0 w1 (by decide) (by decide) (fun _ => rfl) (fun _ => rfl) (enters Try.func46 (by kernel_rfl) (by kernel_rfl)) (enters Try.func43 (by kernel_rfl) (by kernel_rfl)) (fun w => bare4 5 node boot idn w) (fun w => by have := good2 5 node boot idn w; rw [hd] at this; exact this) (by decide) (by decide) hL
end Go.Proofs.Ytkfblapfphnggaa
/- The reader's numbers of any width. -/
namespace Go.Proofs.Ytkfblapfphnggaa
open Go.RowKit
set_option maxRecDepth 100000

theorem oneP_ok {bs : List UInt8} {s s' : St} {c : Nat} (h : oneP bs s = .ok (c, s')) : c < 256 ∧ s' = { s with i := s.i + 1 } ∧ s.i < bs.length := by
  unfold oneP at h
  cases hb : bs[s.i]? with
  | none => rw [hb] at h; cases h
  | some x =>
    rw [hb] at h
    cases h
    exact ⟨x.toNat_lt, rfl, (List.getElem?_eq_some_iff.1 hb).1⟩
theorem wrap_u64_nat (n : Nat) (h : n < 18446744073709551616) : IntKind.u64.wrap (n : Int) = n := by
  simp [IntKind.wrap, IntKind.bits, IntKind.signed]
  omega
theorem and127 (c : Nat) (hc : c < 256) : bits .and .u8 (c : Int) 127 = ((c % 128 : Nat) : Int) := by
  have := bits_mask .u8 8 (by decide) wraps_u8 7 (by decide) (c : Int) (by omega) (by omega)
  rw [show ((2 : Int) ^ 7 - 1) = 127 by decide] at this
  rw [this]
  simp
theorem pow_le9 {k : Nat} (h : k ≤ 9) : 2 ^ (7 * k) ≤ 2 ^ 63 := Nat.pow_le_pow_right (by decide) (by omega)
theorem lt_shl {d k : Nat} (hd : d < 128) (hk : k ≤ 9) (h9 : k = 9 → d ≤ 1) : d * 2 ^ (7 * k) < 18446744073709551616 := by
  by_cases e : k = 9
  · have := h9 e
    subst e
    calc d * 2 ^ (7 * 9) ≤ 1 * 2 ^ (7 * 9) := Nat.mul_le_mul_right _ this
      _ < _ := by decide
  · calc d * 2 ^ (7 * k) ≤ 127 * 2 ^ (7 * 8) := Nat.mul_le_mul (by omega) (Nat.pow_le_pow_right (by decide) (by omega))
      _ < _ := by decide
theorem wrapK (d k : Nat) (hd : d < 128) (hk : k ≤ 9) (h9 : k = 9 → d ≤ 1) : IntKind.u64.wrap ((d : Int) * 2 ^ (7 * k)) = ((d * 2 ^ (7 * k) : Nat) : Int) := by
  have e2 : ((d : Int) * 2 ^ (7 * k)) = ((d * 2 ^ (7 * k) : Nat) : Int) := by simp
  rw [e2, wrap_u64_nat _ (lt_shl hd hk h9)]
theorem wraps_u64 (n : Int) (h₀ : 0 ≤ n) (h₁ : n < 2 ^ 64) : IntKind.u64.wrap n = n := by
  obtain ⟨a, rfl⟩ := Int.eq_ofNat_of_zero_le h₀
  exact wrap_u64_nat a (by omega)
theorem orK (acc d k : Nat) (ha : acc < 2 ^ (7 * k)) (hd : d < 128) (hk : k ≤ 9) (h9 : k = 9 → d ≤ 1) : bits .or .u64 (acc : Int) ((d * 2 ^ (7 * k) : Nat) : Int) = ((acc + d * 2 ^ (7 * k) : Nat) : Int) := by
  have h1 : acc < 2 ^ 64 := Nat.lt_of_lt_of_le ha (Nat.le_trans (pow_le9 hk) (by decide))
  rw [(bits_nat .u64 64 (by decide) wraps_u64 acc _ h1 (lt_shl hd hk h9)).2, Nat.or_comm, Nat.mul_comm, ← Nat.two_pow_add_eq_or_of_lt ha d, Nat.add_comm]
theorem acc_lt {acc d k : Nat} (ha : acc < 2 ^ (7 * k)) (hd : d < 128) : acc + d * 2 ^ (7 * k) < 2 ^ (7 * (k + 1)) := by
  have e : 2 ^ (7 * (k + 1)) = 128 * 2 ^ (7 * k) := by rw [Nat.mul_add, Nat.pow_add, Nat.mul_comm]
  rw [e]
  calc acc + d * 2 ^ (7 * k) < 2 ^ (7 * k) + d * 2 ^ (7 * k) := by omega
    _ = (d + 1) * 2 ^ (7 * k) := by rw [Nat.add_mul]; omega
    _ ≤ 128 * 2 ^ (7 * k) := Nat.mul_le_mul_right _ (by omega)
/-- how a pass of the number's loop begins -/
def wideJ (R p m : Nat) (v bv : Value) (bs : List UInt8) (W : World) (r0 : Except Int (Nat × St)) (a : Act) (w : World) : Prop :=
  ∃ (rest k acc : Nat) (s : St) (t : List Value), a = { tmps := (Value.pointer (some ⟨R, 0, none⟩) :: undef :: .int .u64 0 :: .int .u64 acc :: .int .i64 k :: t).toArray, defers := [] } ∧ t.length = 32 ∧ k + rest = 9 ∧ acc < 2 ^ (7 * k) ∧
    RdAt w R p m v bv bs s ∧ Turn (fun i => i = R) W w ∧ wideP bs (rest + 1) k acc s = r0
set_option maxHeartbeats 1000000 in
theorem wide_any (R p m : Nat) (v bv : Value) (bs : List UInt8) (s : St) (w : World) (h : RdAt w R p m v bv bs s) :
    Calls Try.prog 26 #[.pointer (some ⟨R, 0, none⟩)] w (P1 R p m v bv bs w (fun c => .int .u64 (c : Nat)) (wideN bs s)) := by
  have H := Lib.hid h
  clear h
  go_enter Try.func26, Try.ntmps26
  go_wp2_with fail
  have hJ : wideJ R p m v bv bs w (wideN bs s) { tmps := #[.pointer (some ⟨R, 0, none⟩), undef, .int .u64 0, .int .u64 0, .int .i64 0, undef, undef, undef, undef, undef, undef, undef, undef, undef, undef, undef, undef, undef, undef, undef, undef, undef, undef, undef, undef, undef, undef, undef, undef, undef, undef, undef, undef, undef, undef, undef, undef], defers := [] } w :=
    ⟨9, 0, 0, s, [undef, undef, undef, undef, undef, undef, undef, undef, undef, undef, undef, undef, undef, undef, undef, undef, undef, undef, undef, undef, undef, undef, undef, undef, undef, undef, undef, undef, undef, undef, undef, undef], by simp, by simp, rfl, by decide, H.out, Turn.refl _ _, rfl⟩
  have key : ∃ X, findLabel (match Try.f26.body with | some (.seq _ (.scope c)) => c | _ => .skip) 0 = some (.seq .skip X) ∧ ∀ a1 w1, wideJ R p m v bv bs w (wideN bs s) a1 w1 → Code.wp Try.prog X (Exit.jump 0 (fun a' w' => wideJ R p m v bv bs w (wideN bs s) a' w' ∧ 10 - (intOf (a'.tmps.getD 4 undef)).toNat < 10 - (intOf (a1.tmps.getD 4 undef)).toNat) (bodyPost Try.prog Try.f26 (P1 R p m v bv bs w (fun c => .int .u64 (c : Nat)) (wideN bs s)))) a1 w1 := by
    refine ⟨_, rfl, ?_⟩
    rintro a w1 ⟨rest, k, acc, s1, t, rfl, ht, hk, hacc, hR, hT, hr⟩
    have HR := Lib.hid hR
    have HT := Lib.hid hT
    have HK := Lib.hid hr
    clear hR hT hr H
    match t, ht with
    | [t5, t6, t7, t8, t9, t10, t11, t12, t13, t14, t15, t16, t17, t18, t19, t20, t21, t22, t23, t24, t25, t26, t27, t28, t29, t30, t31, t32, t33, t34, t35, t36], _ =>
    have H1 := Lib.hid (one_any R p m v bv bs s1 w1 HR.out)
    cases ho : oneP bs s1 with
    | error x =>
      have HO := Lib.hid (show wideN bs s = .error x by rw [← HK.out]; simp only [wideP, ho])
      rw [ho] at H1
      clear ho
      go_wp2_with fail
      refine H1.out.mono ?_
      rintro e w2 ⟨rfl, hT2⟩
      go_wp2_with fail
      refine ⟨rfl, ?_⟩
      rw [HO.out]
      exact ⟨rfl, HT.out.trans hT2⟩
    | ok y =>
      obtain ⟨c, s2⟩ := y
      obtain ⟨hc, _, _⟩ := oneP_ok ho
      have HO := Lib.hid (show wideN bs s = if k = 9 ∧ 1 < c then .error 73
        else if 128 ≤ c then wideP bs rest (k + 1) (acc + c % 128 * 2 ^ (7 * k)) s2
        else if c = 0 ∧ 0 < k then .error 73
        else .ok (acc + c % 128 * 2 ^ (7 * k), s2) by rw [← HK.out]; simp only [wideP, ho])
      rw [ho] at H1
      clear ho
      by_cases hA : k = 9 ∧ 1 < c
      · have HW := Lib.hid (show wideN bs s = .error 73 by rw [HO.out, if_pos hA])
        obtain ⟨rfl, hA2⟩ := hA
        have hA3 : (1 : Int) < (c : Int) := by omega
        clear HO
        go_wp2_with fail
        refine H1.out.mono ?_
        rintro e w2 ⟨rfl, hR2, hT2⟩
        have HT2 := Lib.hid hT2
        clear hT2 hR2
        go_wp2_with fail
        refine (fail_any _ 73 _).mono ?_
        rintro e w3 ⟨rfl, rfl⟩
        go_wp2_with fail
        refine ⟨rfl, ?_⟩
        rw [HW.out]
        exact ⟨rfl, HT.out.trans HT2.out⟩
      · have hd : c % 128 < 128 := Nat.mod_lt _ (by decide)
        have h9 : k = 9 → c % 128 ≤ 1 := fun e => by omega
        have hand := and127 c hc
        have HS := Lib.hid (wrapK (c % 128) k hd (by omega) h9)
        have HOr := Lib.hid (orK acc (c % 128) k hacc hd (by omega) h9)
        have HL := Lib.hid (acc_lt (k := k) hacc hd)
        have hk9 : k ≤ 9 := by omega
        have hw := wrap_u64_nat (c % 128) (by omega)
        rw [if_neg hA] at HO
        generalize c % 128 * 2 ^ (7 * k) = y at *
        generalize c % 128 = d at *
        have HS2 := HS.out
        have HOr2 := HOr.out
        by_cases hB : 128 ≤ c
        · have hk' : ¬ k = 9 := fun e => by omega
          have hk2 : ((k : Int) == 9) = false := by rw [beq_eq_false_iff_ne]; omega
          have hB2 : (128 : Int) ≤ (c : Int) := by omega
          rw [if_pos hB] at HO
          clear HS HOr
          go_wp2_with fail
          refine H1.out.mono ?_
          rintro e w2 ⟨rfl, hR2, hT2⟩
          have HR2 := Lib.hid hR2
          have HT2 := Lib.hid hT2
          clear hT2 hR2
          go_wp2_with fail
          go_step3
          obtain ⟨r, rfl⟩ : ∃ r, rest = r + 1 := ⟨rest - 1, by omega⟩
          refine ⟨rfl, ⟨r, k + 1, acc + y, s2, _, rfl, rfl, by omega, HL.out, HR2.out, HT.out.trans HT2.out, HO.out.symm⟩, ?_⟩
          simp [intOf]
          omega
        · have hB2 : (c : Int) < 128 := by omega
          rw [if_neg hB] at HO
          clear HS HOr hB
          have hkc : (((k : Int) == 9) = false ∧ ¬ k = 9) ∨ (((k : Int) == 9) = true ∧ (c : Int) ≤ 1) := by
            rcases Nat.lt_or_ge k 9 with hk8 | hk8
            · exact .inl ⟨by rw [beq_eq_false_iff_ne]; omega, by omega⟩
            · exact .inr ⟨by rw [beq_iff_eq]; omega, by omega⟩
          clear h9 hA
          by_cases hC : c = 0 ∧ 0 < k
          · have HW := Lib.hid (show wideN bs s = .error 73 by rw [HO.out, if_pos hC])
            have hK1 : (0 : Int) < (k : Int) := by omega
            have hc0 : ((c : Int) == 0) = true := by rw [beq_iff_eq]; omega
            clear hC HO
            rcases hkc with ⟨hk2, hk3⟩ | ⟨hk2, hc1⟩
            all_goals
              go_wp2_with fail
              refine H1.out.mono ?_
              rintro e w2 ⟨rfl, hR2, hT2⟩
              have HT2 := Lib.hid hT2
              clear hT2 hR2
              go_wp2_with fail
              refine (fail_any _ 73 _).mono ?_
              rintro e w3 ⟨rfl, rfl⟩
              go_wp2_with fail
              refine ⟨rfl, ?_⟩
              rw [HW.out]
              exact ⟨rfl, HT.out.trans HT2.out⟩
          · have HW := Lib.hid (show wideN bs s = .ok (acc + y, s2) by rw [HO.out, if_neg hC])
            have hcc : (((c : Int) == 0) = false) ∨ (((c : Int) == 0) = true ∧ ¬ (0 : Int) < (k : Int)) := by
              by_cases e : c = 0
              · exact .inr ⟨by rw [beq_iff_eq]; omega, by omega⟩
              · exact .inl (by rw [beq_eq_false_iff_ne]; omega)
            clear hC HO
            rcases hkc with ⟨hk2, hk3⟩ | ⟨hk2, hc1⟩ <;> rcases hcc with hc0 | ⟨hc0, hk0⟩
            all_goals
              go_wp2_with fail
              refine H1.out.mono ?_
              rintro e w2 ⟨rfl, hR2, hT2⟩
              have HR2 := Lib.hid hR2
              have HT2 := Lib.hid hT2
              clear hT2 hR2
              go_wp2_with fail
              refine (show bodyPost _ _ _ .ret _ _ from ?_)
              go_ret
              rw [HW.out]
              exact ⟨rfl, HR2.out, HT.out.trans HT2.out⟩
  obtain ⟨X, hX, pass⟩ := key
  refine wp_scope_jumps 0 (wideJ R p m v bv bs w (wideN bs s)) (fun a' _ => 10 - (intOf (a'.tmps.getD 4 undef)).toNat) hX ?first (fun a1 w1 h1 => wp_seq (wp_skip (pass a1 w1 h1)))
  obtain ⟨-, rfl⟩ := Code.seq.inj (Option.some.inj hX)
  clear hX
  go_wp2_with fail
  go_step3
  rename_i hK
  apply hK
  refine wp_mono (pass _ _ hJ) ?_
  intro e a w1 h
  cases e with
  | goto l => exact ⟨h.1, h.2.1⟩
  | _ => exact h
end Go.Proofs.Ytkfblapfphnggaa
/- The reader's floats. -/
namespace Go.Proofs.Ytkfblapfphnggaa
open Go.RowKit
set_option maxRecDepth 100000

theorem tk_succ {bs : List UInt8} {i j : Nat} (h : i + j < bs.length) : (bs.drop i).take (j + 1) = (bs.drop i).take j ++ [bs[i + j]] := by
  rw [List.take_succ_eq_append_getElem (by simp; omega)]
  simp
theorem tk_len {bs : List UInt8} {i j : Nat} (h : i + j ≤ bs.length) : ((bs.drop i).take j).length = j := by simp; omega
theorem wordOf_snoc (l : List UInt8) (c : UInt8) : wordOf (l ++ [c]) = wordOf l * 256 + c.toNat := by simp [wordOf]
theorem word_lt : ∀ (l : List UInt8) (u n : Nat), u < 256 ^ n → l.foldl (fun u c => u * 256 + c.toNat) u < 256 ^ (n + l.length)
  | [], u, n, h => by simpa using h
  | c :: l, u, n, h => by
    have := c.toNat_lt
    have e : n + (c :: l).length = (n + 1) + l.length := by simp; omega
    rw [e]
    exact word_lt l _ _ (by show u * 256 + c.toNat < 256 ^ (n + 1); rw [Nat.pow_succ]; omega)
theorem wordOf_lt (l : List UInt8) : wordOf l < 256 ^ l.length := by
  have := word_lt l 0 0 (by decide)
  simpa [wordOf] using this
theorem frombits (n : Nat) (w : World) : (callFunc 56 #[.int .u64 (n : Int)]).run Try.prog w = .ok (.value (.float .f64 n)) w := by
  rw [run_callFunc_extern Try.func56 (by kernel_rfl) (by kernel_rfl) (by kernel_rfl) (e := Extern.MathFloatBits.float64frombits) (by kernel_rfl)]
  rfl
theorem shl8 (u c : Nat) (hu : u < 72057594037927936) (hc : c < 256) : IntKind.u64.wrap ((u : Int) * 256) = ((u * 256 : Nat) : Int) ∧ bits .or .u64 ((u : Int) * 256) (c : Int) = ((u * 256 + c : Nat) : Int) := by
  constructor
  · rw [← wrap_u64_nat (u * 256) (by omega)]; simp
  · rw [show ((u : Int) * 256) = ((u * 256 : Nat) : Int) by simp, (bits_nat .u64 64 (by decide) wraps_u64 (u * 256) c (by omega) (by omega)).2, Nat.mul_comm, show 256 = 2 ^ 8 from rfl, ← Nat.two_pow_add_eq_or_of_lt (by omega) u]
/-- how a round of the float's loop begins -/
def floatRel (R p m : Nat) (v bv : Value) (bs : List UInt8) (s : St) (W : World) (t3 t4 : Value) (w : World) : Prop :=
  ∃ j : Nat, j ≤ 8 ∧ s.i + j ≤ bs.length ∧ t4 = .int .i64 j ∧ t3 = .int .u64 (wordOf ((bs.drop s.i).take j) : Nat) ∧ RdAt w R p m v bv bs { s with i := s.i + j } ∧ Turn (fun i => i = R) W w
set_option maxHeartbeats 1000000 in
theorem float_any (R p m : Nat) (v bv : Value) (bs : List UInt8) (s : St) (w : World) (h : RdAt w R p m v bv bs s) :
    Calls Try.prog 29 #[.pointer (some ⟨R, 0, none⟩)] w (P1 R p m v bv bs w (fun l => .float .f64 (wordOf l)) (someP bs 8 s)) := by
  have H := Lib.hid h
  clear h
  go_enter Try.func29, Try.ntmps29
  go_wp2_with fail
  go_loopw [3, 4] (fun t3 t4 wr => floatRel R p m v bv bs s w t3 t4 wr) (fun _ t4 _ => 8 - (intOf t4).toNat)
  case atStart => exact ⟨0, by omega, H.out.ile, rfl, by simp [wordOf], H.out, Turn.refl _ _⟩
  case round =>
    obtain ⟨j, hj, hl, rfl, rfl, hR, hT⟩ := hrel
    have HR := Lib.hid hR
    have HT := Lib.hid hT
    have HL := Lib.hid hl
    clear hR hT hl
    by_cases hlt : j < 8
    · by_cases hi : s.i + j < bs.length
      · have H1 := Lib.hid (one_yes R p m v bv bs _ wr HR.out hi)
        have hwl := wordOf_lt ((bs.drop s.i).take j)
        rw [tk_len HL.out] at hwl
        have hw2 : wordOf ((bs.drop s.i).take j) < 72057594037927936 := Nat.lt_of_lt_of_le hwl (Nat.le_trans (Nat.pow_le_pow_right (by decide) (show j ≤ 7 by omega)) (by decide))
        have HW := Lib.hid (show wordOf ((bs.drop s.i).take (j + 1)) = wordOf ((bs.drop s.i).take j) * 256 + bs[s.i + j].toNat by rw [tk_succ hi, wordOf_snoc])
        obtain ⟨f1, f2⟩ := shl8 (wordOf ((bs.drop s.i).take j)) bs[s.i + j].toNat hw2 bs[s.i + j].toNat_lt
        have f3 := wrap_u64_nat bs[s.i + j].toNat (by have := bs[s.i + j].toNat_lt; omega)
        have hj1 : (j : Int) < 8 := by omega
        clear hwl hw2
        generalize wordOf ((bs.drop s.i).take j) = u at *
        go_wp2_with fail
        refine H1.out.mono ?_
        rintro e w2 ⟨rfl, hR2, hT2⟩
        have HR2 := Lib.hid hR2
        have HT2 := Lib.hid hT2
        clear hT2 hR2
        go_wp2_with fail
        go_round
        case rel => exact ⟨j + 1, by omega, by omega, by go_num, by rw [HW.out]; simp only [Int.natCast_add, Int.natCast_mul]; rfl, HR2.out, HT.out.trans HT2.out⟩
        case measure => simp [intOf]; omega
      · have H1 := Lib.hid (one_no R p m v bv bs _ wr HR.out hi)
        have HW := Lib.hid (show someP bs 8 s = .error 72 by unfold someP; rw [if_neg (by omega)])
        have hj1 : (j : Int) < 8 := by omega
        go_wp2_with fail
        refine H1.out.mono ?_
        rintro e w2 ⟨rfl, hT2⟩
        have HT2 := Lib.hid hT2
        clear hT2
        go_wp2_with fail
        refine ⟨rfl, ?_⟩
        rw [HW.out]
        exact ⟨rfl, HT.out.trans HT2.out⟩
    · obtain rfl : j = 8 := by omega
      have HW := Lib.hid (show someP bs 8 s = .ok ((bs.drop s.i).take 8, { s with i := s.i + 8 }) by unfold someP; rw [if_pos HL.out])
      have hf := frombits (wordOf ((bs.drop s.i).take 8))
      go_wp2_with fail
      go_ret
      rw [HW.out]
      exact ⟨rfl, HR.out, HT.out⟩
end Go.Proofs.Ytkfblapfphnggaa
/- The reader's names. -/
namespace Go.Proofs.Ytkfblapfphnggaa
open Go.RowKit
set_option maxRecDepth 100000

/-- HOW A GREAT READER ENDS: the table may have a slice of its own anew -/
def P2 {α : Type} (R p m : Nat) (v bv : Value) (bs : List UInt8) (W : World) (res : α → Value) (r : Except Int (α × St)) (e : Ending) (w' : World) : Prop :=
  match r with
  | .ok (a, s') => ∃ v', e = .returned (res a) ∧ RdAt w' R p m v' bv bs s' ∧ Turn (foot R p m v) W w' ∧ (v'.ownBlock = v.ownBlock ∨ ∀ b, v'.ownBlock = some b → W.heap.size ≤ b)
  | .error x => e = .panicked (thrown x) ∧ Turn (foot R p m v) W w'
theorem turnR {R p m : Nat} {v : Value} {a b : World} (h : Turn (fun i => i = R) a b) : Turn (foot R p m v) a b := h.mono fun _ _ e => .inl e
theorem wide_names {bs : List UInt8} : ∀ (rest k acc : Nat) (s s' : St) (n : Nat), wideP bs rest k acc s = .ok (n, s') → s'.names = s.names ∧ s'.n = s.n ∧ s.i < s'.i := by
  intro rest
  induction rest with
  | zero => intro k acc s s' n h; cases h
  | succ rest ih =>
    intro k acc s s' n h
    simp only [wideP] at h
    cases ho : oneP bs s with
    | error x => rw [ho] at h; cases h
    | ok y =>
      obtain ⟨c, s2⟩ := y
      rw [ho] at h
      obtain ⟨_, rfl, _⟩ := oneP_ok ho
      simp only at h
      split at h
      · cases h
      · split at h
        · obtain ⟨h1, h2, h3⟩ := ih _ _ _ _ _ h
          exact ⟨h1, h2, by simp at h3; omega⟩
        · split at h
          · cases h
          · cases h; exact ⟨rfl, rfl, by simp⟩
theorem wideN_lt {bs : List UInt8} {s s' : St} {n : Nat} (h : wideN bs s = .ok (n, s')) : n < 18446744073709551616 := by
  have key : ∀ (rest k acc : Nat) (s : St), k + rest = 10 → acc < 2 ^ (7 * k) → k ≤ 9 → wideP bs rest k acc s = .ok (n, s') → n < 18446744073709551616 := by
    intro rest
    induction rest with
    | zero => intro k acc s _ _ _ h; cases h
    | succ rest ih =>
      intro k acc s hk ha h9 h
      simp only [wideP] at h
      cases ho : oneP bs s with
      | error x => rw [ho] at h; cases h
      | ok y =>
        obtain ⟨c, s2⟩ := y
        rw [ho] at h
        obtain ⟨hc, rfl, _⟩ := oneP_ok ho
        simp only at h
        split at h
        · cases h
        · rename_i hn
          have hd : c % 128 < 128 := Nat.mod_lt _ (by decide)
          split at h
          · exact ih _ _ _ (by omega) (acc_lt ha hd) (by omega) h
          · split at h
            · cases h
            · cases h
              by_cases e9 : k = 9
              · subst e9
                have h1 : c % 128 ≤ 1 := by omega
                have : c % 128 * 2 ^ (7 * 9) ≤ 1 * 2 ^ (7 * 9) := Nat.mul_le_mul_right _ h1
                have h2 : acc < 9223372036854775808 := ha
                have h3 : c % 128 * 2 ^ (7 * 9) ≤ 9223372036854775808 := this
                omega
              · exact Nat.lt_of_lt_of_le (acc_lt (k := k) ha hd) (Nat.le_trans (pow_le9 (k := k + 1) (by omega)) (by decide))
  exact key 10 0 0 s rfl (by decide) (by decide) h
end Go.Proofs.Ytkfblapfphnggaa
/- The reader's names: the walk. -/
namespace Go.Proofs.Ytkfblapfphnggaa
open Go.RowKit
set_option maxRecDepth 100000

/-- behind the number: its way on -/
def nameK (bs : List UInt8) (k : Nat) : Rd ByteArray := fun s =>
  if s.names.length < k then .error 73
  else if k < s.names.length then .ok (s.names.getD k ⟨#[]⟩, s)
  else match oneP bs s with
    | .error e => .error e
    | .ok (size, s) =>
      if size < 1 ∨ 32 < size then .error 73
      else match someP bs size s with
        | .error e => .error e
        | .ok (l, s) =>
          if nameB ⟨l.toArray⟩ = true ∧ pos s.names ⟨l.toArray⟩ = none then .ok (⟨l.toArray⟩, { s with names := s.names ++ [⟨l.toArray⟩] })
          else .error 73
theorem nameP_eq (bs : List UInt8) (s : St) : nameP bs s = match wideN bs s with
  | .error e => .error e
  | .ok (k, s) => nameK bs k s := by
  unfold nameP nameK
  rfl
set_option maxHeartbeats 1000000 in
theorem name_low (R p m : Nat) (v bv : Value) (bs : List UInt8) (s s1 : St) (k : Nat) (w : World) (h : RdAt w R p m v bv bs s) (hw : wideN bs s = .ok (k, s1)) (hk : ¬ k = s1.names.length) :
    Calls Try.prog 30 #[.pointer (some ⟨R, 0, none⟩)] w (P2 R p m v bv bs w .string (nameP bs s)) := by
  have HN := Lib.hid (show nameP bs s = nameK bs k s1 by rw [nameP_eq, hw])
  have H1 := wide_any R p m v bv bs s w h
  rw [hw] at H1
  have HW := Lib.hid H1
  have hkl := wideN_lt hw
  clear H1 hw h
  go_enter Try.func30, Try.ntmps30
  go_wp2_with fail
  refine HW.out.mono ?_
  rintro e w1 ⟨rfl, hR1, hT1⟩
  have HR1 := Lib.hid hR1
  have HT1 := Lib.hid hT1
  have HL := Lib.hid (len_any p m v s1.names w1 hR1.tab)
  have r3 := hR1.c3
  have hnl := hR1.tab.len
  have f0 := wrap_u64_nat s1.names.length (by omega)
  clear hR1 hT1 HW
  go_wp2_with fail
  refine HL.out.mono ?_
  rintro e w2 ⟨rfl, rfl⟩
  by_cases hlt : k < s1.names.length
  · have hle : ((k : Int) ≤ (s1.names.length : Int)) := by omega
    have hlt' : ((k : Int) < (s1.names.length : Int)) := by omega
    have HK := Lib.hid (show nameK bs k s1 = .ok (s1.names[k], s1) by unfold nameK; rw [if_neg (by omega), if_pos hlt]; simp [List.getD, hlt])
    have HName := Lib.hid (tname_in p m v s1.names k w1 HR1.out.tab hlt)
    have f1 : IntKind.i64.wrap (k : Int) = k := IntWalk.i64_in _ (by omega)
    go_wp2_with fail
    refine (must_yes _ _).mono ?_
    rintro e w3 ⟨rfl, rfl⟩
    go_wp2_with fail
    refine HName.out.mono ?_
    rintro e w3 ⟨rfl, rfl⟩
    go_wp2_with fail
    go_ret
    rw [HN.out, HK.out]
    exact ⟨v, rfl, HR1.out, turnR HT1.out, .inl rfl⟩
  · have hle : decide (k ≤ s1.names.length) = false := decide_eq_false (by omega)
    have HK := Lib.hid (show nameK bs k s1 = .error 73 by unfold nameK; rw [if_pos (by omega)])
    go_wp2_with fail
    refine (must_no _ _).mono ?_
    rintro e w3 ⟨rfl, rfl⟩
    go_wp2_with fail
    refine ⟨rfl, ?_⟩
    rw [HN.out, HK.out]
    exact ⟨rfl, turnR HT1.out⟩
end Go.Proofs.Ytkfblapfphnggaa
