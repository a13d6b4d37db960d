/- Several texts in one. -/
import Derived.Test.YtkfblapfphnggaaD16
import Derived.Test.YtkfblapfphnggaaD05
import Derived.Test.YtkfblapfphnggaaD07
import Derived.Test.YtkfblapfphnggaaD17
import Derived.Test.YtkfblapfphnggaaD18
import Derived.Test.YtkfblapfphnggaaD19
import Derived.Test.YtkfblapfphnggaaD20
/- reader.part: where it fails at once. -/
namespace Go.Proofs.Ytkfblapfphnggaa
open Go.RowKit
set_option maxRecDepth 100000
attribute [local go_sem] run_store_complex

theorem rp_deep (R p m : Nat) (v bv : Value) (bs : List UInt8) (d : Int) (hd : 24 < d) (w : World) : Calls Try.prog 17 #[.pointer (some ⟨R, 0, none⟩), .int .i64 d] w (PartPost R p m v bv bs w (.error 20)) := by
  go_enter Try.func17, Try.ntmps17
  go_wp2_with fail
  refine (fail_any _ 20 _).mono ?_
  rintro e w3 ⟨rfl, rfl⟩
  go_wp2_with fail
  exact ⟨rfl, rfl, Turn.alloc _ w _⟩
theorem rp_big (R p m : Nat) (v bv : Value) (bs : List UInt8) (s : St) (d : Int) (hd : d ≤ 24) (w : World) (h : RdAt w R p m v bv bs s) (hn : 4096 < s.n + 1) : Calls Try.prog 17 #[.pointer (some ⟨R, 0, none⟩), .int .i64 d] w (PartPost R p m v bv bs w (.error 21)) := by
  have HA := Lib.hid (h.below ((Below.refl _ w).alloc (Nat.le_refl _) (.cells #[.int .i64 0, .int .i64 0, .complex .f64 0 0, .string ⟨#[]⟩, .int .i64 0, .int .u32 0, .int .u64 0, nilV, nilV] 31)))
  have r2 := HA.out.c2
  have rf := HA.out.fz 2
  have hn' : (4096 : Int) < (s.n : Int) + 1 := by omega
  have hnle := h.nle
  have hn2 : (s.n : Int) ≤ 4097 := by omega
  clear h hnle
  go_enter Try.func17, Try.ntmps17
  go_wp2_with fail
  have HT2 := Lib.hid ((Turn.alloc (fun i => i = R) w (.cells #[.int .i64 0, .int .i64 0, .complex .f64 0 0, .string ⟨#[]⟩, .int .i64 0, .int .u32 0, .int .u64 0, nilV, nilV] 31)).trans (Turn.setCell _ R 2 (.int .i64 ((s.n : Int) + 1))))
  refine (fail_any _ 21 _).mono ?_
  rintro e w3 ⟨rfl, rfl⟩
  go_wp2_with fail
  exact ⟨rfl, rfl, turnR HT2.out⟩
set_option maxHeartbeats 2000000 in
theorem rp_short (R p m : Nat) (v bv : Value) (bs : List UInt8) (s : St) (x : Int) (d : Int) (hd : d ≤ 24) (w : World) (h : RdAt w R p m v bv bs s) (hn : s.n + 1 ≤ 4096) (ho : oneP bs { s with n := s.n + 1 } = .error x) :
    Calls Try.prog 17 #[.pointer (some ⟨R, 0, none⟩), .int .i64 d] w (PartPost R p m v bv bs w (.error x)) := by
  have H := Lib.hid h
  have HO := Lib.hid ho
  have HA := Lib.hid (h.below ((Below.refl _ w).alloc (Nat.le_refl _) (.cells #[.int .i64 0, .int .i64 0, .complex .f64 0 0, .string ⟨#[]⟩, .int .i64 0, .int .u32 0, .int .u64 0, nilV, nilV] 31)))
  have r2 := HA.out.c2
  have rf := HA.out.fz 2
  have hn' : (s.n : Int) + 1 ≤ 4096 := by omega
  clear h ho
  go_enter Try.func17, Try.ntmps17
  go_wp2_with fail
  have HR2 : Hid (RdAt ((w.alloc (.cells #[.int .i64 0, .int .i64 0, .complex .f64 0 0, .string ⟨#[]⟩, .int .i64 0, .int .u32 0, .int .u64 0, nilV, nilV] 31)).setCell ⟨R, 2, none⟩ (.int .i64 ((s.n : Int) + 1))) R p m v bv bs { s with n := s.n + 1 }) := HA.out.store (by simp) rfl HA.out.ile (show s.n + 1 ≤ 4097 by omega)
  have HT2 := Lib.hid ((Turn.alloc (fun i => i = R) w (.cells #[.int .i64 0, .int .i64 0, .complex .f64 0 0, .string ⟨#[]⟩, .int .i64 0, .int .u32 0, .int .u64 0, nilV, nilV] 31)).trans (Turn.setCell _ R 2 (.int .i64 ((s.n : Int) + 1))))
  have hRl := H.out.lt R (.inl rfl)
  have hT0R : ¬ w.heap.size = R := by omega
  have HT0 := Lib.hid ((Below.heap_setCell (w.alloc (.cells #[.int .i64 0, .int .i64 0, .complex .f64 0 0, .string ⟨#[]⟩, .int .i64 0, .int .u32 0, .int .u64 0, nilV, nilV] 31)) ⟨R, 2, none⟩ (.int .i64 ((s.n : Int) + 1)) _ hT0R).trans (heap_new w _))
  generalize (w.alloc (.cells #[.int .i64 0, .int .i64 0, .complex .f64 0 0, .string ⟨#[]⟩, .int .i64 0, .int .u32 0, .int .u64 0, nilV, nilV] 31)).setCell ⟨R, 2, none⟩ (.int .i64 ((s.n : Int) + 1)) = w2 at *
  have H1 := one_any R p m v bv bs _ w2 HR2.out
  rw [HO.out] at H1
  obtain ⟨N, hN⟩ : ∃ N, w.heap.size = N := ⟨_, rfl⟩
  rw [hN] at hRl hT0R HT0 ⊢
  have HN := Lib.hid hN
  refine H1.mono ?_
  rintro e w3 ⟨rfl, hT3⟩
  go_wp2_with fail
  exact ⟨rfl, rfl, turnR (HT2.out.trans hT3)⟩
set_option maxHeartbeats 2000000 in
theorem rp_bad (R p m : Nat) (v bv : Value) (bs : List UInt8) (s s1 : St) (c : Nat) (sub : Rd Tm) (d : Int) (hd : d ≤ 24) (w : World) (h : RdAt w R p m v bv bs s) (hn : s.n + 1 ≤ 4096) (ho : oneP bs { s with n := s.n + 1 } = .ok (c, s1)) (hc : c < 256) (hb : c = 0 ∨ 8 < c) :
    Calls Try.prog 17 #[.pointer (some ⟨R, 0, none⟩), .int .i64 d] w (PartPost R p m v bv bs w (kindP bs sub c s1)) := by
  have H := Lib.hid h
  have HO := Lib.hid ho
  have HA := Lib.hid (h.below ((Below.refl _ w).alloc (Nat.le_refl _) (.cells #[.int .i64 0, .int .i64 0, .complex .f64 0 0, .string ⟨#[]⟩, .int .i64 0, .int .u32 0, .int .u64 0, nilV, nilV] 31)))
  have r2 := HA.out.c2
  have rf := HA.out.fz 2
  have hn' : (s.n : Int) + 1 ≤ 4096 := by omega
  clear h ho
  go_enter Try.func17, Try.ntmps17
  go_wp2_with fail
  have HR2 : Hid (RdAt ((w.alloc (.cells #[.int .i64 0, .int .i64 0, .complex .f64 0 0, .string ⟨#[]⟩, .int .i64 0, .int .u32 0, .int .u64 0, nilV, nilV] 31)).setCell ⟨R, 2, none⟩ (.int .i64 ((s.n : Int) + 1))) R p m v bv bs { s with n := s.n + 1 }) := HA.out.store (by simp) rfl HA.out.ile (show s.n + 1 ≤ 4097 by omega)
  have HT2 := Lib.hid ((Turn.alloc (fun i => i = R) w (.cells #[.int .i64 0, .int .i64 0, .complex .f64 0 0, .string ⟨#[]⟩, .int .i64 0, .int .u32 0, .int .u64 0, nilV, nilV] 31)).trans (Turn.setCell _ R 2 (.int .i64 ((s.n : Int) + 1))))
  have hRl := H.out.lt R (.inl rfl)
  have hT0R : ¬ w.heap.size = R := by omega
  have HT0 := Lib.hid ((Below.heap_setCell (w.alloc (.cells #[.int .i64 0, .int .i64 0, .complex .f64 0 0, .string ⟨#[]⟩, .int .i64 0, .int .u32 0, .int .u64 0, nilV, nilV] 31)) ⟨R, 2, none⟩ (.int .i64 ((s.n : Int) + 1)) _ hT0R).trans (heap_new w _))
  generalize (w.alloc (.cells #[.int .i64 0, .int .i64 0, .complex .f64 0 0, .string ⟨#[]⟩, .int .i64 0, .int .u32 0, .int .u64 0, nilV, nilV] 31)).setCell ⟨R, 2, none⟩ (.int .i64 ((s.n : Int) + 1)) = w2 at *
  have H1 := one_any R p m v bv bs _ w2 HR2.out
  rw [HO.out] at H1
  obtain ⟨N, hN⟩ : ∃ N, w.heap.size = N := ⟨_, rfl⟩
  rw [hN] at hRl hT0R HT0 ⊢
  have HN := Lib.hid hN
  refine H1.mono ?_
  rintro e w3 ⟨rfl, hR3, hT3⟩
  have HR3 := Lib.hid hR3
  have HT3 := Lib.hid (HT2.out.trans hT3)
  have HT03 := Lib.hid ((hT3.block N (blk_lt HT0.out) hT0R).trans HT0.out)
  have hNl : N < w3.heap.size := blk_lt HT03.out
  clear hR3 hT3 hN HA HR2 HT2 HT0 H1 r2 rf hn' HO
  have e0 : IntKind.i64.wrap (c : Int) = c := IntWalk.i64_in _ (by omega)
  have e1 : ((c : Int) == 1) = false := by rw [beq_eq_false_iff_ne]; omega
  have e2 : ((c : Int) == 2) = false := by rw [beq_eq_false_iff_ne]; omega
  have e3 : ((c : Int) == 3) = false := by rw [beq_eq_false_iff_ne]; omega
  have e4 : ((c : Int) == 4) = false := by rw [beq_eq_false_iff_ne]; omega
  have e5 : ((c : Int) == 5) = false := by rw [beq_eq_false_iff_ne]; omega
  have e6 : ((c : Int) == 6) = false := by rw [beq_eq_false_iff_ne]; omega
  have e7 : ((c : Int) == 7) = false := by rw [beq_eq_false_iff_ne]; omega
  have e8 : ((c : Int) == 8) = false := by rw [beq_eq_false_iff_ne]; omega
  have HR4 := Lib.hid (HR3.out.below ((Below.refl _ w3).alloc (Nat.le_refl _) (.cells #[.int .i64 (c : Int), .int .i64 0, .complex .f64 0 0, .string ⟨#[]⟩, .int .i64 0, .int .u32 0, .int .u64 0, nilV, nilV] 31)))
  have HT4 := Lib.hid (turnR (p := p) (m := m) (v := v) (HT3.out.trans (Turn.alloc (fun i => i = R) w3 (.cells #[.int .i64 (c : Int), .int .i64 0, .complex .f64 0 0, .string ⟨#[]⟩, .int .i64 0, .int .u32 0, .int .u64 0, nilV, nilV] 31))))
  have HT04 := Lib.hid ((Below.heap_alloc w3 (.cells #[.int .i64 (c : Int), .int .i64 0, .complex .f64 0 0, .string ⟨#[]⟩, .int .i64 0, .int .u32 0, .int .u64 0, nilV, nilV] 31) N hNl).trans HT03.out)
  have HT14 := Lib.hid (heap_new w3 (.cells #[.int .i64 (c : Int), .int .i64 0, .complex .f64 0 0, .string ⟨#[]⟩, .int .i64 0, .int .u32 0, .int .u64 0, nilV, nilV] 31))
  have hT1R : ¬ w3.heap.size = R := by omega
  obtain ⟨k0, k1, k2, k3, k4, k5, k6, k7, k8⟩ := NineAt.of_block HT14.out
  go_wp2_with fail
  clear k0 k1 k2 k3 k4 k5 k6 k7 k8 HR3 HT3 HT03
  generalize w3.alloc (.cells #[.int .i64 (c : Int), .int .i64 0, .complex .f64 0 0, .string ⟨#[]⟩, .int .i64 0, .int .u32 0, .int .u64 0, nilV, nilV] 31) = w4 at *
  generalize w3.heap.size = T at *
  refine (fail_any _ 73 _).mono ?_
  rintro e w5 ⟨rfl, rfl⟩
  have HK := Lib.hid (show kindP bs sub c s1 = .error 73 by
    unfold kindP
    rw [if_neg (by omega), if_neg (by omega), if_neg (by omega), if_neg (by omega), if_neg (by omega), if_neg (by omega)])
  go_wp2_with fail
  refine ⟨rfl, ?_⟩
  rw [HK.out]
  exact ⟨rfl, HT4.out⟩
end Go.Proofs.Ytkfblapfphnggaa
/- What is read is right: plain Lean, no program here. -/
namespace Go.Proofs.Ytkfblapfphnggaa
open Go.RowKit
set_option maxRecDepth 100000

theorem some_st {bs l : List UInt8} {s s' : St} {n : Nat} (h : someP bs n s = .ok (l, s')) : s' = { s with i := s.i + n } ∧ l.length = n ∧ s.i + n ≤ bs.length := by
  unfold someP at h
  split at h
  · cases h
    exact ⟨rfl, by simp; omega, by omega⟩
  · cases h
theorem wordOf_lt8 (l : List UInt8) (h : l.length = 8) : wordOf l < 18446744073709551616 := by
  have := wordOf_lt l
  rw [h] at this
  exact this
theorem name_st {bs : List UInt8} {s s' : St} {x : ByteArray} (h : nameP bs s = .ok (x, s')) : s'.n = s.n ∧ s'.names.length ≤ s.names.length + 1 ∧ ((∀ y ∈ s.names, nameB y = true) → nameB x = true ∧ ∀ y ∈ s'.names, nameB y = true) := by
  unfold nameP at h
  cases hw : wideN bs s with
  | error e => rw [hw] at h; cases h
  | ok y =>
    obtain ⟨k, s1⟩ := y
    obtain ⟨w1, w2, _⟩ := wide_names _ _ _ _ _ _ hw
    rw [hw] at h
    simp only at h
    split at h
    · cases h
    · split at h
      · rename_i hk
        cases h
        refine ⟨w2, by rw [w1]; omega, fun hn => ⟨?_, by rw [w1]; exact hn⟩⟩
        have : s'.names.getD k ⟨#[]⟩ = s'.names[k] := by simp [List.getD, hk]
        rw [this]
        exact hn _ (by rw [← w1]; exact List.getElem_mem hk)
      · cases ho : oneP bs s1 with
        | error e => rw [ho] at h; cases h
        | ok y =>
          obtain ⟨size, s2⟩ := y
          obtain ⟨_, o2, _⟩ := oneP_ok ho
          rw [ho] at h
          simp only at h
          split at h
          · cases h
          · cases hs : someP bs size s2 with
            | error e => rw [hs] at h; cases h
            | ok y =>
              obtain ⟨l, s3⟩ := y
              obtain ⟨e3, _, _⟩ := some_st hs
              rw [hs] at h
              simp only at h
              split at h
              · rename_i hb
                cases h
                have e : s3.names = s.names := by rw [e3, o2]; exact w1
                refine ⟨by rw [e3, o2]; exact w2, by simp [e], fun hn => ⟨hb.1, ?_⟩⟩
                intro y hy
                rw [e] at hy
                rcases List.mem_append.1 hy with hy | hy
                · exact hn y hy
                · simp at hy; subst hy; exact hb.1
              · cases h
/-- what a reader of a part leaves: so much more was counted -/
structure Read (rest more : Nat) (s : St) (t : Tm) (s' : St) : Prop where
  cnt : s'.n + more = s.n + sizeT t
  le : s'.n ≤ 4096
  nms : s.names.length + more ≤ s.n → s'.names.length ≤ s'.n
  good : (∀ y ∈ s.names, nameB y = true) → GoodT rest t ∧ ∀ y ∈ s'.names, nameB y = true
theorem many_read {sub : Rd Tm} {rest : Nat} (hsub : ∀ s t s', sub s = .ok (t, s') → Read rest 0 s t s') : ∀ (k : Nat) (s : St) (l : List Tm) (s' : St), manyP sub k s = .ok (l, s') →
    l.length = k ∧ s'.n = s.n + sizeTs l ∧ (s.n ≤ 4096 → s'.n ≤ 4096) ∧ (s.names.length ≤ s.n → s'.names.length ≤ s'.n) ∧ ((∀ y ∈ s.names, nameB y = true) → (∀ t ∈ l, GoodT rest t) ∧ ∀ y ∈ s'.names, nameB y = true) := by
  intro k
  induction k with
  | zero =>
    intro s l s' h
    cases h
    exact ⟨rfl, rfl, id, id, fun h => ⟨by simp, h⟩⟩
  | succ k ih =>
    intro s l s' h
    simp only [manyP] at h
    cases hs : sub s with
    | error e => rw [hs] at h; cases h
    | ok y =>
      obtain ⟨t, s1⟩ := y
      rw [hs] at h
      simp only at h
      cases hm : manyP sub k s1 with
      | error e => rw [hm] at h; cases h
      | ok y =>
        obtain ⟨l2, s2⟩ := y
        rw [hm] at h
        cases h
        obtain ⟨a1, a2, a3, a4, a5⟩ := ih _ _ _ hm
        have r := hsub _ _ _ hs
        have r1 := r.cnt
        refine ⟨by simp [a1], by simp only [sizeTs]; omega, fun _ => a3 r.le, fun hn => a4 (by have := r.nms (by omega); omega), fun hn => ?_⟩
        obtain ⟨g1, g2⟩ := r.good hn
        obtain ⟨g3, g4⟩ := a5 g2
        exact ⟨fun x hx => by
          rcases List.mem_cons.1 hx with rfl | hx
          · exact g1
          · exact g3 x hx, g4⟩
theorem wordOf_take {l : List UInt8} (h : l.length = 16) : wordOf (l.take 8) < 18446744073709551616 ∧ wordOf (l.drop 8) < 18446744073709551616 :=
  ⟨wordOf_lt8 _ (by simp; omega), wordOf_lt8 _ (by simp; omega)⟩
theorem kind_read {bs : List UInt8} {sub : Rd Tm} {rest c : Nat} (hsub : ∀ s t s', sub s = .ok (t, s') → Read rest 0 s t s') {s s' : St} {t : Tm} (h : kindP bs sub c s = .ok (t, s')) (hn : s.n ≤ 4096) : Read (rest + 1) 1 s t s' := by
  unfold kindP at h
  split at h
  · cases hw : wideN bs s with
    | error e => rw [hw] at h; cases h
    | ok y =>
      obtain ⟨u, s1⟩ := y
      obtain ⟨w1, w2, _⟩ := wide_names _ _ _ _ _ _ hw
      rw [hw] at h
      simp only at h
      split at h
      · rename_i hr
        cases h
        exact ⟨by simp [sizeT, sizeTs, w2], by omega, by rw [w1, w2]; omega, fun hy => ⟨⟨HdOk.int _ hr, by simp⟩, by rw [w1]; exact hy⟩⟩
      · cases h
  · split at h
    · cases hw : someP bs 16 s with
      | error e => rw [hw] at h; cases h
      | ok y =>
        obtain ⟨l, s1⟩ := y
        obtain ⟨e1, e2, _⟩ := some_st hw
        rw [hw] at h
        simp only at h
        split at h
        · rename_i hr
          cases h
          obtain ⟨p1, p2⟩ := wordOf_take e2
          exact ⟨by simp [sizeT, sizeTs, e1], by rw [e1]; exact hn, by rw [e1]; exact fun h => Nat.le_of_succ_le h, fun hy => ⟨⟨HdOk.cx _ _ p1 p2 (by simp [hr.1, hr.2]), by simp⟩, by rw [e1]; exact hy⟩⟩
        · cases h
    · split at h
      · cases hw : nameP bs s with
        | error e => rw [hw] at h; cases h
        | ok y =>
          obtain ⟨x, s1⟩ := y
          obtain ⟨w1, w2, w3⟩ := name_st hw
          rw [hw] at h
          cases h
          exact ⟨by simp [sizeT, sizeTs, w1], by omega, by rw [w1]; omega, fun hy => ⟨⟨HdOk.atom _ (w3 hy).1, by simp⟩, (w3 hy).2⟩⟩
      · split at h
        · rename_i hc
          cases ho : oneP bs s with
          | error e => rw [ho] at h; cases h
          | ok y =>
            obtain ⟨node, s1⟩ := y
            obtain ⟨o1, o2, _⟩ := oneP_ok ho
            rw [ho] at h
            simp only at h
            cases hw : wideN bs s1 with
            | error e => rw [hw] at h; cases h
            | ok y =>
              obtain ⟨boot, s2⟩ := y
              obtain ⟨w1, w2, _⟩ := wide_names _ _ _ _ _ _ hw
              rw [hw] at h
              simp only at h
              split at h
              · cases h
              · rename_i hb
                cases hv : wideN bs s2 with
                | error e => rw [hv] at h; cases h
                | ok y =>
                  obtain ⟨idn, s3⟩ := y
                  obtain ⟨v1, v2, _⟩ := wide_names _ _ _ _ _ _ hv
                  rw [hv] at h
                  simp only at h
                  split at h
                  · rename_i hi
                    cases h
                    have n1 : s1.n = s.n := by rw [o2]
                    have n2 : s1.names = s.names := by rw [o2]
                    exact ⟨by simp [sizeT, sizeTs]; omega, by omega, by rw [v1, w1, n2]; omega, fun hy => ⟨⟨HdOk.id c node boot idn hc o1 (by omega) (wideN_lt hv) hi, by simp⟩, by rw [v1, w1, n2]; exact hy⟩⟩
                  · cases h
        · split at h
          · rename_i hc
            cases hw : wideN bs s with
            | error e => rw [hw] at h; cases h
            | ok y =>
              obtain ⟨k, s1⟩ := y
              obtain ⟨w1, w2, _⟩ := wide_names _ _ _ _ _ _ hw
              rw [hw] at h
              simp only at h
              split at h
              · cases h
              · rename_i hk
                cases hm : manyP sub k s1 with
                | error e => rw [hm] at h; cases h
                | ok y =>
                  obtain ⟨l, s2⟩ := y
                  rw [hm] at h
                  cases h
                  obtain ⟨a1, a2, a3, a4, a5⟩ := many_read hsub _ _ _ _ hm
                  refine ⟨by simp only [sizeT, List.length_nil]; omega, a3 (by omega), fun h => by have := a4 (by rw [w1, w2]; omega); omega, fun hy => ?_⟩
                  obtain ⟨g1, g2⟩ := a5 (by rw [w1]; exact hy)
                  exact ⟨⟨HdOk.list c l hc (by omega), g1⟩, g2⟩
          · split at h
            · cases hw : wideN bs s with
              | error e => rw [hw] at h; cases h
              | ok y =>
                obtain ⟨k, s1⟩ := y
                obtain ⟨w1, w2, _⟩ := wide_names _ _ _ _ _ _ hw
                rw [hw] at h
                simp only at h
                split at h
                · cases h
                · rename_i hk
                  cases hm : someP bs k { s1 with n := s1.n + k } with
                  | error e => rw [hm] at h; cases h
                  | ok y =>
                    obtain ⟨l, s2⟩ := y
                    obtain ⟨e1, e2, _⟩ := some_st hm
                    rw [hm] at h
                    cases h
                    have n2 : s'.n = s1.n + k := by rw [e1]
                    have n3 : s'.names = s.names := by rw [e1]; exact w1
                    exact ⟨by simp only [sizeT, sizeTs]; omega, by omega, by rw [n3]; omega, fun hy => ⟨⟨HdOk.bytes l, by simp⟩, by rw [n3]; exact hy⟩⟩
            · cases h
theorem part_read (bs : List UInt8) : ∀ (rest : Nat) (s : St) (t : Tm) (s' : St), partP bs rest s = .ok (t, s') → Read rest 0 s t s' := by
  intro rest
  induction rest with
  | zero => intro s t s' h; cases h
  | succ rest ih =>
    intro s t s' h
    unfold partP at h
    split at h
    · cases h
    · rename_i hn
      cases ho : oneP bs { s with n := s.n + 1 } with
      | error e => rw [ho] at h; cases h
      | ok y =>
        obtain ⟨c, s1⟩ := y
        obtain ⟨o1, o2, _⟩ := oneP_ok ho
        rw [ho] at h
        simp only at h
        have n1 : s1.n = s.n + 1 := by rw [o2]
        have n2 : s1.names = s.names := by rw [o2]
        have r := kind_read ih h (by omega)
        have r1 := r.cnt
        exact ⟨by omega, r.le, fun hx => r.nms (by rw [n2]; omega), fun hy => r.good (by rw [n2]; exact hy)⟩
end Go.Proofs.Ytkfblapfphnggaa
/- reader.part, whatever the bytes. -/
namespace Go.Proofs.Ytkfblapfphnggaa
open Go.RowKit
set_option maxRecDepth 100000

theorem rpart_any (R p m : Nat) (bv : Value) (bs : List UInt8) : ∀ (rest : Nat), rest ≤ 24 → ∀ (d : Int), d = 25 - (rest : Int) → ∀ (v : Value) (s : St) (w : World), RdAt w R p m v bv bs s → s.names.length ≤ s.n →
    Calls Try.prog 17 #[.pointer (some ⟨R, 0, none⟩), .int .i64 d] w (PartPost R p m v bv bs w (partP bs rest s)) := by
  intro rest
  induction rest with
  | zero =>
    intro _ d hd v s w h hn
    exact rp_deep R p m v bv bs d (by omega) w
  | succ rest ih =>
    intro hr d hd v s w h hn
    have hd24 : d ≤ 24 := by omega
    unfold partP
    by_cases hb : 4096 < s.n + 1
    · rw [if_pos hb]
      exact rp_big R p m v bv bs s d hd24 w h hb
    · rw [if_neg hb]
      have hn1 : s.n + 1 ≤ 4096 := by omega
      cases ho : oneP bs { s with n := s.n + 1 } with
      | error x => exact rp_short R p m v bv bs s x d hd24 w h hn1 ho
      | ok y =>
        obtain ⟨c, s1⟩ := y
        obtain ⟨o1, o2, _⟩ := oneP_ok ho
        have n1 : s1.n = s.n + 1 := by rw [o2]
        have n2 : s1.names = s.names := by rw [o2]
        have hsn : ∀ s t s', s.names.length ≤ s.n → partP bs rest s = .ok (t, s') → s'.names.length ≤ s'.n := fun s t s' hn h => (part_read bs rest s t s' h).nms hn
        have hsub : ∀ v s w, RdAt w R p m v bv bs s → s.names.length ≤ s.n → Calls Try.prog 17 #[.pointer (some ⟨R, 0, none⟩), .int .i64 (d + 1)] w (PartPost R p m v bv bs w (partP bs rest s)) :=
          fun v s w h hn => ih (by omega) _ (by omega) v s w h hn
        show Calls _ _ _ _ (PartPost R p m v bv bs w (kindP bs (partP bs rest) c s1))
        by_cases c1 : c = 1
        · subst c1; exact rp1 R p m v bv bs s s1 _ d hd24 w h hn1 ho
        by_cases c2 : c = 2
        · subst c2; exact rp2 R p m v bv bs s s1 _ d hd24 w h hn1 ho
        by_cases c3 : c = 3
        · subst c3; exact rp3 R p m v bv bs s s1 _ d hd24 w h hn1 ho (by rw [n2]; omega)
        by_cases c4 : c = 4
        · subst c4; exact rp4 R p m v bv bs s s1 _ d hd24 w h hn1 ho
        by_cases c5 : c = 5
        · subst c5; exact rp5 R p m v bv bs s s1 _ d hd24 w h hn1 ho
        by_cases c6 : c = 6
        · subst c6; exact rp6 R p m v bv bs s s1 _ d hd24 w h hn1 ho n1 (by rw [n1, n2]; omega) (by omega) hsn hsub
        by_cases c7 : c = 7
        · subst c7; exact rp7 R p m v bv bs s s1 _ d hd24 w h hn1 ho n1 (by rw [n1, n2]; omega) (by omega) hsn hsub
        by_cases c8 : c = 8
        · subst c8; exact rp8 R p m v bv bs s s1 _ d hd24 w h hn1 ho n1
        · exact rp_bad R p m v bv bs s s1 c _ d hd24 w h hn1 ho o1 (by omega)
end Go.Proofs.Ytkfblapfphnggaa
