/- Several texts in one. -/
import Derived.Test.YtkfblapfphnggaaD11
/- The writer's part: an atom. -/
namespace Go.Proofs.Ytkfblapfphnggaa
open Go.RowKit
set_option maxRecDepth 100000
attribute [local go_sem] run_store_complex

theorem bytes_map (s : ByteArray) : s.data.toList.map cellB = byteCells s := rfl
set_option maxHeartbeats 4000000 in
theorem wp3_old (B Wb p m : Nat) (v : Value) (a : Option Addr) (c : Nat) (out : List UInt8) (names : List ByteArray) (s : ByteArray) (k : Nat) (hp : pos names s = some k) (hs : nameB s = true) (w : World) (h : WrAt B Wb p m v a c out names w) (hlen : out.length + 100 ≤ 1000000000) (hnl : names.length < 4096) :
    Calls Try.prog 23 #[.pointer (some ⟨Wb, 0, none⟩), .agg #[.int .i64 3, .int .i64 0, .complex .f64 0 0, .string s, .int .i64 0, .int .u32 0, .int .u64 0, nilV, nilV]] w (WrPost B Wb p m v a c out w (out ++ (UInt8.ofNat 3 :: (atomB names s).1)) (atomB names s).2) := by
  have hs32 := nameB_32 hs
  have hsm : s.size ≤ maxLen := by unfold maxLen; omega
  have HPut := Lib.hid (show putL names s = (names, k, 0) by simp [putL, hs, hp])
  have HAt := Lib.hid (show atomB names s = (wideB k, names) by simp [atomB, hp])
  have hkl : k < names.length := (pos_lt hp).1
  have HKl := Lib.hid hkl
  clear hkl
  have HNl := Lib.hid hnl
  clear hs hp hnl
  have HL1 := Lib.hid hlen
  obtain ⟨i0, hi, hz0, hz1, hz2⟩ := info_parts infoU8
  have X1 := Lib.hid hi
  have X2 := Lib.hid hz0
  have X3 := Lib.hid hz1
  have X4 := Lib.hid hz2
  have HX0 := Lib.hid (heap_new w (.cells #[.int .i64 3, .int .i64 0, .complex .f64 0 0, .string s, .int .i64 0, .int .u32 0, .int .u64 0, nilV, nilV] 31))
  have HSa := Lib.hid (h.stay ((Below.refl _ w).alloc (Nat.le_refl _) (.cells #[.int .i64 3, .int .i64 0, .complex .f64 0 0, .string s, .int .i64 0, .int .u32 0, .int .u64 0, nilV, nilV] 31)))
  have HNf := Lib.hid (show ¬ wfoot Wb p m v a out.length c w.heap.size from fun e => by have := (h.foot _ e).2; omega)
  have HBl := Lib.hid (show w.heap.size < (w.alloc (.cells #[.int .i64 3, .int .i64 0, .complex .f64 0 0, .string s, .int .i64 0, .int .u32 0, .int .u64 0, nilV, nilV] 31)).heap.size by simp)
  have HBw := Lib.hid h.bl
  clear h hi hz0 hz1 hz2 hlen
  go_enter Try.func23, Try.ntmps23
  go_wp2_with fail
  obtain ⟨b0, hb0⟩ : ∃ b, w.heap.size = b := ⟨_, rfl⟩
  rw [hb0] at HNf HBl HX0 ⊢
  have HB0 := Lib.hid hb0
  clear hb0
  generalize w.alloc (.cells #[.int .i64 3, .int .i64 0, .complex .f64 0 0, .string s, .int .i64 0, .int .u32 0, .int .u64 0, nilV, nilV] 31) = w1 at *
  have HS1 := Lib.hid (HSa.out.wr.stay (Below.refl _ w1))
  have HX1 := Lib.hid ((HS1.out.keep HBl.out HNf.out).trans HX0.out)
  obtain ⟨k0, k1, k2, k3, k4, k5, k6, k7, k8⟩ := NineAt.of_block HX1.out
  have wc0 := HS1.out.wr.c0
  have wc1 := HS1.out.wr.c1
  have wf0 := HS1.out.wr.fz 0
  have hwl := HS1.out.wr.wl
  have hbn : ¬ b0 = Wb := fun e => HNf.out (.inl e)
  have HM1 := Lib.hid (show out.length + 1 ≤ maxLen by have := HL1.out; unfold maxLen; omega)
  have HM2 := Lib.hid (show (out.length + 1) * 1 ≤ 140737488355328 by have := HL1.out; omega)
  have HM3 : Hid (B ≤ (w1.drew.alloc (.cells #[.int .u8 3] 5)).heap.size) := Lib.hid (by have := HS1.out.wr.bl; simp; omega)
  obtain ⟨o2, hO2⟩ : ∃ x, out ++ [UInt8.ofNat 3] = x := ⟨_, rfl⟩
  have HL2 := Lib.hid (show o2.length + 90 ≤ 1000000000 by rw [← hO2, List.length_append, show ([UInt8.ofNat 3] : List UInt8).length = 1 from (rfl)]; have := HL1.out; omega)
  have HO2 := Lib.hid hO2
  clear hO2
  go_cut [3] from 9 to 20 (fun t3 wx => t3 = .pointer (some ⟨b0, 0, none⟩) ∧ ∃ (v' : Value) (a' : Option Addr) (c' : Nat), WrStep B Wb p m v a c out w1 v' a' c' o2 names wx)
  case first =>
    go_region_law (first
      | (refine step_app (by rfl) (.tmp 13) (.tmp 17) 22 22 (by rfl) B 5 i0 (.int .u8 0) 1 1 Try.underlying22 X1.out X2.out X3.out X4.out rfl (by decide) (.slice a out.length c) out.length (out.map cellB) (by rfl) (HS1.out.wr.row.drew.alloc _) (.slice (some ⟨w1.heap.size, 0, none⟩) 1 1) 1 [.int .u8 3] (by rfl) (src_one w1.drew Try.underlying22 _ _ rfl) HM1.out HM2.out HM3.out ?_; intro a4 c4 wz ho4 hg4 hl4; have HA := Lib.hid (HS1.out.wr.app (W0 := (w1.drew.alloc (.cells #[.int .u8 3] 5))) ((Below.refl _ w1).drew.alloc (Nat.le_refl _) _) (news := [UInt8.ofNat 3]) (k := 1) (rfl) hg4 (by rw [cell1 (x := 3) (by decide) rfl]; exact ho4) hl4); have hK := HS1.out.wr.kept (W0 := (w1.drew.alloc (.cells #[.int .u8 3] 5))) ((Below.refl _ w1).drew.alloc (Nat.le_refl _) _) hg4; obtain ⟨y4, z4⟩ := hK; clear ho4 hg4 hl4))
    all_goals
      go_wp2_with fail
      go_meet
      exact ⟨rfl, _, _, _, by rw [← HO2.out]; exact HS1.out.trans HA.out⟩
  clear k0 k1 k2 k3 k4 k5 k6 k7 k8 wc0 wc1 wf0 hwl hbn
  obtain ⟨rfl, v2, a2, c2, hs⟩ := hcut
  have HS2 := Lib.hid hs
  clear hs HM1 HM2 HM3
  obtain ⟨w2, rfl⟩ : ∃ x, x = wc := ⟨_, rfl⟩
  have HX2 := Lib.hid ((HS2.out.keep HBl.out HNf.out).trans HX0.out)
  obtain ⟨k0, k1, k2, k3, k4, k5, k6, k7, k8⟩ := NineAt.of_block HX2.out
  have wc0 := HS2.out.wr.c0
  have wc1 := HS2.out.wr.c1
  have wf0 := HS2.out.wr.fz 0
  have hwl := HS2.out.wr.wl
  have hbn : ¬ b0 = Wb := fun e => HNf.out (.inl e)
  go_wp2_with fail
  clear k0 k1 k2 k3 k4 k5 k6 k7 k8 wc0 wc1 wf0 hwl hbn HX2
  refine (len_any p m v2 names w2 HS2.out.wr.tab).mono ?_
  rintro e w3 ⟨rfl, rfl⟩
  have HX2 := Lib.hid ((HS2.out.keep HBl.out HNf.out).trans HX0.out)
  obtain ⟨k0, k1, k2, k3, k4, k5, k6, k7, k8⟩ := NineAt.of_block HX2.out
  have wc0 := HS2.out.wr.c0
  have wc1 := HS2.out.wr.c1
  have wf0 := HS2.out.wr.fz 0
  have hwl := HS2.out.wr.wl
  have hbn : ¬ b0 = Wb := fun e => HNf.out (.inl e)
  go_upto_region 10 with fail
  have H1 := tput_any p m v2 names s w2.drew (HS2.out.wr.tab.below (Below.refl _ _).drew) hsm
  have H1 := Lib.hid H1
  go_cut [4, 5] from 55 to 64 (fun t4 t5 wx => t4 = .int .i64 names.length ∧ t5 = .int .i64 k ∧ ∃ (v' : Value) (a' : Option Addr) (c' : Nat), WrStep B Wb p m v a c out w1 v' a' c' o2 names wx)
  case first =>
    go_region_with ((with_reducible refine H1.out.mono ?_); rintro e wp hr; obtain ⟨v3, rfl, ht, hT, hv⟩ := hr; have hT' := ht; rw [HPut.out] at hT'; have HA3 := Lib.hid ((HS2.out.trans ((HS2.out.wr.stay (Below.refl _ _).drew).trans ((HS2.out.wr.below (Below.refl _ _).drew).put hT' hT hv)))); clear ht hT hv hT')
    all_goals
      go_wp2_with fail
      go_meet
      exact ⟨rfl, by rw [HPut.out], _, _, _, HA3.out⟩
  clear k0 k1 k2 k3 k4 k5 k6 k7 k8 wc0 wc1 wf0 hwl hbn HX2 H1
  obtain ⟨rfl, rfl, v3, a3, c3, hs⟩ := hcut
  have HS3 := Lib.hid hs
  clear hs
  obtain ⟨w3, rfl⟩ : ∃ x, x = wc := ⟨_, rfl⟩
  obtain ⟨o3, ho3⟩ : ∃ x, o2 = x := ⟨_, rfl⟩
  have HL3 := Lib.hid (show o3.length + 90 ≤ 1000000000 by rw [← ho3]; exact HL2.out)
  have HO3 := Lib.hid ho3
  rw [ho3] at HS3
  clear ho3
  have HX3 := Lib.hid ((HS3.out.keep HBl.out HNf.out).trans HX0.out)
  obtain ⟨k0, k1, k2, k3, k4, k5, k6, k7, k8⟩ := NineAt.of_block HX3.out
  have wc0 := HS3.out.wr.c0
  have wc1 := HS3.out.wr.c1
  have wf0 := HS3.out.wr.fz 0
  have hwl := HS3.out.wr.wl
  have hbn : ¬ b0 = Wb := fun e => HNf.out (.inl e)
  have hnw : IntKind.u64.wrap (k : Int) = k := wrap_u64_nat _ (by have := HNl.out; have := HKl.out; omega)
  go_wp2_with fail
  clear k0 k1 k2 k3 k4 k5 k6 k7 k8 wc0 wc1 wf0 hwl hbn
  refine (wwide_any B Wb p m v3 a3 c3 o3 names k (by have := HNl.out; have := HKl.out; omega) w3 HS3.out.wr (by have := HL3.out; omega)).mono ?_
  rintro e w4 ⟨rfl, v4, a4, c4, hs⟩
  have HS4 := Lib.hid (HS3.out.trans hs)
  clear hs
  obtain ⟨o4, hO4⟩ : ∃ x, o3 ++ wideB k = x := ⟨_, rfl⟩
  have HL4 := Lib.hid (show o4.length + 70 ≤ 1000000000 by rw [← hO4, List.length_append]; have := HL3.out; have := wideB_len k; omega)
  rw [hO4] at HS4
  have HO4 := Lib.hid hO4
  clear hO4
  clear hnw
  have hne : ((k : Int) == (names.length : Int)) = false := beq_eq_false_iff_ne.2 (by have := HKl.out; omega)
  go_wp2_with fail
  go_end0
  exact ⟨rfl, v4, a4, c4, by rw [HAt.out]; simp only []; rw [show out ++ (UInt8.ofNat 3 :: wideB k) = o4 by rw [← HO4.out, ← HO3.out, ← HO2.out]; simp]; exact HSa.out.trans HS4.out⟩
set_option maxHeartbeats 4000000 in
theorem wp3_new (B Wb p m : Nat) (v : Value) (a : Option Addr) (c : Nat) (out : List UInt8) (names : List ByteArray) (s : ByteArray) (hp : pos names s = none) (hs : nameB s = true) (w : World) (h : WrAt B Wb p m v a c out names w) (hlen : out.length + 100 ≤ 1000000000) (hnl : names.length < 4096) :
    Calls Try.prog 23 #[.pointer (some ⟨Wb, 0, none⟩), .agg #[.int .i64 3, .int .i64 0, .complex .f64 0 0, .string s, .int .i64 0, .int .u32 0, .int .u64 0, nilV, nilV]] w (WrPost B Wb p m v a c out w (out ++ (UInt8.ofNat 3 :: (atomB names s).1)) (atomB names s).2) := by
  have hs32 := nameB_32 hs
  have hsm : s.size ≤ maxLen := by unfold maxLen; omega
  have HPut := Lib.hid (show putL names s = (names ++ [s], names.length, 0) by simp [putL, hs, hp]; omega)
  have HAt := Lib.hid (show atomB names s = (wideB names.length ++ (UInt8.ofNat s.size :: s.data.toList), names ++ [s]) by simp [atomB, hp])
  have HKl := Lib.hid trivial
  have HNl := Lib.hid hnl
  clear hs hp hnl
  have HL1 := Lib.hid hlen
  obtain ⟨i0, hi, hz0, hz1, hz2⟩ := info_parts infoU8
  have X1 := Lib.hid hi
  have X2 := Lib.hid hz0
  have X3 := Lib.hid hz1
  have X4 := Lib.hid hz2
  have HX0 := Lib.hid (heap_new w (.cells #[.int .i64 3, .int .i64 0, .complex .f64 0 0, .string s, .int .i64 0, .int .u32 0, .int .u64 0, nilV, nilV] 31))
  have HSa := Lib.hid (h.stay ((Below.refl _ w).alloc (Nat.le_refl _) (.cells #[.int .i64 3, .int .i64 0, .complex .f64 0 0, .string s, .int .i64 0, .int .u32 0, .int .u64 0, nilV, nilV] 31)))
  have HNf := Lib.hid (show ¬ wfoot Wb p m v a out.length c w.heap.size from fun e => by have := (h.foot _ e).2; omega)
  have HBl := Lib.hid (show w.heap.size < (w.alloc (.cells #[.int .i64 3, .int .i64 0, .complex .f64 0 0, .string s, .int .i64 0, .int .u32 0, .int .u64 0, nilV, nilV] 31)).heap.size by simp)
  have HBw := Lib.hid h.bl
  clear h hi hz0 hz1 hz2 hlen
  go_enter Try.func23, Try.ntmps23
  go_wp2_with fail
  obtain ⟨b0, hb0⟩ : ∃ b, w.heap.size = b := ⟨_, rfl⟩
  rw [hb0] at HNf HBl HX0 ⊢
  have HB0 := Lib.hid hb0
  clear hb0
  generalize w.alloc (.cells #[.int .i64 3, .int .i64 0, .complex .f64 0 0, .string s, .int .i64 0, .int .u32 0, .int .u64 0, nilV, nilV] 31) = w1 at *
  have HS1 := Lib.hid (HSa.out.wr.stay (Below.refl _ w1))
  have HX1 := Lib.hid ((HS1.out.keep HBl.out HNf.out).trans HX0.out)
  obtain ⟨k0, k1, k2, k3, k4, k5, k6, k7, k8⟩ := NineAt.of_block HX1.out
  have wc0 := HS1.out.wr.c0
  have wc1 := HS1.out.wr.c1
  have wf0 := HS1.out.wr.fz 0
  have hwl := HS1.out.wr.wl
  have hbn : ¬ b0 = Wb := fun e => HNf.out (.inl e)
  have HM1 := Lib.hid (show out.length + 1 ≤ maxLen by have := HL1.out; unfold maxLen; omega)
  have HM2 := Lib.hid (show (out.length + 1) * 1 ≤ 140737488355328 by have := HL1.out; omega)
  have HM3 : Hid (B ≤ (w1.drew.alloc (.cells #[.int .u8 3] 5)).heap.size) := Lib.hid (by have := HS1.out.wr.bl; simp; omega)
  obtain ⟨o2, hO2⟩ : ∃ x, out ++ [UInt8.ofNat 3] = x := ⟨_, rfl⟩
  have HL2 := Lib.hid (show o2.length + 90 ≤ 1000000000 by rw [← hO2, List.length_append, show ([UInt8.ofNat 3] : List UInt8).length = 1 from (rfl)]; have := HL1.out; omega)
  have HO2 := Lib.hid hO2
  clear hO2
  go_cut [3] from 9 to 20 (fun t3 wx => t3 = .pointer (some ⟨b0, 0, none⟩) ∧ ∃ (v' : Value) (a' : Option Addr) (c' : Nat), WrStep B Wb p m v a c out w1 v' a' c' o2 names wx)
  case first =>
    go_region_law (first
      | (refine step_app (by rfl) (.tmp 13) (.tmp 17) 22 22 (by rfl) B 5 i0 (.int .u8 0) 1 1 Try.underlying22 X1.out X2.out X3.out X4.out rfl (by decide) (.slice a out.length c) out.length (out.map cellB) (by rfl) (HS1.out.wr.row.drew.alloc _) (.slice (some ⟨w1.heap.size, 0, none⟩) 1 1) 1 [.int .u8 3] (by rfl) (src_one w1.drew Try.underlying22 _ _ rfl) HM1.out HM2.out HM3.out ?_; intro a4 c4 wz ho4 hg4 hl4; have HA := Lib.hid (HS1.out.wr.app (W0 := (w1.drew.alloc (.cells #[.int .u8 3] 5))) ((Below.refl _ w1).drew.alloc (Nat.le_refl _) _) (news := [UInt8.ofNat 3]) (k := 1) (rfl) hg4 (by rw [cell1 (x := 3) (by decide) rfl]; exact ho4) hl4); have hK := HS1.out.wr.kept (W0 := (w1.drew.alloc (.cells #[.int .u8 3] 5))) ((Below.refl _ w1).drew.alloc (Nat.le_refl _) _) hg4; obtain ⟨y4, z4⟩ := hK; clear ho4 hg4 hl4))
    all_goals
      go_wp2_with fail
      go_meet
      exact ⟨rfl, _, _, _, by rw [← HO2.out]; exact HS1.out.trans HA.out⟩
  clear k0 k1 k2 k3 k4 k5 k6 k7 k8 wc0 wc1 wf0 hwl hbn
  obtain ⟨rfl, v2, a2, c2, hs⟩ := hcut
  have HS2 := Lib.hid hs
  clear hs HM1 HM2 HM3
  obtain ⟨w2, rfl⟩ : ∃ x, x = wc := ⟨_, rfl⟩
  have HX2 := Lib.hid ((HS2.out.keep HBl.out HNf.out).trans HX0.out)
  obtain ⟨k0, k1, k2, k3, k4, k5, k6, k7, k8⟩ := NineAt.of_block HX2.out
  have wc0 := HS2.out.wr.c0
  have wc1 := HS2.out.wr.c1
  have wf0 := HS2.out.wr.fz 0
  have hwl := HS2.out.wr.wl
  have hbn : ¬ b0 = Wb := fun e => HNf.out (.inl e)
  go_wp2_with fail
  clear k0 k1 k2 k3 k4 k5 k6 k7 k8 wc0 wc1 wf0 hwl hbn HX2
  refine (len_any p m v2 names w2 HS2.out.wr.tab).mono ?_
  rintro e w3 ⟨rfl, rfl⟩
  have HX2 := Lib.hid ((HS2.out.keep HBl.out HNf.out).trans HX0.out)
  obtain ⟨k0, k1, k2, k3, k4, k5, k6, k7, k8⟩ := NineAt.of_block HX2.out
  have wc0 := HS2.out.wr.c0
  have wc1 := HS2.out.wr.c1
  have wf0 := HS2.out.wr.fz 0
  have hwl := HS2.out.wr.wl
  have hbn : ¬ b0 = Wb := fun e => HNf.out (.inl e)
  go_upto_region 10 with fail
  have H1 := tput_any p m v2 names s w2.drew (HS2.out.wr.tab.below (Below.refl _ _).drew) hsm
  have H1 := Lib.hid H1
  go_cut [4, 5] from 55 to 64 (fun t4 t5 wx => t4 = .int .i64 names.length ∧ t5 = .int .i64 names.length ∧ ∃ (v' : Value) (a' : Option Addr) (c' : Nat), WrStep B Wb p m v a c out w1 v' a' c' o2 (names ++ [s]) wx)
  case first =>
    go_region_with ((with_reducible refine H1.out.mono ?_); rintro e wp hr; obtain ⟨v3, rfl, ht, hT, hv⟩ := hr; have hT' := ht; rw [HPut.out] at hT'; have HA3 := Lib.hid ((HS2.out.trans ((HS2.out.wr.stay (Below.refl _ _).drew).trans ((HS2.out.wr.below (Below.refl _ _).drew).put hT' hT hv)))); clear ht hT hv hT')
    all_goals
      go_wp2_with fail
      go_meet
      exact ⟨rfl, by rw [HPut.out], _, _, _, HA3.out⟩
  clear k0 k1 k2 k3 k4 k5 k6 k7 k8 wc0 wc1 wf0 hwl hbn HX2 H1
  obtain ⟨rfl, rfl, v3, a3, c3, hs⟩ := hcut
  have HS3 := Lib.hid hs
  clear hs
  obtain ⟨w3, rfl⟩ : ∃ x, x = wc := ⟨_, rfl⟩
  obtain ⟨o3, ho3⟩ : ∃ x, o2 = x := ⟨_, rfl⟩
  have HL3 := Lib.hid (show o3.length + 90 ≤ 1000000000 by rw [← ho3]; exact HL2.out)
  have HO3 := Lib.hid ho3
  rw [ho3] at HS3
  clear ho3
  have HX3 := Lib.hid ((HS3.out.keep HBl.out HNf.out).trans HX0.out)
  obtain ⟨k0, k1, k2, k3, k4, k5, k6, k7, k8⟩ := NineAt.of_block HX3.out
  have wc0 := HS3.out.wr.c0
  have wc1 := HS3.out.wr.c1
  have wf0 := HS3.out.wr.fz 0
  have hwl := HS3.out.wr.wl
  have hbn : ¬ b0 = Wb := fun e => HNf.out (.inl e)
  have hnw : IntKind.u64.wrap (names.length : Int) = names.length := wrap_u64_nat _ (by have := HNl.out; have := HKl.out; omega)
  go_wp2_with fail
  clear k0 k1 k2 k3 k4 k5 k6 k7 k8 wc0 wc1 wf0 hwl hbn
  refine (wwide_any B Wb p m v3 a3 c3 o3 (names ++ [s]) names.length (by have := HNl.out; have := HKl.out; omega) w3 HS3.out.wr (by have := HL3.out; omega)).mono ?_
  rintro e w4 ⟨rfl, v4, a4, c4, hs⟩
  have HS4 := Lib.hid (HS3.out.trans hs)
  clear hs
  obtain ⟨o4, hO4⟩ : ∃ x, o3 ++ wideB names.length = x := ⟨_, rfl⟩
  have HL4 := Lib.hid (show o4.length + 70 ≤ 1000000000 by rw [← hO4, List.length_append]; have := HL3.out; have := wideB_len names.length; omega)
  rw [hO4] at HS4
  have HO4 := Lib.hid hO4
  clear hO4
  clear hnw
  have hne : ((names.length : Int) == (names.length : Int)) = true := beq_iff_eq.2 rfl
  go_upto_region 13 with fail
  clear hne
  have HX4 := Lib.hid ((HS4.out.keep HBl.out HNf.out).trans HX0.out)
  obtain ⟨k0, k1, k2, k3, k4, k5, k6, k7, k8⟩ := NineAt.of_block HX4.out
  have wc0 := HS4.out.wr.c0
  have wc1 := HS4.out.wr.c1
  have wf0 := HS4.out.wr.fz 0
  have hwl := HS4.out.wr.wl
  have hbn : ¬ b0 = Wb := fun e => HNf.out (.inl e)
  have hwn : IntKind.u8.wrap (s.size : Int) = s.size := by rw [wrap_u8]; omega
  have HM1 := Lib.hid (show o4.length + 1 ≤ maxLen by have := HL4.out; unfold maxLen; omega)
  have HM2 := Lib.hid (show (o4.length + 1) * 1 ≤ 140737488355328 by have := HL4.out; omega)
  have HM3 : Hid (B ≤ (w4.drew.alloc (.cells #[.int .u8 (s.size : Int)] 5)).heap.size) := Lib.hid (by have := HS4.out.wr.bl; simp; omega)
  obtain ⟨o5, hO5⟩ : ∃ x, o4 ++ [UInt8.ofNat s.size] = x := ⟨_, rfl⟩
  have HL5 := Lib.hid (show o5.length + 60 ≤ 1000000000 by rw [← hO5, List.length_append, show ([UInt8.ofNat s.size] : List UInt8).length = 1 from (rfl)]; have := HL4.out; omega)
  have HO5 := Lib.hid hO5
  clear hO5
  go_cut [3] from 72 to 84 (fun t3 wx => t3 = .pointer (some ⟨b0, 0, none⟩) ∧ ∃ (v' : Value) (a' : Option Addr) (c' : Nat), WrStep B Wb p m v a c out w1 v' a' c' o5 (names ++ [s]) wx)
  case first =>
    go_region_law (first
      | (refine step_app (by rfl) (.tmp 76) (.tmp 81) 22 22 (by rfl) B 5 i0 (.int .u8 0) 1 1 Try.underlying22 X1.out X2.out X3.out X4.out rfl (by decide) (.slice a4 o4.length c4) o4.length (o4.map cellB) (by rfl) (HS4.out.wr.row.drew.alloc _) (.slice (some ⟨w4.heap.size, 0, none⟩) 1 1) 1 [.int .u8 (s.size : Int)] (by rfl) (src_one w4.drew Try.underlying22 _ _ rfl) HM1.out HM2.out HM3.out ?_; intro a4 c4 wz ho4 hg4 hl4; have HA := Lib.hid (HS4.out.wr.app (W0 := (w4.drew.alloc (.cells #[.int .u8 (s.size : Int)] 5))) ((Below.refl _ w4).drew.alloc (Nat.le_refl _) _) (news := [UInt8.ofNat s.size]) (k := 1) (rfl) hg4 (by rw [cell1 (x := s.size) (by omega) rfl]; exact ho4) hl4); have hK := HS4.out.wr.kept (W0 := (w4.drew.alloc (.cells #[.int .u8 (s.size : Int)] 5))) ((Below.refl _ w4).drew.alloc (Nat.le_refl _) _) hg4; obtain ⟨y4, z4⟩ := hK; clear ho4 hg4 hl4))
    all_goals
      go_wp2_with fail
      go_meet
      exact ⟨rfl, _, _, _, by rw [← HO5.out]; exact HS4.out.trans HA.out⟩
  clear k0 k1 k2 k3 k4 k5 k6 k7 k8 wc0 wc1 wf0 hwl hbn
  obtain ⟨rfl, v5, a5, c5, hs⟩ := hcut
  have HS5 := Lib.hid hs
  clear hs HM1 HM2 HM3
  obtain ⟨w5, rfl⟩ : ∃ x, x = wc := ⟨_, rfl⟩
  clear hwn
  go_upto_region 14 with fail
  have HX5 := Lib.hid ((HS5.out.keep HBl.out HNf.out).trans HX0.out)
  obtain ⟨k0, k1, k2, k3, k4, k5, k6, k7, k8⟩ := NineAt.of_block HX5.out
  have wc0 := HS5.out.wr.c0
  have wc1 := HS5.out.wr.c1
  have wf0 := HS5.out.wr.fz 0
  have hwl := HS5.out.wr.wl
  have hbn : ¬ b0 = Wb := fun e => HNf.out (.inl e)
  have HM1 := Lib.hid (show o5.length + s.size ≤ maxLen by have := HL5.out; unfold maxLen; omega)
  have HM2 := Lib.hid (show (o5.length + s.size) * 1 ≤ 140737488355328 by have := HL5.out; omega)
  have HM3 : Hid (B ≤ w5.drew.heap.size) := Lib.hid (by have := HS5.out.wr.bl; simp; omega)
  obtain ⟨o6, hO6⟩ : ∃ x, o5 ++ s.data.toList = x := ⟨_, rfl⟩
  have HL6 := Lib.hid (show o6.length + 10 ≤ 1000000000 by rw [← hO6, List.length_append, show (s.data.toList : List UInt8).length = s.size from (rfl)]; have := HL5.out; omega)
  have HO6 := Lib.hid hO6
  clear hO6
  ·
    go_region_law (first
      | (refine step_app (by rfl) (.tmp 89) (.tmp 91) 22 9 (by rfl) B 5 i0 (.int .u8 0) 1 1 Try.underlying22 X1.out X2.out X3.out X4.out rfl (by decide) (.slice a5 o5.length c5) o5.length (o5.map cellB) (by rfl) HS5.out.wr.row.drew (.string s) s.size (byteCells s) (by rfl) (Src.ofString _ Try.underlying9 s) HM1.out HM2.out HM3.out ?_; intro a4 c4 wz ho4 hg4 hl4; have HA := Lib.hid (HS5.out.wr.app (W0 := w5.drew) (Below.refl _ w5).drew (news := s.data.toList) (k := s.size) (rfl) hg4 (by rw [bytes_map s]; exact ho4) hl4); have hK := HS5.out.wr.kept (W0 := w5.drew) (Below.refl _ w5).drew hg4; obtain ⟨y4, z4⟩ := hK; clear ho4 hg4 hl4))
    all_goals
      try go_wp2_with fail
      have HSo := Lib.hid (HS5.out.trans HA.out)
      go_end0
      exact ⟨rfl, _, _, _, by rw [HAt.out]; simp only []; rw [show out ++ (UInt8.ofNat 3 :: (wideB names.length ++ (UInt8.ofNat s.size :: s.data.toList))) = o5 ++ s.data.toList by rw [← HO5.out, ← HO4.out, ← HO3.out, ← HO2.out]; simp]; exact HSa.out.trans HSo.out⟩
end Go.Proofs.Ytkfblapfphnggaa
