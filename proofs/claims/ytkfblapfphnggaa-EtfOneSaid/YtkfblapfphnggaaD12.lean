/- Several texts in one. -/
import Derived.Test.YtkfblapfphnggaaD11
/- The writer's part: an id. -/
namespace Go.Proofs.Ytkfblapfphnggaa
open Go.RowKit
set_option maxRecDepth 100000
attribute [local go_sem] run_store_complex

set_option maxHeartbeats 4000000 in
theorem wp4 (B Wb p m : Nat) (v : Value) (a : Option Addr) (c : Nat) (out : List UInt8) (names : List ByteArray) (node boot idn : Nat) (hnode : node < 256) (hboot : boot < 4294967296) (hidn : idn < 18446744073709551616) (w : World) (h : WrAt B Wb p m v a c out names w) (hlen : out.length + 100 ≤ 1000000000) :
    Calls Try.prog 23 #[.pointer (some ⟨Wb, 0, none⟩), .agg #[.int .i64 4, .int .i64 0, .complex .f64 0 0, .string ⟨#[]⟩, .int .i64 (node : Int), .int .u32 (boot : Int), .int .u64 (idn : Int), nilV, nilV]] w (WrPost B Wb p m v a c out w (out ++ (UInt8.ofNat 4 :: UInt8.ofNat node :: (wideB boot ++ wideB idn))) names) := by
  have HL1 := Lib.hid hlen
  obtain ⟨i0, hi, hz0, hz1, hz2⟩ := info_parts infoU8
  have X1 := Lib.hid hi
  have X2 := Lib.hid hz0
  have X3 := Lib.hid hz1
  have X4 := Lib.hid hz2
  have HX0 := Lib.hid (heap_new w (.cells #[.int .i64 4, .int .i64 0, .complex .f64 0 0, .string ⟨#[]⟩, .int .i64 (node : Int), .int .u32 (boot : Int), .int .u64 (idn : Int), nilV, nilV] 31))
  have HSa := Lib.hid (h.stay ((Below.refl _ w).alloc (Nat.le_refl _) (.cells #[.int .i64 4, .int .i64 0, .complex .f64 0 0, .string ⟨#[]⟩, .int .i64 (node : Int), .int .u32 (boot : Int), .int .u64 (idn : Int), nilV, nilV] 31)))
  have HNf := Lib.hid (show ¬ wfoot Wb p m v a out.length c w.heap.size from fun e => by have := (h.foot _ e).2; omega)
  have HBl := Lib.hid (show w.heap.size < (w.alloc (.cells #[.int .i64 4, .int .i64 0, .complex .f64 0 0, .string ⟨#[]⟩, .int .i64 (node : Int), .int .u32 (boot : Int), .int .u64 (idn : Int), nilV, nilV] 31)).heap.size by simp)
  have HBw := Lib.hid h.bl
  clear h hi hz0 hz1 hz2 hlen
  go_enter Try.func23, Try.ntmps23
  go_wp2_with fail
  obtain ⟨b0, hb0⟩ : ∃ b, w.heap.size = b := ⟨_, rfl⟩
  rw [hb0] at HNf HBl HX0 ⊢
  have HB0 := Lib.hid hb0
  clear hb0
  generalize w.alloc (.cells #[.int .i64 4, .int .i64 0, .complex .f64 0 0, .string ⟨#[]⟩, .int .i64 (node : Int), .int .u32 (boot : Int), .int .u64 (idn : Int), nilV, nilV] 31) = w1 at *
  have HS1 := Lib.hid (HSa.out.wr.stay (Below.refl _ w1))
  have HX1 := Lib.hid ((HS1.out.keep HBl.out HNf.out).trans HX0.out)
  obtain ⟨k0, k1, k2, k3, k4, k5, k6, k7, k8⟩ := NineAt.of_block HX1.out
  have wc0 := HS1.out.wr.c0
  have wc1 := HS1.out.wr.c1
  have wf0 := HS1.out.wr.fz 0
  have hwl := HS1.out.wr.wl
  have hbn : ¬ b0 = Wb := fun e => HNf.out (.inl e)
  have HM1 := Lib.hid (show out.length + 1 ≤ maxLen by have := HL1.out; unfold maxLen; omega)
  have HM2 := Lib.hid (show (out.length + 1) * 1 ≤ 140737488355328 by have := HL1.out; omega)
  have HM3 : Hid (B ≤ (w1.drew.alloc (.cells #[.int .u8 4] 5)).heap.size) := Lib.hid (by have := HS1.out.wr.bl; simp; omega)
  obtain ⟨o2, hO2⟩ : ∃ x, out ++ [UInt8.ofNat 4] = x := ⟨_, rfl⟩
  have HL2 := Lib.hid (show o2.length + 90 ≤ 1000000000 by rw [← hO2, List.length_append, show ([UInt8.ofNat 4] : List UInt8).length = 1 from (rfl)]; have := HL1.out; omega)
  have HO2 := Lib.hid hO2
  clear hO2
  go_cut [3] from 9 to 20 (fun t3 wx => t3 = .pointer (some ⟨b0, 0, none⟩) ∧ ∃ (v' : Value) (a' : Option Addr) (c' : Nat), WrStep B Wb p m v a c out w1 v' a' c' o2 names wx)
  case first =>
    go_region_law (first
      | (refine step_app (by rfl) (.tmp 13) (.tmp 17) 22 22 (by rfl) B 5 i0 (.int .u8 0) 1 1 Try.underlying22 X1.out X2.out X3.out X4.out rfl (by decide) (.slice a out.length c) out.length (out.map cellB) (by rfl) (HS1.out.wr.row.drew.alloc _) (.slice (some ⟨w1.heap.size, 0, none⟩) 1 1) 1 [.int .u8 4] (by rfl) (src_one w1.drew Try.underlying22 _ _ rfl) HM1.out HM2.out HM3.out ?_; intro a4 c4 wz ho4 hg4 hl4; have HA := Lib.hid (HS1.out.wr.app (W0 := (w1.drew.alloc (.cells #[.int .u8 4] 5))) ((Below.refl _ w1).drew.alloc (Nat.le_refl _) _) (news := [UInt8.ofNat 4]) (k := 1) (rfl) hg4 (by rw [cell1 (x := 4) (by decide) rfl]; exact ho4) hl4); have hK := HS1.out.wr.kept (W0 := (w1.drew.alloc (.cells #[.int .u8 4] 5))) ((Below.refl _ w1).drew.alloc (Nat.le_refl _) _) hg4; obtain ⟨y4, z4⟩ := hK; clear ho4 hg4 hl4))
    all_goals
      go_wp2_with fail
      go_meet
      exact ⟨rfl, _, _, _, by rw [← HO2.out]; exact HS1.out.trans HA.out⟩
  clear k0 k1 k2 k3 k4 k5 k6 k7 k8 wc0 wc1 wf0 hwl hbn
  obtain ⟨rfl, v2, a2, c2, hs⟩ := hcut
  have HS2 := Lib.hid hs
  clear hs HM1 HM2 HM3
  obtain ⟨w2, rfl⟩ : ∃ x, x = wc := ⟨_, rfl⟩
  have HX2 := Lib.hid ((HS2.out.keep HBl.out HNf.out).trans HX0.out)
  obtain ⟨k0, k1, k2, k3, k4, k5, k6, k7, k8⟩ := NineAt.of_block HX2.out
  have wc0 := HS2.out.wr.c0
  have wc1 := HS2.out.wr.c1
  have wf0 := HS2.out.wr.fz 0
  have hwl := HS2.out.wr.wl
  have hbn : ¬ b0 = Wb := fun e => HNf.out (.inl e)
  go_upto_region 17 with fail
  clear k0 k1 k2 k3 k4 k5 k6 k7 k8 wc0 wc1 wf0 hwl hbn HX2
  have HX2 := Lib.hid ((HS2.out.keep HBl.out HNf.out).trans HX0.out)
  obtain ⟨k0, k1, k2, k3, k4, k5, k6, k7, k8⟩ := NineAt.of_block HX2.out
  have wc0 := HS2.out.wr.c0
  have wc1 := HS2.out.wr.c1
  have wf0 := HS2.out.wr.fz 0
  have hwl := HS2.out.wr.wl
  have hbn : ¬ b0 = Wb := fun e => HNf.out (.inl e)
  have hwn : IntKind.u8.wrap (node : Int) = node := by rw [wrap_u8]; omega
  have HM1 := Lib.hid (show o2.length + 1 ≤ maxLen by have := HL2.out; unfold maxLen; omega)
  have HM2 := Lib.hid (show (o2.length + 1) * 1 ≤ 140737488355328 by have := HL2.out; omega)
  have HM3 : Hid (B ≤ (w2.drew.alloc (.cells #[.int .u8 (node : Int)] 5)).heap.size) := Lib.hid (by have := HS2.out.wr.bl; simp; omega)
  obtain ⟨o3, hO3⟩ : ∃ x, o2 ++ [UInt8.ofNat node] = x := ⟨_, rfl⟩
  have HL3 := Lib.hid (show o3.length + 80 ≤ 1000000000 by rw [← hO3, List.length_append, show ([UInt8.ofNat node] : List UInt8).length = 1 from (rfl)]; have := HL2.out; omega)
  have HO3 := Lib.hid hO3
  clear hO3
  go_cut [3] from 98 to 110 (fun t3 wx => t3 = .pointer (some ⟨b0, 0, none⟩) ∧ ∃ (v' : Value) (a' : Option Addr) (c' : Nat), WrStep B Wb p m v a c out w1 v' a' c' o3 names wx)
  case first =>
    go_region_law (first
      | (refine step_app (by rfl) (.tmp 102) (.tmp 107) 22 22 (by rfl) B 5 i0 (.int .u8 0) 1 1 Try.underlying22 X1.out X2.out X3.out X4.out rfl (by decide) (.slice a2 o2.length c2) o2.length (o2.map cellB) (by rfl) (HS2.out.wr.row.drew.alloc _) (.slice (some ⟨w2.heap.size, 0, none⟩) 1 1) 1 [.int .u8 (node : Int)] (by rfl) (src_one w2.drew Try.underlying22 _ _ rfl) HM1.out HM2.out HM3.out ?_; intro a4 c4 wz ho4 hg4 hl4; have HA := Lib.hid (HS2.out.wr.app (W0 := (w2.drew.alloc (.cells #[.int .u8 (node : Int)] 5))) ((Below.refl _ w2).drew.alloc (Nat.le_refl _) _) (news := [UInt8.ofNat node]) (k := 1) (rfl) hg4 (by rw [cell1 (x := node) hnode rfl]; exact ho4) hl4); have hK := HS2.out.wr.kept (W0 := (w2.drew.alloc (.cells #[.int .u8 (node : Int)] 5))) ((Below.refl _ w2).drew.alloc (Nat.le_refl _) _) hg4; obtain ⟨y4, z4⟩ := hK; clear ho4 hg4 hl4))
    all_goals
      go_wp2_with fail
      go_meet
      exact ⟨rfl, _, _, _, by rw [← HO3.out]; exact HS2.out.trans HA.out⟩
  clear k0 k1 k2 k3 k4 k5 k6 k7 k8 wc0 wc1 wf0 hwl hbn
  obtain ⟨rfl, v3, a3, c3, hs⟩ := hcut
  have HS3 := Lib.hid hs
  clear hs HM1 HM2 HM3
  obtain ⟨w3, rfl⟩ : ∃ x, x = wc := ⟨_, rfl⟩
  clear hwn
  have HX3 := Lib.hid ((HS3.out.keep HBl.out HNf.out).trans HX0.out)
  obtain ⟨k0, k1, k2, k3, k4, k5, k6, k7, k8⟩ := NineAt.of_block HX3.out
  have wc0 := HS3.out.wr.c0
  have wc1 := HS3.out.wr.c1
  have wf0 := HS3.out.wr.fz 0
  have hwl := HS3.out.wr.wl
  have hbn : ¬ b0 = Wb := fun e => HNf.out (.inl e)
  have hwb : IntKind.u64.wrap (boot : Int) = boot := wrap_u64_nat boot (by omega)
  go_wp2_with fail
  clear k0 k1 k2 k3 k4 k5 k6 k7 k8 wc0 wc1 wf0 hwl hbn
  refine (wwide_any B Wb p m v3 a3 c3 o3 names boot (by omega) w3 HS3.out.wr (by have := HL3.out; omega)).mono ?_
  rintro e w4 ⟨rfl, v4, a4, c4, hs⟩
  have HS4 := Lib.hid (HS3.out.trans hs)
  clear hs
  obtain ⟨o4, hO4⟩ : ∃ x, o3 ++ wideB boot = x := ⟨_, rfl⟩
  have HL4 := Lib.hid (show o4.length + 60 ≤ 1000000000 by rw [← hO4, List.length_append]; have := HL3.out; have := wideB_len boot; omega)
  rw [hO4] at HS4
  have HO4 := Lib.hid hO4
  clear hO4
  clear hwb
  have HX4 := Lib.hid ((HS4.out.keep HBl.out HNf.out).trans HX0.out)
  obtain ⟨k0, k1, k2, k3, k4, k5, k6, k7, k8⟩ := NineAt.of_block HX4.out
  have wc0 := HS4.out.wr.c0
  have wc1 := HS4.out.wr.c1
  have wf0 := HS4.out.wr.fz 0
  have hwl := HS4.out.wr.wl
  have hbn : ¬ b0 = Wb := fun e => HNf.out (.inl e)
  go_wp2_with fail
  clear k0 k1 k2 k3 k4 k5 k6 k7 k8 wc0 wc1 wf0 hwl hbn
  refine (wwide_any B Wb p m v4 a4 c4 o4 names idn (hidn) w4 HS4.out.wr (by have := HL4.out; omega)).mono ?_
  rintro e w5 ⟨rfl, v5, a5, c5, hs⟩
  have HS5 := Lib.hid (HS4.out.trans hs)
  clear hs
  obtain ⟨o5, hO5⟩ : ∃ x, o4 ++ wideB idn = x := ⟨_, rfl⟩
  have HL5 := Lib.hid (show o5.length + 40 ≤ 1000000000 by rw [← hO5, List.length_append]; have := HL4.out; have := wideB_len idn; omega)
  rw [hO5] at HS5
  have HO5 := Lib.hid hO5
  clear hO5
  go_wp2_with fail
  go_end0
  exact ⟨rfl, v5, a5, c5, by rw [show out ++ (UInt8.ofNat 4 :: UInt8.ofNat node :: (wideB boot ++ wideB idn)) = o5 by rw [← HO5.out, ← HO4.out, ← HO3.out, ← HO2.out]; simp]; exact HSa.out.trans HS5.out⟩
set_option maxHeartbeats 4000000 in
theorem wp5 (B Wb p m : Nat) (v : Value) (a : Option Addr) (c : Nat) (out : List UInt8) (names : List ByteArray) (node boot idn : Nat) (hnode : node < 256) (hboot : boot < 4294967296) (hidn : idn < 18446744073709551616) (w : World) (h : WrAt B Wb p m v a c out names w) (hlen : out.length + 100 ≤ 1000000000) :
    Calls Try.prog 23 #[.pointer (some ⟨Wb, 0, none⟩), .agg #[.int .i64 5, .int .i64 0, .complex .f64 0 0, .string ⟨#[]⟩, .int .i64 (node : Int), .int .u32 (boot : Int), .int .u64 (idn : Int), nilV, nilV]] w (WrPost B Wb p m v a c out w (out ++ (UInt8.ofNat 5 :: UInt8.ofNat node :: (wideB boot ++ wideB idn))) names) := by
  have HL1 := Lib.hid hlen
  obtain ⟨i0, hi, hz0, hz1, hz2⟩ := info_parts infoU8
  have X1 := Lib.hid hi
  have X2 := Lib.hid hz0
  have X3 := Lib.hid hz1
  have X4 := Lib.hid hz2
  have HX0 := Lib.hid (heap_new w (.cells #[.int .i64 5, .int .i64 0, .complex .f64 0 0, .string ⟨#[]⟩, .int .i64 (node : Int), .int .u32 (boot : Int), .int .u64 (idn : Int), nilV, nilV] 31))
  have HSa := Lib.hid (h.stay ((Below.refl _ w).alloc (Nat.le_refl _) (.cells #[.int .i64 5, .int .i64 0, .complex .f64 0 0, .string ⟨#[]⟩, .int .i64 (node : Int), .int .u32 (boot : Int), .int .u64 (idn : Int), nilV, nilV] 31)))
  have HNf := Lib.hid (show ¬ wfoot Wb p m v a out.length c w.heap.size from fun e => by have := (h.foot _ e).2; omega)
  have HBl := Lib.hid (show w.heap.size < (w.alloc (.cells #[.int .i64 5, .int .i64 0, .complex .f64 0 0, .string ⟨#[]⟩, .int .i64 (node : Int), .int .u32 (boot : Int), .int .u64 (idn : Int), nilV, nilV] 31)).heap.size by simp)
  have HBw := Lib.hid h.bl
  clear h hi hz0 hz1 hz2 hlen
  go_enter Try.func23, Try.ntmps23
  go_wp2_with fail
  obtain ⟨b0, hb0⟩ : ∃ b, w.heap.size = b := ⟨_, rfl⟩
  rw [hb0] at HNf HBl HX0 ⊢
  have HB0 := Lib.hid hb0
  clear hb0
  generalize w.alloc (.cells #[.int .i64 5, .int .i64 0, .complex .f64 0 0, .string ⟨#[]⟩, .int .i64 (node : Int), .int .u32 (boot : Int), .int .u64 (idn : Int), nilV, nilV] 31) = w1 at *
  have HS1 := Lib.hid (HSa.out.wr.stay (Below.refl _ w1))
  have HX1 := Lib.hid ((HS1.out.keep HBl.out HNf.out).trans HX0.out)
  obtain ⟨k0, k1, k2, k3, k4, k5, k6, k7, k8⟩ := NineAt.of_block HX1.out
  have wc0 := HS1.out.wr.c0
  have wc1 := HS1.out.wr.c1
  have wf0 := HS1.out.wr.fz 0
  have hwl := HS1.out.wr.wl
  have hbn : ¬ b0 = Wb := fun e => HNf.out (.inl e)
  have HM1 := Lib.hid (show out.length + 1 ≤ maxLen by have := HL1.out; unfold maxLen; omega)
  have HM2 := Lib.hid (show (out.length + 1) * 1 ≤ 140737488355328 by have := HL1.out; omega)
  have HM3 : Hid (B ≤ (w1.drew.alloc (.cells #[.int .u8 5] 5)).heap.size) := Lib.hid (by have := HS1.out.wr.bl; simp; omega)
  obtain ⟨o2, hO2⟩ : ∃ x, out ++ [UInt8.ofNat 5] = x := ⟨_, rfl⟩
  have HL2 := Lib.hid (show o2.length + 90 ≤ 1000000000 by rw [← hO2, List.length_append, show ([UInt8.ofNat 5] : List UInt8).length = 1 from (rfl)]; have := HL1.out; omega)
  have HO2 := Lib.hid hO2
  clear hO2
  go_cut [3] from 9 to 20 (fun t3 wx => t3 = .pointer (some ⟨b0, 0, none⟩) ∧ ∃ (v' : Value) (a' : Option Addr) (c' : Nat), WrStep B Wb p m v a c out w1 v' a' c' o2 names wx)
  case first =>
    go_region_law (first
      | (refine step_app (by rfl) (.tmp 13) (.tmp 17) 22 22 (by rfl) B 5 i0 (.int .u8 0) 1 1 Try.underlying22 X1.out X2.out X3.out X4.out rfl (by decide) (.slice a out.length c) out.length (out.map cellB) (by rfl) (HS1.out.wr.row.drew.alloc _) (.slice (some ⟨w1.heap.size, 0, none⟩) 1 1) 1 [.int .u8 5] (by rfl) (src_one w1.drew Try.underlying22 _ _ rfl) HM1.out HM2.out HM3.out ?_; intro a4 c4 wz ho4 hg4 hl4; have HA := Lib.hid (HS1.out.wr.app (W0 := (w1.drew.alloc (.cells #[.int .u8 5] 5))) ((Below.refl _ w1).drew.alloc (Nat.le_refl _) _) (news := [UInt8.ofNat 5]) (k := 1) (rfl) hg4 (by rw [cell1 (x := 5) (by decide) rfl]; exact ho4) hl4); have hK := HS1.out.wr.kept (W0 := (w1.drew.alloc (.cells #[.int .u8 5] 5))) ((Below.refl _ w1).drew.alloc (Nat.le_refl _) _) hg4; obtain ⟨y4, z4⟩ := hK; clear ho4 hg4 hl4))
    all_goals
      go_wp2_with fail
      go_meet
      exact ⟨rfl, _, _, _, by rw [← HO2.out]; exact HS1.out.trans HA.out⟩
  clear k0 k1 k2 k3 k4 k5 k6 k7 k8 wc0 wc1 wf0 hwl hbn
  obtain ⟨rfl, v2, a2, c2, hs⟩ := hcut
  have HS2 := Lib.hid hs
  clear hs HM1 HM2 HM3
  obtain ⟨w2, rfl⟩ : ∃ x, x = wc := ⟨_, rfl⟩
  have HX2 := Lib.hid ((HS2.out.keep HBl.out HNf.out).trans HX0.out)
  obtain ⟨k0, k1, k2, k3, k4, k5, k6, k7, k8⟩ := NineAt.of_block HX2.out
  have wc0 := HS2.out.wr.c0
  have wc1 := HS2.out.wr.c1
  have wf0 := HS2.out.wr.fz 0
  have hwl := HS2.out.wr.wl
  have hbn : ¬ b0 = Wb := fun e => HNf.out (.inl e)
  go_upto_region 17 with fail
  clear k0 k1 k2 k3 k4 k5 k6 k7 k8 wc0 wc1 wf0 hwl hbn HX2
  have HX2 := Lib.hid ((HS2.out.keep HBl.out HNf.out).trans HX0.out)
  obtain ⟨k0, k1, k2, k3, k4, k5, k6, k7, k8⟩ := NineAt.of_block HX2.out
  have wc0 := HS2.out.wr.c0
  have wc1 := HS2.out.wr.c1
  have wf0 := HS2.out.wr.fz 0
  have hwl := HS2.out.wr.wl
  have hbn : ¬ b0 = Wb := fun e => HNf.out (.inl e)
  have hwn : IntKind.u8.wrap (node : Int) = node := by rw [wrap_u8]; omega
  have HM1 := Lib.hid (show o2.length + 1 ≤ maxLen by have := HL2.out; unfold maxLen; omega)
  have HM2 := Lib.hid (show (o2.length + 1) * 1 ≤ 140737488355328 by have := HL2.out; omega)
  have HM3 : Hid (B ≤ (w2.drew.alloc (.cells #[.int .u8 (node : Int)] 5)).heap.size) := Lib.hid (by have := HS2.out.wr.bl; simp; omega)
  obtain ⟨o3, hO3⟩ : ∃ x, o2 ++ [UInt8.ofNat node] = x := ⟨_, rfl⟩
  have HL3 := Lib.hid (show o3.length + 80 ≤ 1000000000 by rw [← hO3, List.length_append, show ([UInt8.ofNat node] : List UInt8).length = 1 from (rfl)]; have := HL2.out; omega)
  have HO3 := Lib.hid hO3
  clear hO3
  go_cut [3] from 98 to 110 (fun t3 wx => t3 = .pointer (some ⟨b0, 0, none⟩) ∧ ∃ (v' : Value) (a' : Option Addr) (c' : Nat), WrStep B Wb p m v a c out w1 v' a' c' o3 names wx)
  case first =>
    go_region_law (first
      | (refine step_app (by rfl) (.tmp 102) (.tmp 107) 22 22 (by rfl) B 5 i0 (.int .u8 0) 1 1 Try.underlying22 X1.out X2.out X3.out X4.out rfl (by decide) (.slice a2 o2.length c2) o2.length (o2.map cellB) (by rfl) (HS2.out.wr.row.drew.alloc _) (.slice (some ⟨w2.heap.size, 0, none⟩) 1 1) 1 [.int .u8 (node : Int)] (by rfl) (src_one w2.drew Try.underlying22 _ _ rfl) HM1.out HM2.out HM3.out ?_; intro a4 c4 wz ho4 hg4 hl4; have HA := Lib.hid (HS2.out.wr.app (W0 := (w2.drew.alloc (.cells #[.int .u8 (node : Int)] 5))) ((Below.refl _ w2).drew.alloc (Nat.le_refl _) _) (news := [UInt8.ofNat node]) (k := 1) (rfl) hg4 (by rw [cell1 (x := node) hnode rfl]; exact ho4) hl4); have hK := HS2.out.wr.kept (W0 := (w2.drew.alloc (.cells #[.int .u8 (node : Int)] 5))) ((Below.refl _ w2).drew.alloc (Nat.le_refl _) _) hg4; obtain ⟨y4, z4⟩ := hK; clear ho4 hg4 hl4))
    all_goals
      go_wp2_with fail
      go_meet
      exact ⟨rfl, _, _, _, by rw [← HO3.out]; exact HS2.out.trans HA.out⟩
  clear k0 k1 k2 k3 k4 k5 k6 k7 k8 wc0 wc1 wf0 hwl hbn
  obtain ⟨rfl, v3, a3, c3, hs⟩ := hcut
  have HS3 := Lib.hid hs
  clear hs HM1 HM2 HM3
  obtain ⟨w3, rfl⟩ : ∃ x, x = wc := ⟨_, rfl⟩
  clear hwn
  have HX3 := Lib.hid ((HS3.out.keep HBl.out HNf.out).trans HX0.out)
  obtain ⟨k0, k1, k2, k3, k4, k5, k6, k7, k8⟩ := NineAt.of_block HX3.out
  have wc0 := HS3.out.wr.c0
  have wc1 := HS3.out.wr.c1
  have wf0 := HS3.out.wr.fz 0
  have hwl := HS3.out.wr.wl
  have hbn : ¬ b0 = Wb := fun e => HNf.out (.inl e)
  have hwb : IntKind.u64.wrap (boot : Int) = boot := wrap_u64_nat boot (by omega)
  go_wp2_with fail
  clear k0 k1 k2 k3 k4 k5 k6 k7 k8 wc0 wc1 wf0 hwl hbn
  refine (wwide_any B Wb p m v3 a3 c3 o3 names boot (by omega) w3 HS3.out.wr (by have := HL3.out; omega)).mono ?_
  rintro e w4 ⟨rfl, v4, a4, c4, hs⟩
  have HS4 := Lib.hid (HS3.out.trans hs)
  clear hs
  obtain ⟨o4, hO4⟩ : ∃ x, o3 ++ wideB boot = x := ⟨_, rfl⟩
  have HL4 := Lib.hid (show o4.length + 60 ≤ 1000000000 by rw [← hO4, List.length_append]; have := HL3.out; have := wideB_len boot; omega)
  rw [hO4] at HS4
  have HO4 := Lib.hid hO4
  clear hO4
  clear hwb
  have HX4 := Lib.hid ((HS4.out.keep HBl.out HNf.out).trans HX0.out)
  obtain ⟨k0, k1, k2, k3, k4, k5, k6, k7, k8⟩ := NineAt.of_block HX4.out
  have wc0 := HS4.out.wr.c0
  have wc1 := HS4.out.wr.c1
  have wf0 := HS4.out.wr.fz 0
  have hwl := HS4.out.wr.wl
  have hbn : ¬ b0 = Wb := fun e => HNf.out (.inl e)
  go_wp2_with fail
  clear k0 k1 k2 k3 k4 k5 k6 k7 k8 wc0 wc1 wf0 hwl hbn
  refine (wwide_any B Wb p m v4 a4 c4 o4 names idn (hidn) w4 HS4.out.wr (by have := HL4.out; omega)).mono ?_
  rintro e w5 ⟨rfl, v5, a5, c5, hs⟩
  have HS5 := Lib.hid (HS4.out.trans hs)
  clear hs
  obtain ⟨o5, hO5⟩ : ∃ x, o4 ++ wideB idn = x := ⟨_, rfl⟩
  have HL5 := Lib.hid (show o5.length + 40 ≤ 1000000000 by rw [← hO5, List.length_append]; have := HL4.out; have := wideB_len idn; omega)
  rw [hO5] at HS5
  have HO5 := Lib.hid hO5
  clear hO5
  go_wp2_with fail
  go_end0
  exact ⟨rfl, v5, a5, c5, by rw [show out ++ (UInt8.ofNat 5 :: UInt8.ofNat node :: (wideB boot ++ wideB idn)) = o5 by rw [← HO5.out, ← HO4.out, ← HO3.out, ← HO2.out]; simp]; exact HSa.out.trans HS5.out⟩
end Go.Proofs.Ytkfblapfphnggaa
/- The writer's part: an int. -/
namespace Go.Proofs.Ytkfblapfphnggaa
open Go.RowKit
set_option maxRecDepth 100000
attribute [local go_sem] run_store_complex

theorem xor_u64_zero (a : Nat) (ha : a < 18446744073709551616) : bits .xor .u64 (a : Int) 0 = a := by
  have e : a % 2 ^ 64 = a := Nat.mod_eq_of_lt (by omega)
  have e0 : BitVec.ofInt 64 0 = 0#64 := by decide
  show IntKind.u64.wrap ((BitVec.ofInt 64 (a : Int) ^^^ BitVec.ofInt 64 0).toNat : Int) = a
  rw [e0, BitVec.xor_zero, BitVec.ofInt_natCast, BitVec.toNat_ofNat, e, wrap_u64_nat a ha]
theorem xor_u64_ones (a : Nat) (ha : a < 18446744073709551616) : bits .xor .u64 (a : Int) 18446744073709551615 = ((18446744073709551615 - a : Nat) : Int) := by
  have e : a % 2 ^ 64 = a := Nat.mod_eq_of_lt (by omega)
  have e0 : BitVec.ofInt 64 18446744073709551615 = BitVec.allOnes 64 := by decide
  show IntKind.u64.wrap ((BitVec.ofInt 64 (a : Int) ^^^ BitVec.ofInt 64 18446744073709551615).toNat : Int) = _
  rw [e0, BitVec.xor_allOnes, BitVec.ofInt_natCast, BitVec.toNat_not, BitVec.toNat_ofNat, e, show 2 ^ 64 - 1 - a = 18446744073709551615 - a by omega, wrap_u64_nat _ (by omega)]
theorem wrap_u64_mod (n : Int) : IntKind.u64.wrap n = n % 18446744073709551616 := by simp [IntKind.wrap, IntKind.bits, IntKind.signed]
theorem zag_lt {n : Int} (h1 : -4611686018427387904 ≤ n) (h2 : n ≤ 4611686018427387903) : zag n < 18446744073709551616 := by unfold zag; split <;> omega
theorem zag_eq {n : Int} (h1 : -4611686018427387904 ≤ n) (h2 : n ≤ 4611686018427387903) : bits .xor .u64 (IntKind.u64.wrap (n * 2)) (IntKind.u64.wrap (n / 9223372036854775808)) = ((zag n : Nat) : Int) := by
  rw [wrap_u64_mod, wrap_u64_mod]
  unfold zag
  by_cases h : 0 ≤ n
  · rw [if_pos h, show n / 9223372036854775808 = 0 by omega, show n * 2 % 18446744073709551616 = ((2 * n).toNat : Int) by omega]
    exact xor_u64_zero _ (by omega)
  · rw [if_neg h, show n / 9223372036854775808 % 18446744073709551616 = 18446744073709551615 by omega, show n * 2 % 18446744073709551616 = ((18446744073709551616 + 2 * n).toNat : Int) by omega, xor_u64_ones _ (by omega)]
    omega
set_option maxHeartbeats 4000000 in
theorem wp1 (B Wb p m : Nat) (v : Value) (a : Option Addr) (c : Nat) (out : List UInt8) (names : List ByteArray) (n : Int) (hn : inR n = true) (w : World) (h : WrAt B Wb p m v a c out names w) (hlen : out.length + 100 ≤ 1000000000) :
    Calls Try.prog 23 #[.pointer (some ⟨Wb, 0, none⟩), .agg #[.int .i64 1, .int .i64 n, .complex .f64 0 0, .string ⟨#[]⟩, .int .i64 0, .int .u32 0, .int .u64 0, nilV, nilV]] w (WrPost B Wb p m v a c out w (out ++ (UInt8.ofNat 1 :: wideB (zag n))) names) := by
  have hr : -4611686018427387904 ≤ n ∧ n ≤ 4611686018427387903 := by simpa [inR] using hn
  have HZ := Lib.hid (zag_lt hr.1 hr.2)
  have HZe := Lib.hid (zag_eq hr.1 hr.2)
  clear hn
  have HL1 := Lib.hid hlen
  obtain ⟨i0, hi, hz0, hz1, hz2⟩ := info_parts infoU8
  have X1 := Lib.hid hi
  have X2 := Lib.hid hz0
  have X3 := Lib.hid hz1
  have X4 := Lib.hid hz2
  have HX0 := Lib.hid (heap_new w (.cells #[.int .i64 1, .int .i64 n, .complex .f64 0 0, .string ⟨#[]⟩, .int .i64 0, .int .u32 0, .int .u64 0, nilV, nilV] 31))
  have HSa := Lib.hid (h.stay ((Below.refl _ w).alloc (Nat.le_refl _) (.cells #[.int .i64 1, .int .i64 n, .complex .f64 0 0, .string ⟨#[]⟩, .int .i64 0, .int .u32 0, .int .u64 0, nilV, nilV] 31)))
  have HNf := Lib.hid (show ¬ wfoot Wb p m v a out.length c w.heap.size from fun e => by have := (h.foot _ e).2; omega)
  have HBl := Lib.hid (show w.heap.size < (w.alloc (.cells #[.int .i64 1, .int .i64 n, .complex .f64 0 0, .string ⟨#[]⟩, .int .i64 0, .int .u32 0, .int .u64 0, nilV, nilV] 31)).heap.size by simp)
  have HBw := Lib.hid h.bl
  clear h hi hz0 hz1 hz2 hlen
  go_enter Try.func23, Try.ntmps23
  go_wp2_with fail
  obtain ⟨b0, hb0⟩ : ∃ b, w.heap.size = b := ⟨_, rfl⟩
  rw [hb0] at HNf HBl HX0 ⊢
  have HB0 := Lib.hid hb0
  clear hb0
  generalize w.alloc (.cells #[.int .i64 1, .int .i64 n, .complex .f64 0 0, .string ⟨#[]⟩, .int .i64 0, .int .u32 0, .int .u64 0, nilV, nilV] 31) = w1 at *
  have HS1 := Lib.hid (HSa.out.wr.stay (Below.refl _ w1))
  have HX1 := Lib.hid ((HS1.out.keep HBl.out HNf.out).trans HX0.out)
  obtain ⟨k0, k1, k2, k3, k4, k5, k6, k7, k8⟩ := NineAt.of_block HX1.out
  have wc0 := HS1.out.wr.c0
  have wc1 := HS1.out.wr.c1
  have wf0 := HS1.out.wr.fz 0
  have hwl := HS1.out.wr.wl
  have hbn : ¬ b0 = Wb := fun e => HNf.out (.inl e)
  have HM1 := Lib.hid (show out.length + 1 ≤ maxLen by have := HL1.out; unfold maxLen; omega)
  have HM2 := Lib.hid (show (out.length + 1) * 1 ≤ 140737488355328 by have := HL1.out; omega)
  have HM3 : Hid (B ≤ (w1.drew.alloc (.cells #[.int .u8 1] 5)).heap.size) := Lib.hid (by have := HS1.out.wr.bl; simp; omega)
  obtain ⟨o2, hO2⟩ : ∃ x, out ++ [UInt8.ofNat 1] = x := ⟨_, rfl⟩
  have HL2 := Lib.hid (show o2.length + 90 ≤ 1000000000 by rw [← hO2, List.length_append, show ([UInt8.ofNat 1] : List UInt8).length = 1 from (rfl)]; have := HL1.out; omega)
  have HO2 := Lib.hid hO2
  clear hO2
  go_cut [3] from 9 to 20 (fun t3 wx => t3 = .pointer (some ⟨b0, 0, none⟩) ∧ ∃ (v' : Value) (a' : Option Addr) (c' : Nat), WrStep B Wb p m v a c out w1 v' a' c' o2 names wx)
  case first =>
    go_region_law (first
      | (refine step_app (by rfl) (.tmp 13) (.tmp 17) 22 22 (by rfl) B 5 i0 (.int .u8 0) 1 1 Try.underlying22 X1.out X2.out X3.out X4.out rfl (by decide) (.slice a out.length c) out.length (out.map cellB) (by rfl) (HS1.out.wr.row.drew.alloc _) (.slice (some ⟨w1.heap.size, 0, none⟩) 1 1) 1 [.int .u8 1] (by rfl) (src_one w1.drew Try.underlying22 _ _ rfl) HM1.out HM2.out HM3.out ?_; intro a4 c4 wz ho4 hg4 hl4; have HA := Lib.hid (HS1.out.wr.app (W0 := (w1.drew.alloc (.cells #[.int .u8 1] 5))) ((Below.refl _ w1).drew.alloc (Nat.le_refl _) _) (news := [UInt8.ofNat 1]) (k := 1) (rfl) hg4 (by rw [cell1 (x := 1) (by decide) rfl]; exact ho4) hl4); have hK := HS1.out.wr.kept (W0 := (w1.drew.alloc (.cells #[.int .u8 1] 5))) ((Below.refl _ w1).drew.alloc (Nat.le_refl _) _) hg4; obtain ⟨y4, z4⟩ := hK; clear ho4 hg4 hl4))
    all_goals
      go_wp2_with fail
      go_meet
      exact ⟨rfl, _, _, _, by rw [← HO2.out]; exact HS1.out.trans HA.out⟩
  clear k0 k1 k2 k3 k4 k5 k6 k7 k8 wc0 wc1 wf0 hwl hbn
  obtain ⟨rfl, v2, a2, c2, hs⟩ := hcut
  have HS2 := Lib.hid hs
  clear hs HM1 HM2 HM3
  obtain ⟨w2, rfl⟩ : ∃ x, x = wc := ⟨_, rfl⟩
  have HX2 := Lib.hid ((HS2.out.keep HBl.out HNf.out).trans HX0.out)
  obtain ⟨k0, k1, k2, k3, k4, k5, k6, k7, k8⟩ := NineAt.of_block HX2.out
  have wc0 := HS2.out.wr.c0
  have wc1 := HS2.out.wr.c1
  have wf0 := HS2.out.wr.fz 0
  have hwl := HS2.out.wr.wl
  have hbn : ¬ b0 = Wb := fun e => HNf.out (.inl e)
  have hze := HZe.out
  go_wp2_with fail
  clear k0 k1 k2 k3 k4 k5 k6 k7 k8 wc0 wc1 wf0 hwl hbn
  refine (wwide_any B Wb p m v2 a2 c2 o2 names (zag n) (HZ.out) w2 HS2.out.wr (by have := HL2.out; omega)).mono ?_
  rintro e w3 ⟨rfl, v3, a3, c3, hs⟩
  have HS3 := Lib.hid (HS2.out.trans hs)
  clear hs
  obtain ⟨o3, hO3⟩ : ∃ x, o2 ++ wideB (zag n) = x := ⟨_, rfl⟩
  have HL3 := Lib.hid (show o3.length + 60 ≤ 1000000000 by rw [← hO3, List.length_append]; have := HL2.out; have := wideB_len (zag n); omega)
  rw [hO3] at HS3
  have HO3 := Lib.hid hO3
  clear hO3
  clear hze
  go_wp2_with fail
  go_end0
  exact ⟨rfl, v3, a3, c3, by rw [show out ++ (UInt8.ofNat 1 :: wideB (zag n)) = o3 by rw [← HO3.out, ← HO2.out]; simp]; exact HSa.out.trans HS3.out⟩
end Go.Proofs.Ytkfblapfphnggaa
