/- Several texts in one. -/
import Derived.Test.YtgadkiljnebicaaD13
import Derived.Test.YtgadkiljnebicaaD14
namespace Go.Proofs.Ytgadkiljnebicaa
open Go.Lib (hid)
open Go.RowKit
set_option maxRecDepth 100000
attribute [local go_sem] run_store_complex
set_option maxHeartbeats 4000000 in
theorem wp4 (B Wb p m : Nat) (v : Value) (a : Option Addr) (c : Nat) (out : List UInt8) (names : List ByteArray) (node boot idn : Nat) (hnode : node < 256) (hboot : boot < 4294967296) (hidn : idn < 18446744073709551616) (w : World) (h : WrAt B Wb p m v a c out names w) (hlen : out.length + 100 ≤ 1000000000) :
  Calls Try.prog 39 #[.pointer (some ⟨Wb,0,none⟩),.agg #[.int .i64 4,.int .i64 0,.complex .f64 0 0,.string ⟨#[]⟩,.int .i64 (node : Int),.int .u32 (boot : Int),.int .u64 (idn : Int),nilV,nilV]] w (WrPost B Wb p m v a c out w (out ++ (UInt8.ofNat 4 :: UInt8.ofNat node :: (wideB boot ++ wideB idn))) names) := by
 have HL1 := hid hlen
 obtain ⟨i0,hi,hz0,hz1,hz2⟩ := info_parts infoU8
 have X1 := hid hi
 have X2 := hid hz0
 have X3 := hid hz1
 have X4 := hid hz2
 have HX0 := hid (heap_new w (.cells #[.int .i64 4,.int .i64 0,.complex .f64 0 0,.string ⟨#[]⟩,.int .i64 (node : Int),.int .u32 (boot : Int),.int .u64 (idn : Int),nilV,nilV] 31))
 have HSa := hid (h.stay ((Below.refl _ w).alloc (Nat.le_refl _) (.cells #[.int .i64 4,.int .i64 0,.complex .f64 0 0,.string ⟨#[]⟩,.int .i64 (node : Int),.int .u32 (boot : Int),.int .u64 (idn : Int),nilV,nilV] 31)))
 have HNf := hid (show ¬ wfoot Wb p m v a out.length c w.heap.size from fun e => by have := (h.foot _ e).2; omega)
 have HBl := hid (show w.heap.size < (w.alloc (.cells #[.int .i64 4,.int .i64 0,.complex .f64 0 0,.string ⟨#[]⟩,.int .i64 (node : Int),.int .u32 (boot : Int),.int .u64 (idn : Int),nilV,nilV] 31)).heap.size by simp)
 have HBw := hid h.bl
 clear h hi hz0 hz1 hz2 hlen
 go_enter Try.func39,Try.ntmps39
 go_wp2_with fail
 obtain ⟨b0,hb0⟩ : ∃ b,w.heap.size = b := ⟨_,rfl⟩
 rw [hb0] at HNf HBl HX0 ⊢
 have HB0 := hid hb0
 clear hb0
 generalize w.alloc (.cells #[.int .i64 4,.int .i64 0,.complex .f64 0 0,.string ⟨#[]⟩,.int .i64 (node : Int),.int .u32 (boot : Int),.int .u64 (idn : Int),nilV,nilV] 31) = w1 at *
 have HS1 := hid (HSa.out.wr.stay (Below.refl _ w1))
 have HX1 := hid ((HS1.out.keep HBl.out HNf.out).trans HX0.out)
 obtain ⟨k0,k1,k2,k3,k4,k5,k6,k7,k8⟩ := NineAt.of_block HX1.out
 have wc0 := HS1.out.wr.c0
 have wc1 := HS1.out.wr.c1
 have wf0 := HS1.out.wr.fz 0
 have hwl := HS1.out.wr.wl
 have hbn : ¬ b0 = Wb := fun e => HNf.out (.inl e)
 have HM1 := hid (show out.length + 1 ≤ maxLen by have := HL1.out; unfold maxLen; omega)
 have HM2 := hid (show (out.length + 1) * 1 ≤ 140737488355328 by have := HL1.out; omega)
 have HM3 : Hid (B ≤ (w1.drew.alloc (.cells #[.int .u8 4] 5)).heap.size) := hid (by have := HS1.out.wr.bl; simp; omega)
 obtain ⟨o2,hO2⟩ : ∃ x,out ++ [UInt8.ofNat 4] = x := ⟨_,rfl⟩
 have HL2 := hid (show o2.length + 90 ≤ 1000000000 by rw [← hO2,List.length_append,show ([UInt8.ofNat 4] : List UInt8).length = 1 from (rfl)]; have := HL1.out; omega)
 have HO2 := hid hO2
 clear hO2
 go_cut [3] from 9 to 20 (fun t3 wx => t3 = .pointer (some ⟨b0,0,none⟩) ∧ ∃ (v' : Value) (a' : Option Addr) (c' : Nat),WrStep B Wb p m v a c out w1 v' a' c' o2 names wx)
 case first =>
  go_region_law (first
   | (refine step_app (by rfl) (.tmp 13) (.tmp 17) 22 22 (by rfl) B 5 i0 (.int .u8 0) 1 1 Try.underlying22 X1.out X2.out X3.out X4.out rfl (by decide) (.slice a out.length c) out.length (out.map cellB) (by rfl) (HS1.out.wr.row.drew.alloc _) (.slice (some ⟨w1.heap.size,0,none⟩) 1 1) 1 [.int .u8 4] (by rfl) (src_one w1.drew Try.underlying22 _ _ rfl) HM1.out HM2.out HM3.out ?_; intro a4 c4 wz ho4 hg4 hl4; have HA := hid (HS1.out.wr.app (W0 := (w1.drew.alloc (.cells #[.int .u8 4] 5))) ((Below.refl _ w1).drew.alloc (Nat.le_refl _) _) (news := [UInt8.ofNat 4]) (k := 1) (rfl) hg4 (by rw [cell1 (x := 4) (by decide) rfl]; exact ho4) hl4); have hK := HS1.out.wr.kept (W0 := (w1.drew.alloc (.cells #[.int .u8 4] 5))) ((Below.refl _ w1).drew.alloc (Nat.le_refl _) _) hg4; obtain ⟨y4,z4⟩ := hK; clear ho4 hg4 hl4))
  all_goals
   go_wp2_with fail
   go_meet
   exact ⟨rfl,_,_,_,by rw [← HO2.out]; exact HS1.out.trans HA.out⟩
 clear k0 k1 k2 k3 k4 k5 k6 k7 k8 wc0 wc1 wf0 hwl hbn
 obtain ⟨rfl,v2,a2,c2,hs⟩ := hcut
 have HS2 := hid hs
 clear hs HM1 HM2 HM3
 obtain ⟨w2,rfl⟩ : ∃ x,x = wc := ⟨_,rfl⟩
 have HX2 := hid ((HS2.out.keep HBl.out HNf.out).trans HX0.out)
 obtain ⟨k0,k1,k2,k3,k4,k5,k6,k7,k8⟩ := NineAt.of_block HX2.out
 have wc0 := HS2.out.wr.c0
 have wc1 := HS2.out.wr.c1
 have wf0 := HS2.out.wr.fz 0
 have hwl := HS2.out.wr.wl
 have hbn : ¬ b0 = Wb := fun e => HNf.out (.inl e)
 go_upto_region 17 with fail
 clear k0 k1 k2 k3 k4 k5 k6 k7 k8 wc0 wc1 wf0 hwl hbn HX2
 have HX2 := hid ((HS2.out.keep HBl.out HNf.out).trans HX0.out)
 obtain ⟨k0,k1,k2,k3,k4,k5,k6,k7,k8⟩ := NineAt.of_block HX2.out
 have wc0 := HS2.out.wr.c0
 have wc1 := HS2.out.wr.c1
 have wf0 := HS2.out.wr.fz 0
 have hwl := HS2.out.wr.wl
 have hbn : ¬ b0 = Wb := fun e => HNf.out (.inl e)
 have hwn : IntKind.u8.wrap (node : Int) = node := by rw [wrap_u8]; omega
 have HM1 := hid (show o2.length + 1 ≤ maxLen by have := HL2.out; unfold maxLen; omega)
 have HM2 := hid (show (o2.length + 1) * 1 ≤ 140737488355328 by have := HL2.out; omega)
 have HM3 : Hid (B ≤ (w2.drew.alloc (.cells #[.int .u8 (node : Int)] 5)).heap.size) := hid (by have := HS2.out.wr.bl; simp; omega)
 obtain ⟨o3,hO3⟩ : ∃ x,o2 ++ [UInt8.ofNat node] = x := ⟨_,rfl⟩
 have HL3 := hid (show o3.length + 80 ≤ 1000000000 by rw [← hO3,List.length_append,show ([UInt8.ofNat node] : List UInt8).length = 1 from (rfl)]; have := HL2.out; omega)
 have HO3 := hid hO3
 clear hO3
 go_cut [3] from 98 to 110 (fun t3 wx => t3 = .pointer (some ⟨b0,0,none⟩) ∧ ∃ (v' : Value) (a' : Option Addr) (c' : Nat),WrStep B Wb p m v a c out w1 v' a' c' o3 names wx)
 case first =>
  go_region_law (first
   | (refine step_app (by rfl) (.tmp 102) (.tmp 107) 22 22 (by rfl) B 5 i0 (.int .u8 0) 1 1 Try.underlying22 X1.out X2.out X3.out X4.out rfl (by decide) (.slice a2 o2.length c2) o2.length (o2.map cellB) (by rfl) (HS2.out.wr.row.drew.alloc _) (.slice (some ⟨w2.heap.size,0,none⟩) 1 1) 1 [.int .u8 (node : Int)] (by rfl) (src_one w2.drew Try.underlying22 _ _ rfl) HM1.out HM2.out HM3.out ?_; intro a4 c4 wz ho4 hg4 hl4; have HA := hid (HS2.out.wr.app (W0 := (w2.drew.alloc (.cells #[.int .u8 (node : Int)] 5))) ((Below.refl _ w2).drew.alloc (Nat.le_refl _) _) (news := [UInt8.ofNat node]) (k := 1) (rfl) hg4 (by rw [cell1 (x := node) hnode rfl]; exact ho4) hl4); have hK := HS2.out.wr.kept (W0 := (w2.drew.alloc (.cells #[.int .u8 (node : Int)] 5))) ((Below.refl _ w2).drew.alloc (Nat.le_refl _) _) hg4; obtain ⟨y4,z4⟩ := hK; clear ho4 hg4 hl4))
  all_goals
   go_wp2_with fail
   go_meet
   exact ⟨rfl,_,_,_,by rw [← HO3.out]; exact HS2.out.trans HA.out⟩
 clear k0 k1 k2 k3 k4 k5 k6 k7 k8 wc0 wc1 wf0 hwl hbn
 obtain ⟨rfl,v3,a3,c3,hs⟩ := hcut
 have HS3 := hid hs
 clear hs HM1 HM2 HM3
 obtain ⟨w3,rfl⟩ : ∃ x,x = wc := ⟨_,rfl⟩
 clear hwn
 have HX3 := hid ((HS3.out.keep HBl.out HNf.out).trans HX0.out)
 obtain ⟨k0,k1,k2,k3,k4,k5,k6,k7,k8⟩ := NineAt.of_block HX3.out
 have wc0 := HS3.out.wr.c0
 have wc1 := HS3.out.wr.c1
 have wf0 := HS3.out.wr.fz 0
 have hwl := HS3.out.wr.wl
 have hbn : ¬ b0 = Wb := fun e => HNf.out (.inl e)
 have hwb : IntKind.u64.wrap (boot : Int) = boot := wrap_u64_nat boot (by omega)
 go_wp2_with fail
 clear k0 k1 k2 k3 k4 k5 k6 k7 k8 wc0 wc1 wf0 hwl hbn
 refine (wwide_any B Wb p m v3 a3 c3 o3 names boot (by omega) w3 HS3.out.wr (by have := HL3.out; omega)).mono ?_
 rintro e w4 ⟨rfl,v4,a4,c4,hs⟩
 have HS4 := hid (HS3.out.trans hs)
 clear hs
 obtain ⟨o4,hO4⟩ : ∃ x,o3 ++ wideB boot = x := ⟨_,rfl⟩
 have HL4 := hid (show o4.length + 60 ≤ 1000000000 by rw [← hO4,List.length_append]; have := HL3.out; have := wideB_len boot; omega)
 rw [hO4] at HS4
 have HO4 := hid hO4
 clear hO4
 clear hwb
 have HX4 := hid ((HS4.out.keep HBl.out HNf.out).trans HX0.out)
 obtain ⟨k0,k1,k2,k3,k4,k5,k6,k7,k8⟩ := NineAt.of_block HX4.out
 have wc0 := HS4.out.wr.c0
 have wc1 := HS4.out.wr.c1
 have wf0 := HS4.out.wr.fz 0
 have hwl := HS4.out.wr.wl
 have hbn : ¬ b0 = Wb := fun e => HNf.out (.inl e)
 go_wp2_with fail
 clear k0 k1 k2 k3 k4 k5 k6 k7 k8 wc0 wc1 wf0 hwl hbn
 refine (wwide_any B Wb p m v4 a4 c4 o4 names idn (hidn) w4 HS4.out.wr (by have := HL4.out; omega)).mono ?_
 rintro e w5 ⟨rfl,v5,a5,c5,hs⟩
 have HS5 := hid (HS4.out.trans hs)
 clear hs
 obtain ⟨o5,hO5⟩ : ∃ x,o4 ++ wideB idn = x := ⟨_,rfl⟩
 have HL5 := hid (show o5.length + 40 ≤ 1000000000 by rw [← hO5,List.length_append]; have := HL4.out; have := wideB_len idn; omega)
 rw [hO5] at HS5
 have HO5 := hid hO5
 clear hO5
 go_wp2_with fail
 go_end0
 exact ⟨rfl,v5,a5,c5,by rw [show out ++ (UInt8.ofNat 4 :: UInt8.ofNat node :: (wideB boot ++ wideB idn)) = o5 by rw [← HO5.out,← HO4.out,← HO3.out,← HO2.out]; simp]; exact HSa.out.trans HS5.out⟩
set_option maxHeartbeats 4000000 in
theorem wp5 (B Wb p m : Nat) (v : Value) (a : Option Addr) (c : Nat) (out : List UInt8) (names : List ByteArray) (node boot idn : Nat) (hnode : node < 256) (hboot : boot < 4294967296) (hidn : idn < 18446744073709551616) (w : World) (h : WrAt B Wb p m v a c out names w) (hlen : out.length + 100 ≤ 1000000000) :
  Calls Try.prog 39 #[.pointer (some ⟨Wb,0,none⟩),.agg #[.int .i64 5,.int .i64 0,.complex .f64 0 0,.string ⟨#[]⟩,.int .i64 (node : Int),.int .u32 (boot : Int),.int .u64 (idn : Int),nilV,nilV]] w (WrPost B Wb p m v a c out w (out ++ (UInt8.ofNat 5 :: UInt8.ofNat node :: (wideB boot ++ wideB idn))) names) := by
 have HL1 := hid hlen
 obtain ⟨i0,hi,hz0,hz1,hz2⟩ := info_parts infoU8
 have X1 := hid hi
 have X2 := hid hz0
 have X3 := hid hz1
 have X4 := hid hz2
 have HX0 := hid (heap_new w (.cells #[.int .i64 5,.int .i64 0,.complex .f64 0 0,.string ⟨#[]⟩,.int .i64 (node : Int),.int .u32 (boot : Int),.int .u64 (idn : Int),nilV,nilV] 31))
 have HSa := hid (h.stay ((Below.refl _ w).alloc (Nat.le_refl _) (.cells #[.int .i64 5,.int .i64 0,.complex .f64 0 0,.string ⟨#[]⟩,.int .i64 (node : Int),.int .u32 (boot : Int),.int .u64 (idn : Int),nilV,nilV] 31)))
 have HNf := hid (show ¬ wfoot Wb p m v a out.length c w.heap.size from fun e => by have := (h.foot _ e).2; omega)
 have HBl := hid (show w.heap.size < (w.alloc (.cells #[.int .i64 5,.int .i64 0,.complex .f64 0 0,.string ⟨#[]⟩,.int .i64 (node : Int),.int .u32 (boot : Int),.int .u64 (idn : Int),nilV,nilV] 31)).heap.size by simp)
 have HBw := hid h.bl
 clear h hi hz0 hz1 hz2 hlen
 go_enter Try.func39,Try.ntmps39
 go_wp2_with fail
 obtain ⟨b0,hb0⟩ : ∃ b,w.heap.size = b := ⟨_,rfl⟩
 rw [hb0] at HNf HBl HX0 ⊢
 have HB0 := hid hb0
 clear hb0
 generalize w.alloc (.cells #[.int .i64 5,.int .i64 0,.complex .f64 0 0,.string ⟨#[]⟩,.int .i64 (node : Int),.int .u32 (boot : Int),.int .u64 (idn : Int),nilV,nilV] 31) = w1 at *
 have HS1 := hid (HSa.out.wr.stay (Below.refl _ w1))
 have HX1 := hid ((HS1.out.keep HBl.out HNf.out).trans HX0.out)
 obtain ⟨k0,k1,k2,k3,k4,k5,k6,k7,k8⟩ := NineAt.of_block HX1.out
 have wc0 := HS1.out.wr.c0
 have wc1 := HS1.out.wr.c1
 have wf0 := HS1.out.wr.fz 0
 have hwl := HS1.out.wr.wl
 have hbn : ¬ b0 = Wb := fun e => HNf.out (.inl e)
 have HM1 := hid (show out.length + 1 ≤ maxLen by have := HL1.out; unfold maxLen; omega)
 have HM2 := hid (show (out.length + 1) * 1 ≤ 140737488355328 by have := HL1.out; omega)
 have HM3 : Hid (B ≤ (w1.drew.alloc (.cells #[.int .u8 5] 5)).heap.size) := hid (by have := HS1.out.wr.bl; simp; omega)
 obtain ⟨o2,hO2⟩ : ∃ x,out ++ [UInt8.ofNat 5] = x := ⟨_,rfl⟩
 have HL2 := hid (show o2.length + 90 ≤ 1000000000 by rw [← hO2,List.length_append,show ([UInt8.ofNat 5] : List UInt8).length = 1 from (rfl)]; have := HL1.out; omega)
 have HO2 := hid hO2
 clear hO2
 go_cut [3] from 9 to 20 (fun t3 wx => t3 = .pointer (some ⟨b0,0,none⟩) ∧ ∃ (v' : Value) (a' : Option Addr) (c' : Nat),WrStep B Wb p m v a c out w1 v' a' c' o2 names wx)
 case first =>
  go_region_law (first
   | (refine step_app (by rfl) (.tmp 13) (.tmp 17) 22 22 (by rfl) B 5 i0 (.int .u8 0) 1 1 Try.underlying22 X1.out X2.out X3.out X4.out rfl (by decide) (.slice a out.length c) out.length (out.map cellB) (by rfl) (HS1.out.wr.row.drew.alloc _) (.slice (some ⟨w1.heap.size,0,none⟩) 1 1) 1 [.int .u8 5] (by rfl) (src_one w1.drew Try.underlying22 _ _ rfl) HM1.out HM2.out HM3.out ?_; intro a4 c4 wz ho4 hg4 hl4; have HA := hid (HS1.out.wr.app (W0 := (w1.drew.alloc (.cells #[.int .u8 5] 5))) ((Below.refl _ w1).drew.alloc (Nat.le_refl _) _) (news := [UInt8.ofNat 5]) (k := 1) (rfl) hg4 (by rw [cell1 (x := 5) (by decide) rfl]; exact ho4) hl4); have hK := HS1.out.wr.kept (W0 := (w1.drew.alloc (.cells #[.int .u8 5] 5))) ((Below.refl _ w1).drew.alloc (Nat.le_refl _) _) hg4; obtain ⟨y4,z4⟩ := hK; clear ho4 hg4 hl4))
  all_goals
   go_wp2_with fail
   go_meet
   exact ⟨rfl,_,_,_,by rw [← HO2.out]; exact HS1.out.trans HA.out⟩
 clear k0 k1 k2 k3 k4 k5 k6 k7 k8 wc0 wc1 wf0 hwl hbn
 obtain ⟨rfl,v2,a2,c2,hs⟩ := hcut
 have HS2 := hid hs
 clear hs HM1 HM2 HM3
 obtain ⟨w2,rfl⟩ : ∃ x,x = wc := ⟨_,rfl⟩
 have HX2 := hid ((HS2.out.keep HBl.out HNf.out).trans HX0.out)
 obtain ⟨k0,k1,k2,k3,k4,k5,k6,k7,k8⟩ := NineAt.of_block HX2.out
 have wc0 := HS2.out.wr.c0
 have wc1 := HS2.out.wr.c1
 have wf0 := HS2.out.wr.fz 0
 have hwl := HS2.out.wr.wl
 have hbn : ¬ b0 = Wb := fun e => HNf.out (.inl e)
 go_upto_region 17 with fail
 clear k0 k1 k2 k3 k4 k5 k6 k7 k8 wc0 wc1 wf0 hwl hbn HX2
 have HX2 := hid ((HS2.out.keep HBl.out HNf.out).trans HX0.out)
 obtain ⟨k0,k1,k2,k3,k4,k5,k6,k7,k8⟩ := NineAt.of_block HX2.out
 have wc0 := HS2.out.wr.c0
 have wc1 := HS2.out.wr.c1
 have wf0 := HS2.out.wr.fz 0
 have hwl := HS2.out.wr.wl
 have hbn : ¬ b0 = Wb := fun e => HNf.out (.inl e)
 have hwn : IntKind.u8.wrap (node : Int) = node := by rw [wrap_u8]; omega
 have HM1 := hid (show o2.length + 1 ≤ maxLen by have := HL2.out; unfold maxLen; omega)
 have HM2 := hid (show (o2.length + 1) * 1 ≤ 140737488355328 by have := HL2.out; omega)
 have HM3 : Hid (B ≤ (w2.drew.alloc (.cells #[.int .u8 (node : Int)] 5)).heap.size) := hid (by have := HS2.out.wr.bl; simp; omega)
 obtain ⟨o3,hO3⟩ : ∃ x,o2 ++ [UInt8.ofNat node] = x := ⟨_,rfl⟩
 have HL3 := hid (show o3.length + 80 ≤ 1000000000 by rw [← hO3,List.length_append,show ([UInt8.ofNat node] : List UInt8).length = 1 from (rfl)]; have := HL2.out; omega)
 have HO3 := hid hO3
 clear hO3
 go_cut [3] from 98 to 110 (fun t3 wx => t3 = .pointer (some ⟨b0,0,none⟩) ∧ ∃ (v' : Value) (a' : Option Addr) (c' : Nat),WrStep B Wb p m v a c out w1 v' a' c' o3 names wx)
 case first =>
  go_region_law (first
   | (refine step_app (by rfl) (.tmp 102) (.tmp 107) 22 22 (by rfl) B 5 i0 (.int .u8 0) 1 1 Try.underlying22 X1.out X2.out X3.out X4.out rfl (by decide) (.slice a2 o2.length c2) o2.length (o2.map cellB) (by rfl) (HS2.out.wr.row.drew.alloc _) (.slice (some ⟨w2.heap.size,0,none⟩) 1 1) 1 [.int .u8 (node : Int)] (by rfl) (src_one w2.drew Try.underlying22 _ _ rfl) HM1.out HM2.out HM3.out ?_; intro a4 c4 wz ho4 hg4 hl4; have HA := hid (HS2.out.wr.app (W0 := (w2.drew.alloc (.cells #[.int .u8 (node : Int)] 5))) ((Below.refl _ w2).drew.alloc (Nat.le_refl _) _) (news := [UInt8.ofNat node]) (k := 1) (rfl) hg4 (by rw [cell1 (x := node) hnode rfl]; exact ho4) hl4); have hK := HS2.out.wr.kept (W0 := (w2.drew.alloc (.cells #[.int .u8 (node : Int)] 5))) ((Below.refl _ w2).drew.alloc (Nat.le_refl _) _) hg4; obtain ⟨y4,z4⟩ := hK; clear ho4 hg4 hl4))
  all_goals
   go_wp2_with fail
   go_meet
   exact ⟨rfl,_,_,_,by rw [← HO3.out]; exact HS2.out.trans HA.out⟩
 clear k0 k1 k2 k3 k4 k5 k6 k7 k8 wc0 wc1 wf0 hwl hbn
 obtain ⟨rfl,v3,a3,c3,hs⟩ := hcut
 have HS3 := hid hs
 clear hs HM1 HM2 HM3
 obtain ⟨w3,rfl⟩ : ∃ x,x = wc := ⟨_,rfl⟩
 clear hwn
 have HX3 := hid ((HS3.out.keep HBl.out HNf.out).trans HX0.out)
 obtain ⟨k0,k1,k2,k3,k4,k5,k6,k7,k8⟩ := NineAt.of_block HX3.out
 have wc0 := HS3.out.wr.c0
 have wc1 := HS3.out.wr.c1
 have wf0 := HS3.out.wr.fz 0
 have hwl := HS3.out.wr.wl
 have hbn : ¬ b0 = Wb := fun e => HNf.out (.inl e)
 have hwb : IntKind.u64.wrap (boot : Int) = boot := wrap_u64_nat boot (by omega)
 go_wp2_with fail
 clear k0 k1 k2 k3 k4 k5 k6 k7 k8 wc0 wc1 wf0 hwl hbn
 refine (wwide_any B Wb p m v3 a3 c3 o3 names boot (by omega) w3 HS3.out.wr (by have := HL3.out; omega)).mono ?_
 rintro e w4 ⟨rfl,v4,a4,c4,hs⟩
 have HS4 := hid (HS3.out.trans hs)
 clear hs
 obtain ⟨o4,hO4⟩ : ∃ x,o3 ++ wideB boot = x := ⟨_,rfl⟩
 have HL4 := hid (show o4.length + 60 ≤ 1000000000 by rw [← hO4,List.length_append]; have := HL3.out; have := wideB_len boot; omega)
 rw [hO4] at HS4
 have HO4 := hid hO4
 clear hO4
 clear hwb
 have HX4 := hid ((HS4.out.keep HBl.out HNf.out).trans HX0.out)
 obtain ⟨k0,k1,k2,k3,k4,k5,k6,k7,k8⟩ := NineAt.of_block HX4.out
 have wc0 := HS4.out.wr.c0
 have wc1 := HS4.out.wr.c1
 have wf0 := HS4.out.wr.fz 0
 have hwl := HS4.out.wr.wl
 have hbn : ¬ b0 = Wb := fun e => HNf.out (.inl e)
 go_wp2_with fail
 clear k0 k1 k2 k3 k4 k5 k6 k7 k8 wc0 wc1 wf0 hwl hbn
 refine (wwide_any B Wb p m v4 a4 c4 o4 names idn (hidn) w4 HS4.out.wr (by have := HL4.out; omega)).mono ?_
 rintro e w5 ⟨rfl,v5,a5,c5,hs⟩
 have HS5 := hid (HS4.out.trans hs)
 clear hs
 obtain ⟨o5,hO5⟩ : ∃ x,o4 ++ wideB idn = x := ⟨_,rfl⟩
 have HL5 := hid (show o5.length + 40 ≤ 1000000000 by rw [← hO5,List.length_append]; have := HL4.out; have := wideB_len idn; omega)
 rw [hO5] at HS5
 have HO5 := hid hO5
 clear hO5
 go_wp2_with fail
 go_end0
 exact ⟨rfl,v5,a5,c5,by rw [show out ++ (UInt8.ofNat 5 :: UInt8.ofNat node :: (wideB boot ++ wideB idn)) = o5 by rw [← HO5.out,← HO4.out,← HO3.out,← HO2.out]; simp]; exact HSa.out.trans HS5.out⟩
set_option maxHeartbeats 2000000 in
theorem rp5 (R p m : Nat) (v bv : Value) (bs : List UInt8) (s s1 : St) (sub : Rd Tm) (d : Int) (hd : d ≤ 24) (w : World) (h : RdAt w R p m v bv bs s) (hn : s.n + 1 ≤ 4096) (ho : oneP bs { s with n := s.n + 1 } = .ok (5,s1)) :
  Calls Try.prog 25 #[.pointer (some ⟨R,0,none⟩),.int .i64 d] w (PartPost R p m v bv bs w (kindP bs sub 5 s1)) := by
 have H := hid h
 have HO := hid ho
 have HA := hid (h.below ((Below.refl _ w).alloc (Nat.le_refl _) (.cells #[.int .i64 0,.int .i64 0,.complex .f64 0 0,.string ⟨#[]⟩,.int .i64 0,.int .u32 0,.int .u64 0,nilV,nilV] 31)))
 have r2 := HA.out.c2
 have rf := HA.out.fz 2
 have hn' : (s.n : Int) + 1 ≤ 4096 := by omega
 clear h ho
 go_enter Try.func25,Try.ntmps25
 go_wp2_with fail
 have HR2 : Hid (RdAt ((w.alloc (.cells #[.int .i64 0,.int .i64 0,.complex .f64 0 0,.string ⟨#[]⟩,.int .i64 0,.int .u32 0,.int .u64 0,nilV,nilV] 31)).setCell ⟨R,2,none⟩ (.int .i64 ((s.n : Int) + 1))) R p m v bv bs { s with n := s.n + 1 }) := HA.out.store (by simp) rfl HA.out.ile (show s.n + 1 ≤ 4097 by omega)
 have HT2 := hid ((Turn.alloc (fun i => i = R) w (.cells #[.int .i64 0,.int .i64 0,.complex .f64 0 0,.string ⟨#[]⟩,.int .i64 0,.int .u32 0,.int .u64 0,nilV,nilV] 31)).trans (Turn.setCell _ R 2 (.int .i64 ((s.n : Int) + 1))))
 have hRl := H.out.lt R (.inl rfl)
 have hT0R : ¬ w.heap.size = R := by omega
 have HT0 := hid ((Below.heap_setCell (w.alloc (.cells #[.int .i64 0,.int .i64 0,.complex .f64 0 0,.string ⟨#[]⟩,.int .i64 0,.int .u32 0,.int .u64 0,nilV,nilV] 31)) ⟨R,2,none⟩ (.int .i64 ((s.n : Int) + 1)) _ hT0R).trans (heap_new w _))
 generalize (w.alloc (.cells #[.int .i64 0,.int .i64 0,.complex .f64 0 0,.string ⟨#[]⟩,.int .i64 0,.int .u32 0,.int .u64 0,nilV,nilV] 31)).setCell ⟨R,2,none⟩ (.int .i64 ((s.n : Int) + 1)) = w2 at *
 have H1 := one_any R p m v bv bs _ w2 HR2.out
 rw [HO.out] at H1
 obtain ⟨N,hN⟩ : ∃ N,w.heap.size = N := ⟨_,rfl⟩
 rw [hN] at hRl hT0R HT0 ⊢
 have HN := hid hN
 refine H1.mono ?_
 rintro e w3 ⟨rfl,hR3,hT3⟩
 have HR3 := hid hR3
 have HT3 := hid (HT2.out.trans hT3)
 have HT03 := hid ((hT3.block N (blk_lt HT0.out) hT0R).trans HT0.out)
 have hNl : N < w3.heap.size := blk_lt HT03.out
 clear hR3 hT3 hN HA HR2 HT2 HT0 H1 r2 rf hn' HO
 have HR4 := hid (HR3.out.below ((Below.refl _ w3).alloc (Nat.le_refl _) (.cells #[.int .i64 5,.int .i64 0,.complex .f64 0 0,.string ⟨#[]⟩,.int .i64 0,.int .u32 0,.int .u64 0,nilV,nilV] 31)))
 have HT4 := hid (turnR (p := p) (m := m) (v := v) (HT3.out.trans (Turn.alloc (fun i => i = R) w3 (.cells #[.int .i64 5,.int .i64 0,.complex .f64 0 0,.string ⟨#[]⟩,.int .i64 0,.int .u32 0,.int .u64 0,nilV,nilV] 31))))
 have HT04 := hid ((Below.heap_alloc w3 (.cells #[.int .i64 5,.int .i64 0,.complex .f64 0 0,.string ⟨#[]⟩,.int .i64 0,.int .u32 0,.int .u64 0,nilV,nilV] 31) N hNl).trans HT03.out)
 have HT14 := hid (heap_new w3 (.cells #[.int .i64 5,.int .i64 0,.complex .f64 0 0,.string ⟨#[]⟩,.int .i64 0,.int .u32 0,.int .u64 0,nilV,nilV] 31))
 have hT1R : ¬ w3.heap.size = R := by omega
 obtain ⟨k0,k1,k2,k3,k4,k5,k6,k7,k8⟩ := NineAt.of_block HT14.out
 go_wp2_with fail
 clear k0 k1 k2 k3 k4 k5 k6 k7 k8 HR3 HT3 HT03
 generalize w3.alloc (.cells #[.int .i64 5,.int .i64 0,.complex .f64 0 0,.string ⟨#[]⟩,.int .i64 0,.int .u32 0,.int .u64 0,nilV,nilV] 31) = w4 at *
 generalize w3.heap.size = T at *
 have hNT : ¬ N = T := by omega
 have HW := one_any R p m v bv bs s1 w4 HR4.out
 cases hw : oneP bs s1 with
 | error x =>
  rw [hw] at HW
  have HK := hid (show kindP bs sub 5 s1 = .error x by simp [kindP,hw])
  have HW := hid HW
  clear hw
  refine HW.out.mono ?_
  rintro e w5 ⟨rfl,hT5⟩
  go_wp2_with fail
  refine ⟨rfl,?_⟩
  rw [HK.out]
  exact ⟨rfl,HT4.out.trans (turnR hT5)⟩
 | ok y =>
  obtain ⟨node,s2⟩ := y
  rw [hw] at HW
  have hnode := (oneP_ok hw).1
  have HU1 := hid hw
  have HW := hid HW
  clear hw
  refine HW.out.mono ?_
  rintro e w5 ⟨rfl,hR5,hT5⟩
  have HR5 := hid hR5
  have HT5 := hid (HT4.out.trans (turnR hT5))
  have HT05 := hid ((hT5.block N (blk_lt HT04.out) hT0R).trans HT04.out)
  have HT15 := hid ((hT5.block T (blk_lt HT14.out) hT1R).trans HT14.out)
  clear hR5 hT5 HR4 HT4 HT04 HT14
  have f1 : IntKind.i64.wrap (node : Int) = node := IntWalk.i64_in _ (by omega)
  have fz := blk_fz HT15.out 4
  have kx := (NineAt.of_block HT15.out).2.2.2.2.1
  clear HW
  go_wp2_with fail
  clear fz f1 kx
  have hNw := HN.out
  have HR6 := hid (rd_setT (o := 4) (u := .int .i64 (node : Int)) H.out HR5.out (show w.heap.size ≤ T by omega) (.inl rfl))
  have HT6 := hid (turn_setT (o := 4) (u := .int .i64 (node : Int)) HT5.out (show w.heap.size ≤ T by omega))
  have HT06 := hid ((Below.heap_setCell w5 ⟨T,4,none⟩ (.int .i64 (node : Int)) _ hNT).trans HT05.out)
  have HT16 : Hid ((w5.setCell ⟨T,4,none⟩ (.int .i64 (node : Int))).heap[T]? = some (.cells #[.int .i64 5,.int .i64 0,.complex .f64 0 0,.string ⟨#[]⟩,.int .i64 (node : Int),.int .u32 0,.int .u64 0,nilV,nilV] 31 (0,0))) := heap_setCell_at HT15.out
  clear hNw HR5 HT5 HT05 HT15
  generalize w5.setCell ⟨T,4,none⟩ (.int .i64 (node : Int)) = w6 at *
  have HW := wide_any R p m v bv bs s2 w6 HR6.out
  cases hw : wideN bs s2 with
  | error x =>
   rw [hw] at HW
   have HK := hid (show kindP bs sub 5 s1 = .error x by simp [kindP,HU1.out,hw])
   have HW := hid HW
   clear hw
   refine HW.out.mono ?_
   rintro e w7 ⟨rfl,hT7⟩
   go_wp2_with fail
   refine ⟨rfl,?_⟩
   rw [HK.out]
   exact ⟨rfl,HT6.out.trans (turnR hT7)⟩
  | ok y =>
   obtain ⟨boot,s3⟩ := y
   rw [hw] at HW
   have hboot := wideN_lt hw
   have HU2 := hid hw
   have HW := hid HW
   clear hw
   refine HW.out.mono ?_
   rintro e w7 ⟨rfl,hR7,hT7⟩
   have HR7 := hid hR7
   have HT7 := hid (HT6.out.trans (turnR hT7))
   have HT07 := hid ((hT7.block N (blk_lt HT06.out) hT0R).trans HT06.out)
   have HT17 := hid ((hT7.block T (blk_lt HT16.out) hT1R).trans HT16.out)
   clear hR7 hT7 HR6 HT6 HT06 HT16
   clear HW
   by_cases hbb : 4294967295 < boot
   ·have HK := hid (show kindP bs sub 5 s1 = .error 73 by simp [kindP,HU1.out,HU2.out,hbb])
    have hbd : decide (boot ≤ 4294967295) = false := decide_eq_false (by omega)
    have hbd2 : decide ((boot : Int) ≤ 4294967295) = false := decide_eq_false (by omega)
    clear hboot
    go_wp2_with fail
    refine (must_no _ _).mono ?_
    rintro e w8 ⟨rfl,rfl⟩
    go_wp2_with fail
    refine ⟨rfl,?_⟩
    rw [HK.out]
    exact ⟨rfl,HT7.out⟩
   ·have hbd : (boot : Int) ≤ 4294967295 := by omega
    have hwb : IntKind.u32.wrap (boot : Int) = boot := by rw [IntKind.wrap_u32]; omega
    have HBB := hid hbb
    clear hbb hboot
    go_wp2_with fail
    refine (must_yes _ _).mono ?_
    rintro e w8 ⟨rfl,rfl⟩
    have fz := blk_fz HT17.out 5
    have kx := (NineAt.of_block HT17.out).2.2.2.2.2.1
    go_wp2_with fail
    clear fz hwb kx
    have hNw := HN.out
    have HR9 := hid (rd_setT (o := 5) (u := .int .u32 (boot : Int)) H.out HR7.out (show w.heap.size ≤ T by omega) (.inl rfl))
    have HT9 := hid (turn_setT (o := 5) (u := .int .u32 (boot : Int)) HT7.out (show w.heap.size ≤ T by omega))
    have HT09 := hid ((Below.heap_setCell w8 ⟨T,5,none⟩ (.int .u32 (boot : Int)) _ hNT).trans HT07.out)
    have HT19 : Hid ((w8.setCell ⟨T,5,none⟩ (.int .u32 (boot : Int))).heap[T]? = some (.cells #[.int .i64 5,.int .i64 0,.complex .f64 0 0,.string ⟨#[]⟩,.int .i64 (node : Int),.int .u32 (boot : Int),.int .u64 0,nilV,nilV] 31 (0,0))) := heap_setCell_at HT17.out
    clear hNw HR7 HT7 HT07 HT17
    generalize w8.setCell ⟨T,5,none⟩ (.int .u32 (boot : Int)) = w9 at *
    have HW := wide_any R p m v bv bs s3 w9 HR9.out
    cases hw : wideN bs s3 with
    | error x =>
     rw [hw] at HW
     have HK := hid (show kindP bs sub 5 s1 = .error x by simp [kindP,HU1.out,HU2.out,HBB.out,hw])
     have HW := hid HW
     clear hw
     refine HW.out.mono ?_
     rintro e w10 ⟨rfl,hT10⟩
     go_wp2_with fail
     refine ⟨rfl,?_⟩
     rw [HK.out]
     exact ⟨rfl,HT9.out.trans (turnR hT10)⟩
    | ok y =>
     obtain ⟨idn,s4⟩ := y
     rw [hw] at HW
     have HK := hid (show kindP bs sub 5 s1 = if idOk node boot idn = true then .ok (.mk { kind := (5 : Nat),node := node,boot := boot,idn := idn } [],s4) else .error 73 by simp [kindP,HU1.out,HU2.out,HBB.out,hw])
     have HW := hid HW
     clear hw HU1 HU2 HBB
     refine HW.out.mono ?_
     rintro e w10 ⟨rfl,hR10,hT10⟩
     have HR10 := hid hR10
     have HT10 := hid (HT9.out.trans (turnR hT10))
     have HT010 := hid ((hT10.block N (blk_lt HT09.out) hT0R).trans HT09.out)
     have HT110 := hid ((hT10.block T (blk_lt HT19.out) hT1R).trans HT19.out)
     clear hR10 hT10 HR9 HT9 HT09 HT19
     clear HW
     obtain ⟨k0,k1,k2,k3,k4,k5,k6,k7,k8⟩ := NineAt.of_block HT110.out
     have fz := blk_fz HT110.out 6
     go_wp2_with fail
     clear fz k0 k1 k2 k3 k4 k5 k6 k7 k8
     have hNw := HN.out
     have HR11 := hid (rd_setT (o := 6) (u := .int .u64 (idn : Int)) H.out HR10.out (show w.heap.size ≤ T by omega) (.inl rfl))
     have HT11 := hid (turn_setT (o := 6) (u := .int .u64 (idn : Int)) HT10.out (show w.heap.size ≤ T by omega))
     have HT011 := hid ((Below.heap_setCell w10 ⟨T,6,none⟩ (.int .u64 (idn : Int)) _ hNT).trans HT010.out)
     have HT111 : Hid ((w10.setCell ⟨T,6,none⟩ (.int .u64 (idn : Int))).heap[T]? = some (.cells #[.int .i64 5,.int .i64 0,.complex .f64 0 0,.string ⟨#[]⟩,.int .i64 (node : Int),.int .u32 (boot : Int),.int .u64 (idn : Int),nilV,nilV] 31 (0,0))) := heap_setCell_at HT110.out
     clear hNw HR10 HT10 HT010 HT110
     generalize w10.setCell ⟨T,6,none⟩ (.int .u64 (idn : Int)) = w11 at *
     have HC := check_id 5 node boot idn (by decide) w11
     cases hI : idOk node boot idn with
     | false =>
      rw [hI] at HK HC
      have HC := hid HC
      clear hI
      refine HC.out.mono ?_
      rintro e w12 ⟨rfl,hb12⟩
      have HT12 := hid (HT11.out.trans (Turn.of_below hb12))
      clear HC hb12
      go_wp2_with fail
      refine (must_no _ _).mono ?_
      rintro e w13 ⟨rfl,rfl⟩
      go_wp2_with fail
      refine ⟨rfl,?_⟩
      rw [HK.out]
      exact ⟨rfl,HT12.out⟩
     | true =>
      rw [hI] at HK HC
      have HC := hid HC
      clear hI
      refine HC.out.mono ?_
      rintro e w12 ⟨rfl,hb12⟩
      have HR12 := hid (HR11.out.below hb12)
      have HT12 := hid (HT11.out.trans (Turn.of_below hb12))
      have HT012 := hid ((hb12.block N (blk_lt HT011.out)).trans HT011.out)
      have HT112 := hid ((hb12.block T (blk_lt HT111.out)).trans HT111.out)
      clear HC hb12 HR11 HT11 HT011 HT111
      go_wp2_with fail
      refine (must_yes _ _).mono ?_
      rintro e w13 ⟨rfl,rfl⟩
      obtain ⟨k0,k1,k2,k3,k4,k5,k6,k7,k8⟩ := NineAt.of_block HT112.out
      go_wp2_with (refine wpList_store_row rfl 31 (.tmp 4) (.tmp 155) rfl N #[.int .i64 5,.int .i64 0,.complex .f64 0 0,.string ⟨#[]⟩,.int .i64 (node : Int),.int .u32 (boot : Int),.int .u64 (idn : Int),nilV,nilV] rfl rfl 31 #[.int .i64 0,.int .i64 0,.complex .f64 0 0,.string ⟨#[]⟩,.int .i64 0,.int .u32 0,.int .u64 0,nilV,nilV] HT012.out infoT rfl (by simp [Array.all,Value.oneCell']) ?_)
      clear k0 k1 k2 k3 k4 k5 k6 k7 k8
      have ht9 := NineAt.of_block (setRow_heap w13 N #[.int .i64 0,.int .i64 0,.complex .f64 0 0,.string ⟨#[]⟩,.int .i64 0,.int .u32 0,.int .u64 0,nilV,nilV] #[.int .i64 5,.int .i64 0,.complex .f64 0 0,.string ⟨#[]⟩,.int .i64 (node : Int),.int .u32 (boot : Int),.int .u64 (idn : Int),nilV,nilV] 31 (0,0) HT012.out)
      have HC := hid (rp_close (cs := #[.int .i64 5,.int .i64 0,.complex .f64 0 0,.string ⟨#[]⟩,.int .i64 (node : Int),.int .u32 (boot : Int),.int .u64 (idn : Int),nilV,nilV]) H.out HR12.out HT12.out HN.out (.inl rfl) (Rep.leaf (h := { kind := (5 : Nat),node := node,boot := boot,idn := idn }) rfl))
      generalize w13.setRow N #[.int .i64 5,.int .i64 0,.complex .f64 0 0,.string ⟨#[]⟩,.int .i64 (node : Int),.int .u32 (boot : Int),.int .u64 (idn : Int),nilV,nilV] = wz at *
      obtain ⟨k0,k1,k2,k3,k4,k5,k6,k7,k8⟩ := ht9
      exact bodyPost_ret (v := .agg #[.int .i64 5,.int .i64 0,.complex .f64 0 0,.string ⟨#[]⟩,.int .i64 (node : Int),.int .u32 (boot : Int),.int .u64 (idn : Int),nilV,nilV]) (by simp [results,Try.results25,go_sem,k0,k1,k2,k3,k4,k5,k6,k7,k8]) rfl (by rw [HK.out]; exact ⟨v,_,rfl,HC.out⟩)
end Go.Proofs.Ytgadkiljnebicaa
