/- Several texts in one. -/
import Derived.Test.YtgadkiljnebicaaD13
import Derived.Test.YtgadkiljnebicaaD14
namespace Go.Proofs.Ytgadkiljnebicaa
open Go.Lib (hid)
open Go.RowKit
set_option maxRecDepth 100000
attribute [local go_sem] run_store_complex
theorem bytes_map (s : ByteArray) : s.data.toList.map cellB = byteCells s := rfl
set_option maxHeartbeats 4000000 in
theorem wp3_old (B Wb p m : Nat) (v : Value) (a : Option Addr) (c : Nat) (out : List UInt8) (names : List ByteArray) (s : ByteArray) (k : Nat) (hp : pos names s = some k) (hs : nameB s = true) (w : World) (h : WrAt B Wb p m v a c out names w) (hlen : out.length + 100 ≤ 1000000000) (hnl : names.length < 4096) :
  Calls Try.prog 39 #[.pointer (some ⟨Wb,0,none⟩),.agg #[.int .i64 3,.int .i64 0,.complex .f64 0 0,.string s,.int .i64 0,.int .u32 0,.int .u64 0,nilV,nilV]] w (WrPost B Wb p m v a c out w (out ++ (UInt8.ofNat 3 :: (atomB names s).1)) (atomB names s).2) := by
 have hs32 := nameB_32 hs
 have hsm : s.size ≤ maxLen := by unfold maxLen; omega
 have HPut := hid (show putL names s = (names,k,0) by simp [putL,hs,hp])
 have HAt := hid (show atomB names s = (wideB k,names) by simp [atomB,hp])
 have hkl : k < names.length := (pos_lt hp).1
 have HKl := hid hkl
 clear hkl
 have HNl := hid hnl
 clear hs hp hnl
 have HL1 := hid hlen
 obtain ⟨i0,hi,hz0,hz1,hz2⟩ := info_parts infoU8
 have X1 := hid hi
 have X2 := hid hz0
 have X3 := hid hz1
 have X4 := hid hz2
 have HX0 := hid (heap_new w (.cells #[.int .i64 3,.int .i64 0,.complex .f64 0 0,.string s,.int .i64 0,.int .u32 0,.int .u64 0,nilV,nilV] 31))
 have HSa := hid (h.stay ((Below.refl _ w).alloc (Nat.le_refl _) (.cells #[.int .i64 3,.int .i64 0,.complex .f64 0 0,.string s,.int .i64 0,.int .u32 0,.int .u64 0,nilV,nilV] 31)))
 have HNf := hid (show ¬ wfoot Wb p m v a out.length c w.heap.size from fun e => by have := (h.foot _ e).2; omega)
 have HBl := hid (show w.heap.size < (w.alloc (.cells #[.int .i64 3,.int .i64 0,.complex .f64 0 0,.string s,.int .i64 0,.int .u32 0,.int .u64 0,nilV,nilV] 31)).heap.size by simp)
 have HBw := hid h.bl
 clear h hi hz0 hz1 hz2 hlen
 go_enter Try.func39,Try.ntmps39
 go_wp2_with fail
 obtain ⟨b0,hb0⟩ : ∃ b,w.heap.size = b := ⟨_,rfl⟩
 rw [hb0] at HNf HBl HX0 ⊢
 have HB0 := hid hb0
 clear hb0
 generalize w.alloc (.cells #[.int .i64 3,.int .i64 0,.complex .f64 0 0,.string s,.int .i64 0,.int .u32 0,.int .u64 0,nilV,nilV] 31) = w1 at *
 have HS1 := hid (HSa.out.wr.stay (Below.refl _ w1))
 have HX1 := hid ((HS1.out.keep HBl.out HNf.out).trans HX0.out)
 obtain ⟨k0,k1,k2,k3,k4,k5,k6,k7,k8⟩ := NineAt.of_block HX1.out
 have wc0 := HS1.out.wr.c0
 have wc1 := HS1.out.wr.c1
 have wf0 := HS1.out.wr.fz 0
 have hwl := HS1.out.wr.wl
 have hbn : ¬ b0 = Wb := fun e => HNf.out (.inl e)
 have HM1 := hid (show out.length + 1 ≤ maxLen by have := HL1.out; unfold maxLen; omega)
 have HM2 := hid (show (out.length + 1) * 1 ≤ 140737488355328 by have := HL1.out; omega)
 have HM3 : Hid (B ≤ (w1.drew.alloc (.cells #[.int .u8 3] 5)).heap.size) := hid (by have := HS1.out.wr.bl; simp; omega)
 obtain ⟨o2,hO2⟩ : ∃ x,out ++ [UInt8.ofNat 3] = x := ⟨_,rfl⟩
 have HL2 := hid (show o2.length + 90 ≤ 1000000000 by rw [← hO2,List.length_append,show ([UInt8.ofNat 3] : List UInt8).length = 1 from (rfl)]; have := HL1.out; omega)
 have HO2 := hid hO2
 clear hO2
 go_cut [3] from 9 to 20 (fun t3 wx => t3 = .pointer (some ⟨b0,0,none⟩) ∧ ∃ (v' : Value) (a' : Option Addr) (c' : Nat),WrStep B Wb p m v a c out w1 v' a' c' o2 names wx)
 case first =>
  go_region_law (first
   | (refine step_app (by rfl) (.tmp 13) (.tmp 17) 22 22 (by rfl) B 5 i0 (.int .u8 0) 1 1 Try.underlying22 X1.out X2.out X3.out X4.out rfl (by decide) (.slice a out.length c) out.length (out.map cellB) (by rfl) (HS1.out.wr.row.drew.alloc _) (.slice (some ⟨w1.heap.size,0,none⟩) 1 1) 1 [.int .u8 3] (by rfl) (src_one w1.drew Try.underlying22 _ _ rfl) HM1.out HM2.out HM3.out ?_; intro a4 c4 wz ho4 hg4 hl4; have HA := hid (HS1.out.wr.app (W0 := (w1.drew.alloc (.cells #[.int .u8 3] 5))) ((Below.refl _ w1).drew.alloc (Nat.le_refl _) _) (news := [UInt8.ofNat 3]) (k := 1) (rfl) hg4 (by rw [cell1 (x := 3) (by decide) rfl]; exact ho4) hl4); have hK := HS1.out.wr.kept (W0 := (w1.drew.alloc (.cells #[.int .u8 3] 5))) ((Below.refl _ w1).drew.alloc (Nat.le_refl _) _) hg4; obtain ⟨y4,z4⟩ := hK; clear ho4 hg4 hl4))
  all_goals
   go_wp2_with fail
   go_meet
   exact ⟨rfl,_,_,_,by rw [← HO2.out]; exact HS1.out.trans HA.out⟩
 clear k0 k1 k2 k3 k4 k5 k6 k7 k8 wc0 wc1 wf0 hwl hbn
 obtain ⟨rfl,v2,a2,c2,hs⟩ := hcut
 have HS2 := hid hs
 clear hs HM1 HM2 HM3
 obtain ⟨w2,rfl⟩ : ∃ x,x = wc := ⟨_,rfl⟩
 have HX2 := hid ((HS2.out.keep HBl.out HNf.out).trans HX0.out)
 obtain ⟨k0,k1,k2,k3,k4,k5,k6,k7,k8⟩ := NineAt.of_block HX2.out
 have wc0 := HS2.out.wr.c0
 have wc1 := HS2.out.wr.c1
 have wf0 := HS2.out.wr.fz 0
 have hwl := HS2.out.wr.wl
 have hbn : ¬ b0 = Wb := fun e => HNf.out (.inl e)
 go_wp2_with fail
 clear k0 k1 k2 k3 k4 k5 k6 k7 k8 wc0 wc1 wf0 hwl hbn HX2
 refine (len_any p m v2 names w2 HS2.out.wr.tab).mono ?_
 rintro e w3 ⟨rfl,rfl⟩
 have HX2 := hid ((HS2.out.keep HBl.out HNf.out).trans HX0.out)
 obtain ⟨k0,k1,k2,k3,k4,k5,k6,k7,k8⟩ := NineAt.of_block HX2.out
 have wc0 := HS2.out.wr.c0
 have wc1 := HS2.out.wr.c1
 have wf0 := HS2.out.wr.fz 0
 have hwl := HS2.out.wr.wl
 have hbn : ¬ b0 = Wb := fun e => HNf.out (.inl e)
 go_upto_region 10 with fail
 have H1 := tput_any p m v2 names s w2.drew (HS2.out.wr.tab.below (Below.refl _ _).drew) hsm
 have H1 := hid H1
 go_cut [4,5] from 55 to 64 (fun t4 t5 wx => t4 = .int .i64 names.length ∧ t5 = .int .i64 k ∧ ∃ (v' : Value) (a' : Option Addr) (c' : Nat),WrStep B Wb p m v a c out w1 v' a' c' o2 names wx)
 case first =>
  go_region_with ((with_reducible refine H1.out.mono ?_); rintro e wp hr; obtain ⟨v3,rfl,ht,hT,hv⟩ := hr; have hT' := ht; rw [HPut.out] at hT'; have HA3 := hid ((HS2.out.trans ((HS2.out.wr.stay (Below.refl _ _).drew).trans ((HS2.out.wr.below (Below.refl _ _).drew).put hT' hT hv)))); clear ht hT hv hT')
  all_goals
   go_wp2_with fail
   go_meet
   exact ⟨rfl,by rw [HPut.out],_,_,_,HA3.out⟩
 clear k0 k1 k2 k3 k4 k5 k6 k7 k8 wc0 wc1 wf0 hwl hbn HX2 H1
 obtain ⟨rfl,rfl,v3,a3,c3,hs⟩ := hcut
 have HS3 := hid hs
 clear hs
 obtain ⟨w3,rfl⟩ : ∃ x,x = wc := ⟨_,rfl⟩
 obtain ⟨o3,ho3⟩ : ∃ x,o2 = x := ⟨_,rfl⟩
 have HL3 := hid (show o3.length + 90 ≤ 1000000000 by rw [← ho3]; exact HL2.out)
 have HO3 := hid ho3
 rw [ho3] at HS3
 clear ho3
 have HX3 := hid ((HS3.out.keep HBl.out HNf.out).trans HX0.out)
 obtain ⟨k0,k1,k2,k3,k4,k5,k6,k7,k8⟩ := NineAt.of_block HX3.out
 have wc0 := HS3.out.wr.c0
 have wc1 := HS3.out.wr.c1
 have wf0 := HS3.out.wr.fz 0
 have hwl := HS3.out.wr.wl
 have hbn : ¬ b0 = Wb := fun e => HNf.out (.inl e)
 have hnw : IntKind.u64.wrap (k : Int) = k := wrap_u64_nat _ (by have := HNl.out; have := HKl.out; omega)
 go_wp2_with fail
 clear k0 k1 k2 k3 k4 k5 k6 k7 k8 wc0 wc1 wf0 hwl hbn
 refine (wwide_any B Wb p m v3 a3 c3 o3 names k (by have := HNl.out; have := HKl.out; omega) w3 HS3.out.wr (by have := HL3.out; omega)).mono ?_
 rintro e w4 ⟨rfl,v4,a4,c4,hs⟩
 have HS4 := hid (HS3.out.trans hs)
 clear hs
 obtain ⟨o4,hO4⟩ : ∃ x,o3 ++ wideB k = x := ⟨_,rfl⟩
 have HL4 := hid (show o4.length + 70 ≤ 1000000000 by rw [← hO4,List.length_append]; have := HL3.out; have := wideB_len k; omega)
 rw [hO4] at HS4
 have HO4 := hid hO4
 clear hO4
 clear hnw
 have hne : ((k : Int) == (names.length : Int)) = false := beq_eq_false_iff_ne.2 (by have := HKl.out; omega)
 go_wp2_with fail
 go_end0
 exact ⟨rfl,v4,a4,c4,by rw [HAt.out]; simp only []; rw [show out ++ (UInt8.ofNat 3 :: wideB k) = o4 by rw [← HO4.out,← HO3.out,← HO2.out]; simp]; exact HSa.out.trans HS4.out⟩
set_option maxHeartbeats 4000000 in
theorem wp3_new (B Wb p m : Nat) (v : Value) (a : Option Addr) (c : Nat) (out : List UInt8) (names : List ByteArray) (s : ByteArray) (hp : pos names s = none) (hs : nameB s = true) (w : World) (h : WrAt B Wb p m v a c out names w) (hlen : out.length + 100 ≤ 1000000000) (hnl : names.length < 4096) :
  Calls Try.prog 39 #[.pointer (some ⟨Wb,0,none⟩),.agg #[.int .i64 3,.int .i64 0,.complex .f64 0 0,.string s,.int .i64 0,.int .u32 0,.int .u64 0,nilV,nilV]] w (WrPost B Wb p m v a c out w (out ++ (UInt8.ofNat 3 :: (atomB names s).1)) (atomB names s).2) := by
 have hs32 := nameB_32 hs
 have hsm : s.size ≤ maxLen := by unfold maxLen; omega
 have HPut := hid (show putL names s = (names ++ [s],names.length,0) by simp [putL,hs,hp]; omega)
 have HAt := hid (show atomB names s = (wideB names.length ++ (UInt8.ofNat s.size :: s.data.toList),names ++ [s]) by simp [atomB,hp])
 have HKl := hid trivial
 have HNl := hid hnl
 clear hs hp hnl
 have HL1 := hid hlen
 obtain ⟨i0,hi,hz0,hz1,hz2⟩ := info_parts infoU8
 have X1 := hid hi
 have X2 := hid hz0
 have X3 := hid hz1
 have X4 := hid hz2
 have HX0 := hid (heap_new w (.cells #[.int .i64 3,.int .i64 0,.complex .f64 0 0,.string s,.int .i64 0,.int .u32 0,.int .u64 0,nilV,nilV] 31))
 have HSa := hid (h.stay ((Below.refl _ w).alloc (Nat.le_refl _) (.cells #[.int .i64 3,.int .i64 0,.complex .f64 0 0,.string s,.int .i64 0,.int .u32 0,.int .u64 0,nilV,nilV] 31)))
 have HNf := hid (show ¬ wfoot Wb p m v a out.length c w.heap.size from fun e => by have := (h.foot _ e).2; omega)
 have HBl := hid (show w.heap.size < (w.alloc (.cells #[.int .i64 3,.int .i64 0,.complex .f64 0 0,.string s,.int .i64 0,.int .u32 0,.int .u64 0,nilV,nilV] 31)).heap.size by simp)
 have HBw := hid h.bl
 clear h hi hz0 hz1 hz2 hlen
 go_enter Try.func39,Try.ntmps39
 go_wp2_with fail
 obtain ⟨b0,hb0⟩ : ∃ b,w.heap.size = b := ⟨_,rfl⟩
 rw [hb0] at HNf HBl HX0 ⊢
 have HB0 := hid hb0
 clear hb0
 generalize w.alloc (.cells #[.int .i64 3,.int .i64 0,.complex .f64 0 0,.string s,.int .i64 0,.int .u32 0,.int .u64 0,nilV,nilV] 31) = w1 at *
 have HS1 := hid (HSa.out.wr.stay (Below.refl _ w1))
 have HX1 := hid ((HS1.out.keep HBl.out HNf.out).trans HX0.out)
 obtain ⟨k0,k1,k2,k3,k4,k5,k6,k7,k8⟩ := NineAt.of_block HX1.out
 have wc0 := HS1.out.wr.c0
 have wc1 := HS1.out.wr.c1
 have wf0 := HS1.out.wr.fz 0
 have hwl := HS1.out.wr.wl
 have hbn : ¬ b0 = Wb := fun e => HNf.out (.inl e)
 have HM1 := hid (show out.length + 1 ≤ maxLen by have := HL1.out; unfold maxLen; omega)
 have HM2 := hid (show (out.length + 1) * 1 ≤ 140737488355328 by have := HL1.out; omega)
 have HM3 : Hid (B ≤ (w1.drew.alloc (.cells #[.int .u8 3] 5)).heap.size) := hid (by have := HS1.out.wr.bl; simp; omega)
 obtain ⟨o2,hO2⟩ : ∃ x,out ++ [UInt8.ofNat 3] = x := ⟨_,rfl⟩
 have HL2 := hid (show o2.length + 90 ≤ 1000000000 by rw [← hO2,List.length_append,show ([UInt8.ofNat 3] : List UInt8).length = 1 from (rfl)]; have := HL1.out; omega)
 have HO2 := hid hO2
 clear hO2
 go_cut [3] from 9 to 20 (fun t3 wx => t3 = .pointer (some ⟨b0,0,none⟩) ∧ ∃ (v' : Value) (a' : Option Addr) (c' : Nat),WrStep B Wb p m v a c out w1 v' a' c' o2 names wx)
 case first =>
  go_region_law (first
   | (refine step_app (by rfl) (.tmp 13) (.tmp 17) 22 22 (by rfl) B 5 i0 (.int .u8 0) 1 1 Try.underlying22 X1.out X2.out X3.out X4.out rfl (by decide) (.slice a out.length c) out.length (out.map cellB) (by rfl) (HS1.out.wr.row.drew.alloc _) (.slice (some ⟨w1.heap.size,0,none⟩) 1 1) 1 [.int .u8 3] (by rfl) (src_one w1.drew Try.underlying22 _ _ rfl) HM1.out HM2.out HM3.out ?_; intro a4 c4 wz ho4 hg4 hl4; have HA := hid (HS1.out.wr.app (W0 := (w1.drew.alloc (.cells #[.int .u8 3] 5))) ((Below.refl _ w1).drew.alloc (Nat.le_refl _) _) (news := [UInt8.ofNat 3]) (k := 1) (rfl) hg4 (by rw [cell1 (x := 3) (by decide) rfl]; exact ho4) hl4); have hK := HS1.out.wr.kept (W0 := (w1.drew.alloc (.cells #[.int .u8 3] 5))) ((Below.refl _ w1).drew.alloc (Nat.le_refl _) _) hg4; obtain ⟨y4,z4⟩ := hK; clear ho4 hg4 hl4))
  all_goals
   go_wp2_with fail
   go_meet
   exact ⟨rfl,_,_,_,by rw [← HO2.out]; exact HS1.out.trans HA.out⟩
 clear k0 k1 k2 k3 k4 k5 k6 k7 k8 wc0 wc1 wf0 hwl hbn
 obtain ⟨rfl,v2,a2,c2,hs⟩ := hcut
 have HS2 := hid hs
 clear hs HM1 HM2 HM3
 obtain ⟨w2,rfl⟩ : ∃ x,x = wc := ⟨_,rfl⟩
 have HX2 := hid ((HS2.out.keep HBl.out HNf.out).trans HX0.out)
 obtain ⟨k0,k1,k2,k3,k4,k5,k6,k7,k8⟩ := NineAt.of_block HX2.out
 have wc0 := HS2.out.wr.c0
 have wc1 := HS2.out.wr.c1
 have wf0 := HS2.out.wr.fz 0
 have hwl := HS2.out.wr.wl
 have hbn : ¬ b0 = Wb := fun e => HNf.out (.inl e)
 go_wp2_with fail
 clear k0 k1 k2 k3 k4 k5 k6 k7 k8 wc0 wc1 wf0 hwl hbn HX2
 refine (len_any p m v2 names w2 HS2.out.wr.tab).mono ?_
 rintro e w3 ⟨rfl,rfl⟩
 have HX2 := hid ((HS2.out.keep HBl.out HNf.out).trans HX0.out)
 obtain ⟨k0,k1,k2,k3,k4,k5,k6,k7,k8⟩ := NineAt.of_block HX2.out
 have wc0 := HS2.out.wr.c0
 have wc1 := HS2.out.wr.c1
 have wf0 := HS2.out.wr.fz 0
 have hwl := HS2.out.wr.wl
 have hbn : ¬ b0 = Wb := fun e => HNf.out (.inl e)
 go_upto_region 10 with fail
 have H1 := tput_any p m v2 names s w2.drew (HS2.out.wr.tab.below (Below.refl _ _).drew) hsm
 have H1 := hid H1
 go_cut [4,5] from 55 to 64 (fun t4 t5 wx => t4 = .int .i64 names.length ∧ t5 = .int .i64 names.length ∧ ∃ (v' : Value) (a' : Option Addr) (c' : Nat),WrStep B Wb p m v a c out w1 v' a' c' o2 (names ++ [s]) wx)
 case first =>
  go_region_with ((with_reducible refine H1.out.mono ?_); rintro e wp hr; obtain ⟨v3,rfl,ht,hT,hv⟩ := hr; have hT' := ht; rw [HPut.out] at hT'; have HA3 := hid ((HS2.out.trans ((HS2.out.wr.stay (Below.refl _ _).drew).trans ((HS2.out.wr.below (Below.refl _ _).drew).put hT' hT hv)))); clear ht hT hv hT')
  all_goals
   go_wp2_with fail
   go_meet
   exact ⟨rfl,by rw [HPut.out],_,_,_,HA3.out⟩
 clear k0 k1 k2 k3 k4 k5 k6 k7 k8 wc0 wc1 wf0 hwl hbn HX2 H1
 obtain ⟨rfl,rfl,v3,a3,c3,hs⟩ := hcut
 have HS3 := hid hs
 clear hs
 obtain ⟨w3,rfl⟩ : ∃ x,x = wc := ⟨_,rfl⟩
 obtain ⟨o3,ho3⟩ : ∃ x,o2 = x := ⟨_,rfl⟩
 have HL3 := hid (show o3.length + 90 ≤ 1000000000 by rw [← ho3]; exact HL2.out)
 have HO3 := hid ho3
 rw [ho3] at HS3
 clear ho3
 have HX3 := hid ((HS3.out.keep HBl.out HNf.out).trans HX0.out)
 obtain ⟨k0,k1,k2,k3,k4,k5,k6,k7,k8⟩ := NineAt.of_block HX3.out
 have wc0 := HS3.out.wr.c0
 have wc1 := HS3.out.wr.c1
 have wf0 := HS3.out.wr.fz 0
 have hwl := HS3.out.wr.wl
 have hbn : ¬ b0 = Wb := fun e => HNf.out (.inl e)
 have hnw : IntKind.u64.wrap (names.length : Int) = names.length := wrap_u64_nat _ (by have := HNl.out; have := HKl.out; omega)
 go_wp2_with fail
 clear k0 k1 k2 k3 k4 k5 k6 k7 k8 wc0 wc1 wf0 hwl hbn
 refine (wwide_any B Wb p m v3 a3 c3 o3 (names ++ [s]) names.length (by have := HNl.out; have := HKl.out; omega) w3 HS3.out.wr (by have := HL3.out; omega)).mono ?_
 rintro e w4 ⟨rfl,v4,a4,c4,hs⟩
 have HS4 := hid (HS3.out.trans hs)
 clear hs
 obtain ⟨o4,hO4⟩ : ∃ x,o3 ++ wideB names.length = x := ⟨_,rfl⟩
 have HL4 := hid (show o4.length + 70 ≤ 1000000000 by rw [← hO4,List.length_append]; have := HL3.out; have := wideB_len names.length; omega)
 rw [hO4] at HS4
 have HO4 := hid hO4
 clear hO4
 clear hnw
 have hne : ((names.length : Int) == (names.length : Int)) = true := beq_iff_eq.2 rfl
 go_upto_region 13 with fail
 clear hne
 have HX4 := hid ((HS4.out.keep HBl.out HNf.out).trans HX0.out)
 obtain ⟨k0,k1,k2,k3,k4,k5,k6,k7,k8⟩ := NineAt.of_block HX4.out
 have wc0 := HS4.out.wr.c0
 have wc1 := HS4.out.wr.c1
 have wf0 := HS4.out.wr.fz 0
 have hwl := HS4.out.wr.wl
 have hbn : ¬ b0 = Wb := fun e => HNf.out (.inl e)
 have hwn : IntKind.u8.wrap (s.size : Int) = s.size := by rw [wrap_u8]; omega
 have HM1 := hid (show o4.length + 1 ≤ maxLen by have := HL4.out; unfold maxLen; omega)
 have HM2 := hid (show (o4.length + 1) * 1 ≤ 140737488355328 by have := HL4.out; omega)
 have HM3 : Hid (B ≤ (w4.drew.alloc (.cells #[.int .u8 (s.size : Int)] 5)).heap.size) := hid (by have := HS4.out.wr.bl; simp; omega)
 obtain ⟨o5,hO5⟩ : ∃ x,o4 ++ [UInt8.ofNat s.size] = x := ⟨_,rfl⟩
 have HL5 := hid (show o5.length + 60 ≤ 1000000000 by rw [← hO5,List.length_append,show ([UInt8.ofNat s.size] : List UInt8).length = 1 from (rfl)]; have := HL4.out; omega)
 have HO5 := hid hO5
 clear hO5
 go_cut [3] from 72 to 84 (fun t3 wx => t3 = .pointer (some ⟨b0,0,none⟩) ∧ ∃ (v' : Value) (a' : Option Addr) (c' : Nat),WrStep B Wb p m v a c out w1 v' a' c' o5 (names ++ [s]) wx)
 case first =>
  go_region_law (first
   | (refine step_app (by rfl) (.tmp 76) (.tmp 81) 22 22 (by rfl) B 5 i0 (.int .u8 0) 1 1 Try.underlying22 X1.out X2.out X3.out X4.out rfl (by decide) (.slice a4 o4.length c4) o4.length (o4.map cellB) (by rfl) (HS4.out.wr.row.drew.alloc _) (.slice (some ⟨w4.heap.size,0,none⟩) 1 1) 1 [.int .u8 (s.size : Int)] (by rfl) (src_one w4.drew Try.underlying22 _ _ rfl) HM1.out HM2.out HM3.out ?_; intro a4 c4 wz ho4 hg4 hl4; have HA := hid (HS4.out.wr.app (W0 := (w4.drew.alloc (.cells #[.int .u8 (s.size : Int)] 5))) ((Below.refl _ w4).drew.alloc (Nat.le_refl _) _) (news := [UInt8.ofNat s.size]) (k := 1) (rfl) hg4 (by rw [cell1 (x := s.size) (by omega) rfl]; exact ho4) hl4); have hK := HS4.out.wr.kept (W0 := (w4.drew.alloc (.cells #[.int .u8 (s.size : Int)] 5))) ((Below.refl _ w4).drew.alloc (Nat.le_refl _) _) hg4; obtain ⟨y4,z4⟩ := hK; clear ho4 hg4 hl4))
  all_goals
   go_wp2_with fail
   go_meet
   exact ⟨rfl,_,_,_,by rw [← HO5.out]; exact HS4.out.trans HA.out⟩
 clear k0 k1 k2 k3 k4 k5 k6 k7 k8 wc0 wc1 wf0 hwl hbn
 obtain ⟨rfl,v5,a5,c5,hs⟩ := hcut
 have HS5 := hid hs
 clear hs HM1 HM2 HM3
 obtain ⟨w5,rfl⟩ : ∃ x,x = wc := ⟨_,rfl⟩
 clear hwn
 go_upto_region 14 with fail
 have HX5 := hid ((HS5.out.keep HBl.out HNf.out).trans HX0.out)
 obtain ⟨k0,k1,k2,k3,k4,k5,k6,k7,k8⟩ := NineAt.of_block HX5.out
 have wc0 := HS5.out.wr.c0
 have wc1 := HS5.out.wr.c1
 have wf0 := HS5.out.wr.fz 0
 have hwl := HS5.out.wr.wl
 have hbn : ¬ b0 = Wb := fun e => HNf.out (.inl e)
 have HM1 := hid (show o5.length + s.size ≤ maxLen by have := HL5.out; unfold maxLen; omega)
 have HM2 := hid (show (o5.length + s.size) * 1 ≤ 140737488355328 by have := HL5.out; omega)
 have HM3 : Hid (B ≤ w5.drew.heap.size) := hid (by have := HS5.out.wr.bl; simp; omega)
 obtain ⟨o6,hO6⟩ : ∃ x,o5 ++ s.data.toList = x := ⟨_,rfl⟩
 have HL6 := hid (show o6.length + 10 ≤ 1000000000 by rw [← hO6,List.length_append,show (s.data.toList : List UInt8).length = s.size from (rfl)]; have := HL5.out; omega)
 have HO6 := hid hO6
 clear hO6
 ·
  go_region_law (first
   | (refine step_app (by rfl) (.tmp 89) (.tmp 91) 22 9 (by rfl) B 5 i0 (.int .u8 0) 1 1 Try.underlying22 X1.out X2.out X3.out X4.out rfl (by decide) (.slice a5 o5.length c5) o5.length (o5.map cellB) (by rfl) HS5.out.wr.row.drew (.string s) s.size (byteCells s) (by rfl) (Src.ofString _ Try.underlying9 s) HM1.out HM2.out HM3.out ?_; intro a4 c4 wz ho4 hg4 hl4; have HA := hid (HS5.out.wr.app (W0 := w5.drew) (Below.refl _ w5).drew (news := s.data.toList) (k := s.size) (rfl) hg4 (by rw [bytes_map s]; exact ho4) hl4); have hK := HS5.out.wr.kept (W0 := w5.drew) (Below.refl _ w5).drew hg4; obtain ⟨y4,z4⟩ := hK; clear ho4 hg4 hl4))
  all_goals
   try go_wp2_with fail
   have HSo := hid (HS5.out.trans HA.out)
   go_end0
   exact ⟨rfl,_,_,_,by rw [HAt.out]; simp only []; rw [show out ++ (UInt8.ofNat 3 :: (wideB names.length ++ (UInt8.ofNat s.size :: s.data.toList))) = o5 ++ s.data.toList by rw [← HO5.out,← HO4.out,← HO3.out,← HO2.out]; simp]; exact HSa.out.trans HSo.out⟩
set_option maxHeartbeats 2000000 in
theorem rp3 (R p m : Nat) (v bv : Value) (bs : List UInt8) (s s1 : St) (sub : Rd Tm) (d : Int) (hd : d ≤ 24) (w : World) (h : RdAt w R p m v bv bs s) (hn : s.n + 1 ≤ 4096) (ho : oneP bs { s with n := s.n + 1 } = .ok (3,s1)) (hnm : s1.names.length < 4096) :
  Calls Try.prog 25 #[.pointer (some ⟨R,0,none⟩),.int .i64 d] w (PartPost R p m v bv bs w (kindP bs sub 3 s1)) := by
 have H := hid h
 have HO := hid ho
 have HA := hid (h.below ((Below.refl _ w).alloc (Nat.le_refl _) (.cells #[.int .i64 0,.int .i64 0,.complex .f64 0 0,.string ⟨#[]⟩,.int .i64 0,.int .u32 0,.int .u64 0,nilV,nilV] 31)))
 have r2 := HA.out.c2
 have rf := HA.out.fz 2
 have hn' : (s.n : Int) + 1 ≤ 4096 := by omega
 clear h ho
 go_enter Try.func25,Try.ntmps25
 go_wp2_with fail
 have HR2 : Hid (RdAt ((w.alloc (.cells #[.int .i64 0,.int .i64 0,.complex .f64 0 0,.string ⟨#[]⟩,.int .i64 0,.int .u32 0,.int .u64 0,nilV,nilV] 31)).setCell ⟨R,2,none⟩ (.int .i64 ((s.n : Int) + 1))) R p m v bv bs { s with n := s.n + 1 }) := HA.out.store (by simp) rfl HA.out.ile (show s.n + 1 ≤ 4097 by omega)
 have HT2 := hid ((Turn.alloc (fun i => i = R) w (.cells #[.int .i64 0,.int .i64 0,.complex .f64 0 0,.string ⟨#[]⟩,.int .i64 0,.int .u32 0,.int .u64 0,nilV,nilV] 31)).trans (Turn.setCell _ R 2 (.int .i64 ((s.n : Int) + 1))))
 have hRl := H.out.lt R (.inl rfl)
 have hT0R : ¬ w.heap.size = R := by omega
 have HT0 := hid ((Below.heap_setCell (w.alloc (.cells #[.int .i64 0,.int .i64 0,.complex .f64 0 0,.string ⟨#[]⟩,.int .i64 0,.int .u32 0,.int .u64 0,nilV,nilV] 31)) ⟨R,2,none⟩ (.int .i64 ((s.n : Int) + 1)) _ hT0R).trans (heap_new w _))
 generalize (w.alloc (.cells #[.int .i64 0,.int .i64 0,.complex .f64 0 0,.string ⟨#[]⟩,.int .i64 0,.int .u32 0,.int .u64 0,nilV,nilV] 31)).setCell ⟨R,2,none⟩ (.int .i64 ((s.n : Int) + 1)) = w2 at *
 have H1 := one_any R p m v bv bs _ w2 HR2.out
 rw [HO.out] at H1
 obtain ⟨N,hN⟩ : ∃ N,w.heap.size = N := ⟨_,rfl⟩
 rw [hN] at hRl hT0R HT0 ⊢
 have HN := hid hN
 refine H1.mono ?_
 rintro e w3 ⟨rfl,hR3,hT3⟩
 have HR3 := hid hR3
 have HT3 := hid (HT2.out.trans hT3)
 have HT03 := hid ((hT3.block N (blk_lt HT0.out) hT0R).trans HT0.out)
 have hNl : N < w3.heap.size := blk_lt HT03.out
 clear hR3 hT3 hN HA HR2 HT2 HT0 H1 r2 rf hn' HO
 have HR4 := hid (HR3.out.below ((Below.refl _ w3).alloc (Nat.le_refl _) (.cells #[.int .i64 3,.int .i64 0,.complex .f64 0 0,.string ⟨#[]⟩,.int .i64 0,.int .u32 0,.int .u64 0,nilV,nilV] 31)))
 have HT4 := hid (turnR (p := p) (m := m) (v := v) (HT3.out.trans (Turn.alloc (fun i => i = R) w3 (.cells #[.int .i64 3,.int .i64 0,.complex .f64 0 0,.string ⟨#[]⟩,.int .i64 0,.int .u32 0,.int .u64 0,nilV,nilV] 31))))
 have HT04 := hid ((Below.heap_alloc w3 (.cells #[.int .i64 3,.int .i64 0,.complex .f64 0 0,.string ⟨#[]⟩,.int .i64 0,.int .u32 0,.int .u64 0,nilV,nilV] 31) N hNl).trans HT03.out)
 have HT14 := hid (heap_new w3 (.cells #[.int .i64 3,.int .i64 0,.complex .f64 0 0,.string ⟨#[]⟩,.int .i64 0,.int .u32 0,.int .u64 0,nilV,nilV] 31))
 have hT1R : ¬ w3.heap.size = R := by omega
 obtain ⟨k0,k1,k2,k3,k4,k5,k6,k7,k8⟩ := NineAt.of_block HT14.out
 go_wp2_with fail
 clear k0 k1 k2 k3 k4 k5 k6 k7 k8 HR3 HT3 HT03
 generalize w3.alloc (.cells #[.int .i64 3,.int .i64 0,.complex .f64 0 0,.string ⟨#[]⟩,.int .i64 0,.int .u32 0,.int .u64 0,nilV,nilV] 31) = w4 at *
 generalize w3.heap.size = T at *
 have HW := rname_any R p m v bv bs s1 w4 HR4.out hnm
 have hN4 := blk_lt HT14.out
 cases hw : nameP bs s1 with
 | error x =>
  rw [hw] at HW
  have HK := hid (show kindP bs sub 3 s1 = .error x by simp [kindP,hw])
  have HW := hid HW
  clear hw
  refine HW.out.mono ?_
  rintro e w5 ⟨rfl,hT5⟩
  go_wp2_with fail
  refine ⟨rfl,?_⟩
  rw [HK.out]
  exact ⟨rfl,HT4.out.trans hT5⟩
 | ok y =>
  obtain ⟨x,s2⟩ := y
  rw [hw] at HW
  have HK := hid (show kindP bs sub 3 s1 = .ok (.mk { kind := 3,s := x } [],s2) by simp [kindP,hw])
  have HW := hid HW
  clear hw
  refine HW.out.mono ?_
  rintro e w5 ⟨v',rfl,hR5,hT5,hv5⟩
  have hNw := HN.out
  have hTf : ¬ foot R p m v T := fun hf => by
   have := H.out.lt T hf
   omega
  have hNf : ¬ foot R p m v N := fun hf => by
   have := H.out.lt N hf
   omega
  have HR5 := hid hR5
  have HT5 := hid (HT4.out.trans hT5)
  have HT05 := hid ((hT5.block N (blk_lt HT04.out) hNf).trans HT04.out)
  have HT15 := hid ((hT5.block T (blk_lt HT14.out) hTf).trans HT14.out)
  have HV := hid (show v'.ownBlock = v.ownBlock ∨ ∀ b,v'.ownBlock = some b → T < b from hv5.imp id fun k b e => by have := k b e; omega)
  have HVN := hid (show v'.ownBlock = v.ownBlock ∨ ∀ b,v'.ownBlock = some b → N < b from hv5.imp id fun k b e => by have := k b e; omega)
  clear hR5 hT5 HR4 HT4 HT04 HT14 HW hNw hTf hNf hv5
  have hNT : ¬ N = T := by omega
  obtain ⟨k0,k1,k2,k3,k4,k5,k6,k7,k8⟩ := NineAt.of_block HT15.out
  have f1 := blk_fz HT15.out 3
  have HR6 := hid (rd_setT (o := 3) (u := .string x) H.out HR5.out (show w.heap.size ≤ T by have := HN.out; omega) HV.out)
  have HT6 := hid (turn_setT (o := 3) (u := .string x) HT5.out (show w.heap.size ≤ T by have := HN.out; omega))
  have HT06 := hid ((Below.heap_setCell w5 ⟨T,3,none⟩ (.string x) _ hNT).trans HT05.out)
  have HT16 : Hid ((w5.setCell ⟨T,3,none⟩ (.string x)).heap[T]? = some (.cells #[.int .i64 3,.int .i64 0,.complex .f64 0 0,.string x,.int .i64 0,.int .u32 0,.int .u64 0,nilV,nilV] 31 (0,0))) := heap_setCell_at HT15.out
  go_wp2_with (refine wpList_store_row rfl 31 (.tmp 4) (.tmp 155) rfl N #[.int .i64 3,.int .i64 0,.complex .f64 0 0,.string x,.int .i64 0,.int .u32 0,.int .u64 0,nilV,nilV] rfl rfl 31 #[.int .i64 0,.int .i64 0,.complex .f64 0 0,.string ⟨#[]⟩,.int .i64 0,.int .u32 0,.int .u64 0,nilV,nilV] HT06.out infoT rfl (by simp [Array.all,Value.oneCell']) ?_)
  clear k0 k1 k2 k3 k4 k5 k6 k7 k8 f1 HR5 HT5 HT05 HT15
  generalize w5.setCell ⟨T,3,none⟩ (.string x) = w6 at *
  have ht9 := NineAt.of_block (setRow_heap w6 N #[.int .i64 0,.int .i64 0,.complex .f64 0 0,.string ⟨#[]⟩,.int .i64 0,.int .u32 0,.int .u64 0,nilV,nilV] #[.int .i64 3,.int .i64 0,.complex .f64 0 0,.string x,.int .i64 0,.int .u32 0,.int .u64 0,nilV,nilV] 31 (0,0) HT06.out)
  have HC := hid (rp_close (cs := #[.int .i64 3,.int .i64 0,.complex .f64 0 0,.string x,.int .i64 0,.int .u32 0,.int .u64 0,nilV,nilV]) H.out HR6.out HT6.out HN.out HVN.out (Rep.leaf (h := { kind := 3,s := x }) rfl))
  generalize w6.setRow N #[.int .i64 3,.int .i64 0,.complex .f64 0 0,.string x,.int .i64 0,.int .u32 0,.int .u64 0,nilV,nilV] = wz at *
  obtain ⟨k0,k1,k2,k3,k4,k5,k6,k7,k8⟩ := ht9
  exact bodyPost_ret (v := .agg #[.int .i64 3,.int .i64 0,.complex .f64 0 0,.string x,.int .i64 0,.int .u32 0,.int .u64 0,nilV,nilV]) (by simp [results,Try.results25,go_sem,k0,k1,k2,k3,k4,k5,k6,k7,k8]) rfl (by rw [HK.out]; exact ⟨v',_,rfl,HC.out⟩)
theorem rp_deep (R p m : Nat) (v bv : Value) (bs : List UInt8) (d : Int) (hd : 24 < d) (w : World) : Calls Try.prog 25 #[.pointer (some ⟨R,0,none⟩),.int .i64 d] w (PartPost R p m v bv bs w (.error 20)) := by
 go_enter Try.func25,Try.ntmps25
 go_wp2_with fail
 refine (fail_any _ 20 _).mono ?_
 rintro e w3 ⟨rfl,rfl⟩
 go_wp2_with fail
 exact ⟨rfl,rfl,Turn.alloc _ w _⟩
theorem rp_big (R p m : Nat) (v bv : Value) (bs : List UInt8) (s : St) (d : Int) (hd : d ≤ 24) (w : World) (h : RdAt w R p m v bv bs s) (hn : 4096 < s.n + 1) : Calls Try.prog 25 #[.pointer (some ⟨R,0,none⟩),.int .i64 d] w (PartPost R p m v bv bs w (.error 21)) := by
 have HA := hid (h.below ((Below.refl _ w).alloc (Nat.le_refl _) (.cells #[.int .i64 0,.int .i64 0,.complex .f64 0 0,.string ⟨#[]⟩,.int .i64 0,.int .u32 0,.int .u64 0,nilV,nilV] 31)))
 have r2 := HA.out.c2
 have rf := HA.out.fz 2
 have hn' : (4096 : Int) < (s.n : Int) + 1 := by omega
 have hnle := h.nle
 have hn2 : (s.n : Int) ≤ 4097 := by omega
 clear h hnle
 go_enter Try.func25,Try.ntmps25
 go_wp2_with fail
 have HT2 := hid ((Turn.alloc (fun i => i = R) w (.cells #[.int .i64 0,.int .i64 0,.complex .f64 0 0,.string ⟨#[]⟩,.int .i64 0,.int .u32 0,.int .u64 0,nilV,nilV] 31)).trans (Turn.setCell _ R 2 (.int .i64 ((s.n : Int) + 1))))
 refine (fail_any _ 21 _).mono ?_
 rintro e w3 ⟨rfl,rfl⟩
 go_wp2_with fail
 exact ⟨rfl,rfl,turnR HT2.out⟩
set_option maxHeartbeats 2000000 in
theorem rp_short (R p m : Nat) (v bv : Value) (bs : List UInt8) (s : St) (x : Int) (d : Int) (hd : d ≤ 24) (w : World) (h : RdAt w R p m v bv bs s) (hn : s.n + 1 ≤ 4096) (ho : oneP bs { s with n := s.n + 1 } = .error x) :
  Calls Try.prog 25 #[.pointer (some ⟨R,0,none⟩),.int .i64 d] w (PartPost R p m v bv bs w (.error x)) := by
 have H := hid h
 have HO := hid ho
 have HA := hid (h.below ((Below.refl _ w).alloc (Nat.le_refl _) (.cells #[.int .i64 0,.int .i64 0,.complex .f64 0 0,.string ⟨#[]⟩,.int .i64 0,.int .u32 0,.int .u64 0,nilV,nilV] 31)))
 have r2 := HA.out.c2
 have rf := HA.out.fz 2
 have hn' : (s.n : Int) + 1 ≤ 4096 := by omega
 clear h ho
 go_enter Try.func25,Try.ntmps25
 go_wp2_with fail
 have HR2 : Hid (RdAt ((w.alloc (.cells #[.int .i64 0,.int .i64 0,.complex .f64 0 0,.string ⟨#[]⟩,.int .i64 0,.int .u32 0,.int .u64 0,nilV,nilV] 31)).setCell ⟨R,2,none⟩ (.int .i64 ((s.n : Int) + 1))) R p m v bv bs { s with n := s.n + 1 }) := HA.out.store (by simp) rfl HA.out.ile (show s.n + 1 ≤ 4097 by omega)
 have HT2 := hid ((Turn.alloc (fun i => i = R) w (.cells #[.int .i64 0,.int .i64 0,.complex .f64 0 0,.string ⟨#[]⟩,.int .i64 0,.int .u32 0,.int .u64 0,nilV,nilV] 31)).trans (Turn.setCell _ R 2 (.int .i64 ((s.n : Int) + 1))))
 have hRl := H.out.lt R (.inl rfl)
 have hT0R : ¬ w.heap.size = R := by omega
 have HT0 := hid ((Below.heap_setCell (w.alloc (.cells #[.int .i64 0,.int .i64 0,.complex .f64 0 0,.string ⟨#[]⟩,.int .i64 0,.int .u32 0,.int .u64 0,nilV,nilV] 31)) ⟨R,2,none⟩ (.int .i64 ((s.n : Int) + 1)) _ hT0R).trans (heap_new w _))
 generalize (w.alloc (.cells #[.int .i64 0,.int .i64 0,.complex .f64 0 0,.string ⟨#[]⟩,.int .i64 0,.int .u32 0,.int .u64 0,nilV,nilV] 31)).setCell ⟨R,2,none⟩ (.int .i64 ((s.n : Int) + 1)) = w2 at *
 have H1 := one_any R p m v bv bs _ w2 HR2.out
 rw [HO.out] at H1
 obtain ⟨N,hN⟩ : ∃ N,w.heap.size = N := ⟨_,rfl⟩
 rw [hN] at hRl hT0R HT0 ⊢
 have HN := hid hN
 refine H1.mono ?_
 rintro e w3 ⟨rfl,hT3⟩
 go_wp2_with fail
 exact ⟨rfl,rfl,turnR (HT2.out.trans hT3)⟩
set_option maxHeartbeats 2000000 in
theorem rp_bad (R p m : Nat) (v bv : Value) (bs : List UInt8) (s s1 : St) (c : Nat) (sub : Rd Tm) (d : Int) (hd : d ≤ 24) (w : World) (h : RdAt w R p m v bv bs s) (hn : s.n + 1 ≤ 4096) (ho : oneP bs { s with n := s.n + 1 } = .ok (c,s1)) (hc : c < 256) (hb : c = 0 ∨ 8 < c) :
  Calls Try.prog 25 #[.pointer (some ⟨R,0,none⟩),.int .i64 d] w (PartPost R p m v bv bs w (kindP bs sub c s1)) := by
 have H := hid h
 have HO := hid ho
 have HA := hid (h.below ((Below.refl _ w).alloc (Nat.le_refl _) (.cells #[.int .i64 0,.int .i64 0,.complex .f64 0 0,.string ⟨#[]⟩,.int .i64 0,.int .u32 0,.int .u64 0,nilV,nilV] 31)))
 have r2 := HA.out.c2
 have rf := HA.out.fz 2
 have hn' : (s.n : Int) + 1 ≤ 4096 := by omega
 clear h ho
 go_enter Try.func25,Try.ntmps25
 go_wp2_with fail
 have HR2 : Hid (RdAt ((w.alloc (.cells #[.int .i64 0,.int .i64 0,.complex .f64 0 0,.string ⟨#[]⟩,.int .i64 0,.int .u32 0,.int .u64 0,nilV,nilV] 31)).setCell ⟨R,2,none⟩ (.int .i64 ((s.n : Int) + 1))) R p m v bv bs { s with n := s.n + 1 }) := HA.out.store (by simp) rfl HA.out.ile (show s.n + 1 ≤ 4097 by omega)
 have HT2 := hid ((Turn.alloc (fun i => i = R) w (.cells #[.int .i64 0,.int .i64 0,.complex .f64 0 0,.string ⟨#[]⟩,.int .i64 0,.int .u32 0,.int .u64 0,nilV,nilV] 31)).trans (Turn.setCell _ R 2 (.int .i64 ((s.n : Int) + 1))))
 have hRl := H.out.lt R (.inl rfl)
 have hT0R : ¬ w.heap.size = R := by omega
 have HT0 := hid ((Below.heap_setCell (w.alloc (.cells #[.int .i64 0,.int .i64 0,.complex .f64 0 0,.string ⟨#[]⟩,.int .i64 0,.int .u32 0,.int .u64 0,nilV,nilV] 31)) ⟨R,2,none⟩ (.int .i64 ((s.n : Int) + 1)) _ hT0R).trans (heap_new w _))
 generalize (w.alloc (.cells #[.int .i64 0,.int .i64 0,.complex .f64 0 0,.string ⟨#[]⟩,.int .i64 0,.int .u32 0,.int .u64 0,nilV,nilV] 31)).setCell ⟨R,2,none⟩ (.int .i64 ((s.n : Int) + 1)) = w2 at *
 have H1 := one_any R p m v bv bs _ w2 HR2.out
 rw [HO.out] at H1
 obtain ⟨N,hN⟩ : ∃ N,w.heap.size = N := ⟨_,rfl⟩
 rw [hN] at hRl hT0R HT0 ⊢
 have HN := hid hN
 refine H1.mono ?_
 rintro e w3 ⟨rfl,hR3,hT3⟩
 have HR3 := hid hR3
 have HT3 := hid (HT2.out.trans hT3)
 have HT03 := hid ((hT3.block N (blk_lt HT0.out) hT0R).trans HT0.out)
 have hNl : N < w3.heap.size := blk_lt HT03.out
 clear hR3 hT3 hN HA HR2 HT2 HT0 H1 r2 rf hn' HO
 have e0 : IntKind.i64.wrap (c : Int) = c := IntWalk.i64_in _ (by omega)
 have e1 : ((c : Int) == 1) = false := by rw [beq_eq_false_iff_ne]; omega
 have e2 : ((c : Int) == 2) = false := by rw [beq_eq_false_iff_ne]; omega
 have e3 : ((c : Int) == 3) = false := by rw [beq_eq_false_iff_ne]; omega
 have e4 : ((c : Int) == 4) = false := by rw [beq_eq_false_iff_ne]; omega
 have e5 : ((c : Int) == 5) = false := by rw [beq_eq_false_iff_ne]; omega
 have e6 : ((c : Int) == 6) = false := by rw [beq_eq_false_iff_ne]; omega
 have e7 : ((c : Int) == 7) = false := by rw [beq_eq_false_iff_ne]; omega
 have e8 : ((c : Int) == 8) = false := by rw [beq_eq_false_iff_ne]; omega
 have HR4 := hid (HR3.out.below ((Below.refl _ w3).alloc (Nat.le_refl _) (.cells #[.int .i64 (c : Int),.int .i64 0,.complex .f64 0 0,.string ⟨#[]⟩,.int .i64 0,.int .u32 0,.int .u64 0,nilV,nilV] 31)))
 have HT4 := hid (turnR (p := p) (m := m) (v := v) (HT3.out.trans (Turn.alloc (fun i => i = R) w3 (.cells #[.int .i64 (c : Int),.int .i64 0,.complex .f64 0 0,.string ⟨#[]⟩,.int .i64 0,.int .u32 0,.int .u64 0,nilV,nilV] 31))))
 have HT04 := hid ((Below.heap_alloc w3 (.cells #[.int .i64 (c : Int),.int .i64 0,.complex .f64 0 0,.string ⟨#[]⟩,.int .i64 0,.int .u32 0,.int .u64 0,nilV,nilV] 31) N hNl).trans HT03.out)
 have HT14 := hid (heap_new w3 (.cells #[.int .i64 (c : Int),.int .i64 0,.complex .f64 0 0,.string ⟨#[]⟩,.int .i64 0,.int .u32 0,.int .u64 0,nilV,nilV] 31))
 have hT1R : ¬ w3.heap.size = R := by omega
 obtain ⟨k0,k1,k2,k3,k4,k5,k6,k7,k8⟩ := NineAt.of_block HT14.out
 go_wp2_with fail
 clear k0 k1 k2 k3 k4 k5 k6 k7 k8 HR3 HT3 HT03
 generalize w3.alloc (.cells #[.int .i64 (c : Int),.int .i64 0,.complex .f64 0 0,.string ⟨#[]⟩,.int .i64 0,.int .u32 0,.int .u64 0,nilV,nilV] 31) = w4 at *
 generalize w3.heap.size = T at *
 refine (fail_any _ 73 _).mono ?_
 rintro e w5 ⟨rfl,rfl⟩
 have HK := hid (show kindP bs sub c s1 = .error 73 by
  unfold kindP
  rw [if_neg (by omega),if_neg (by omega),if_neg (by omega),if_neg (by omega),if_neg (by omega),if_neg (by omega)])
 go_wp2_with fail
 refine ⟨rfl,?_⟩
 rw [HK.out]
 exact ⟨rfl,HT4.out⟩
end Go.Proofs.Ytgadkiljnebicaa
