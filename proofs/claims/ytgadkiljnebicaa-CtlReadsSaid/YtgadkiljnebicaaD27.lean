/- Several texts in one. -/
import Derived.Test.YtgadkiljnebicaaD25
import Derived.Test.YtgadkiljnebicaaD09
namespace Go.Proofs.Ytgadkiljnebicaa
open Go.Lib (hid)
open Go.RowKit
set_option maxRecDepth 100000
set_option maxHeartbeats 2000000 in
theorem rname_bad (ba : Option Addr) (bc : Nat) (bs : List UInt8) (s s1 : St) (na : Option Addr) (nc : Nat) (w : World) (h : RfAt w ba bc bs s na nc) (hw : wideN bs s = .ok (s.names.length,s1)) (hnl : s.names.length ≤ 4096) (size : Nat) (s2 : St) (ho : oneP bs s1 = .ok (size,s2)) (hg : 1 ≤ size) (hg2 : size ≤ 32) (l : List UInt8) (s3 : St) (hso : someP bs size s2 = .ok (l,s3)) (hd : nameB ⟨l.toArray⟩ = false) :
  Calls Try.prog 53 #[stV ba bs.length bc s.i s.n na s.names.length nc 0] w (RP2 ba bs.length bc na s.names w .string (nameP bs s)) := by
 have H := hid h
 have hs1 := wide_names _ _ _ _ _ _ hw
 have HNM := hid hs1.1
 have HS1N := hid hs1.2.1
 have HW := hid hw
 have HO := hid ho
 have hsz256 := (oneP_ok ho).1
 have f1 : IntKind.i64.wrap (size : Int) = size := IntWalk.i64_in _ (by omega)
 have HI1 := hid (wideN_ile hw)
 clear h hs1 hw
 have HK := hid (show nameP bs s = .error 73 by rw [nameP_eq,HW.out]; unfold nameK; simp only; rw [if_neg (by rw [HNM.out]; omega),if_neg (by rw [HNM.out]; omega)]; rw [HO.out]; simp only; rw [if_neg (by omega),hso]; simp only; rw [show s3.names = s.names by rw [(some_st hso).1,(oneP_ok HO.out).2.1]; exact HNM.out]; simp [hd])
 have HD := hid hd
 clear hd
 have hb0 : (1 : Int) ≤ (size : Int) := by omega
 have hb1 : (size : Int) ≤ 32 := by omega
 have HSo := hid hso
 have HNM2 := hid (show s2.names = s.names by rw [(oneP_ok HO.out).2.1]; exact HNM.out)
 have HS2N := hid (show s2.n = s.n by rw [(oneP_ok HO.out).2.1]; exact HS1N.out)
 have HI2 := hid (show s2.i ≤ bs.length by rw [(oneP_ok HO.out).2.1]; exact (oneP_ok HO.out).2.2)
 clear hso
 have hll : l.length ≤ 32 := by rw [(some_st HSo.out).2.1]; exact hg2
 have HL3 := hid (some_st HSo.out).1
 have HN3 := hid (show s3.names = s.names by rw [HL3.out]; exact HNM2.out)
 have hle : ((s.names.length : Int) ≤ (s.names.length : Int)) := by omega
 have hlt : decide (s.names.length < s.names.length) = false := decide_eq_false (by omega)
 have hwl := wrap_u64_nat s.names.length (by omega)
 go_enter Try.func53,Try.ntmps53
 go_wp2_with fail
 have hXY : ¬ w.heap.size = w.heap.size + 1 := by omega
 have HX1 : Hid (((w.alloc (.cells #[.slice ba bs.length bc,.int .i64 (s.i : Int),.int .i64 (s.n : Int),.slice na s.names.length nc,.int .i64 0] 80)).alloc (.cells #[nilV,.int .i64 0,.int .i64 0,nilV,.int .i64 0] 80)).heap[w.heap.size]? = some (.cells #[.slice ba bs.length bc,.int .i64 (s.i : Int),.int .i64 (s.n : Int),.slice na s.names.length nc,.int .i64 0] 80 (0,0))) := (Below.heap_alloc _ _ _ (by simp)).trans (heap_new w _)
 have HY1 : Hid (((w.alloc (.cells #[.slice ba bs.length bc,.int .i64 (s.i : Int),.int .i64 (s.n : Int),.slice na s.names.length nc,.int .i64 0] 80)).alloc (.cells #[nilV,.int .i64 0,.int .i64 0,nilV,.int .i64 0] 80)).heap[w.heap.size + 1]? = some (.cells #[nilV,.int .i64 0,.int .i64 0,nilV,.int .i64 0] 80 (0,0))) := heap_new_at (by simp)
 have HB1 := hid (((Below.refl w.heap.size w).alloc (Nat.le_refl _) (.cells #[.slice ba bs.length bc,.int .i64 (s.i : Int),.int .i64 (s.n : Int),.slice na s.names.length nc,.int .i64 0] 80)).alloc (by simp) (.cells #[nilV,.int .i64 0,.int .i64 0,nilV,.int .i64 0] 80))
 generalize ((w.alloc (.cells #[.slice ba bs.length bc,.int .i64 (s.i : Int),.int .i64 (s.n : Int),.slice na s.names.length nc,.int .i64 0] 80)).alloc (.cells #[nilV,.int .i64 0,.int .i64 0,nilV,.int .i64 0] 80)) = w1 at *
 have HRf1 := hid (show RfAt w1 ba bc bs s na nc from ⟨H.out.src.below HB1.out,H.out.nms.below HB1.out,H.out.len,H.out.ile,H.out.nle⟩)
 have H1 := rwide_any ba bc bs s na nc w1 HRf1.out
 rw [HW.out] at H1
 refine H1.mono ?_
 rintro e w2 ⟨rfl,hb⟩
 clear H1 HRf1
 have HX2 := hid ((hb.block _ (blk_lt HX1.out)).trans HX1.out)
 have HY2 := hid ((hb.block _ (blk_lt HY1.out)).trans HY1.out)
 have HB2 := hid (HB1.out.trans (hb.mono HB1.out.size))
 clear hb HB1 HX1 HY1
 obtain ⟨k0,k1,k2,k3,k4⟩ := FiveAt.of_block HX2.out
 have kf := blk_fz HX2.out
 go_upto_region 2 with fail
 clear k0 k1 k2 k3 k4 kf
 have HX3 := hid (five_set HX2.out (d0 := .slice ba bs.length bc) (d1 := .int .i64 (s1.i : Int)) (d2 := .int .i64 (s1.n : Int)) (d3 := .slice na s.names.length nc) (d4 := .int .i64 0))
 have hTs := five_turn w2 (w.heap.size) (.slice ba bs.length bc) (.int .i64 (s1.i : Int)) (.int .i64 (s1.n : Int)) (.slice na s.names.length nc) (.int .i64 0)
 have HY3 := hid ((hTs.block (w.heap.size + 1) (blk_lt HY2.out) (by omega)).trans HY2.out)
 have HB3 := hid (HB2.out.trans (hTs.below HB2.out.size (fun i e => by omega)))
 clear hTs HB2 HX2 HY2
 simp only [set5] at HX3 HY3 HB3
 generalize ((((w2.setCell ⟨w.heap.size,0,none⟩ (.slice ba bs.length bc)).setCell ⟨w.heap.size,1,none⟩ (.int .i64 (s1.i : Int))).setCell ⟨w.heap.size,2,none⟩ (.int .i64 (s1.n : Int))).setCell ⟨w.heap.size,3,none⟩ (.slice na s.names.length nc)).setCell ⟨w.heap.size,4,none⟩ (.int .i64 0) = w3 at *
 obtain ⟨k0,k1,k2,k3,k4⟩ := FiveAt.of_block HX3.out
 go_wp2_with fail
 refine (rmust_any _ _ _ _ _ _ _ _ 0 true _).mono ?_
 rintro e w4 ⟨rfl,hb⟩
 clear k0 k1 k2 k3 k4
 have HX4 := hid ((hb.block _ (blk_lt HX3.out)).trans HX3.out)
 have HY4 := hid ((hb.block _ (blk_lt HY3.out)).trans HY3.out)
 have HB4 := hid (HB3.out.trans (hb.mono HB3.out.size))
 clear hb HB3 HX3 HY3
 go_upto_region 3 with (refine wpList_store_row rfl 80 (.tmp 1) (.tmp 20) rfl (w.heap.size) #[.slice ba bs.length bc,.int .i64 (s1.i : Int),.int .i64 (s1.n : Int),.slice na s.names.length nc,.int .i64 0] rfl rfl 80 #[.slice ba bs.length bc,.int .i64 (s1.i : Int),.int .i64 (s1.n : Int),.slice na s.names.length nc,.int .i64 0] HX4.out infoS rfl (by simp [Array.all,Value.oneCell']) ?_)
 have HX5 := hid (setRow_heap w4 (w.heap.size) #[.slice ba bs.length bc,.int .i64 (s1.i : Int),.int .i64 (s1.n : Int),.slice na s.names.length nc,.int .i64 0] #[.slice ba bs.length bc,.int .i64 (s1.i : Int),.int .i64 (s1.n : Int),.slice na s.names.length nc,.int .i64 0] 80 (0,0) HX4.out)
 have HY5 := hid ((setRow_other w4 (w.heap.size) (w.heap.size + 1) #[.slice ba bs.length bc,.int .i64 (s1.i : Int),.int .i64 (s1.n : Int),.slice na s.names.length nc,.int .i64 0] (by omega)).trans HY4.out)
 have HB5 := hid (HB4.out.trans ((setRow_turn w4 (w.heap.size) #[.slice ba bs.length bc,.int .i64 (s1.i : Int),.int .i64 (s1.n : Int),.slice na s.names.length nc,.int .i64 0]).below HB4.out.size (fun i e => by omega)))
 clear HB4 HX4 HY4
 generalize w4.setRow (w.heap.size) #[.slice ba bs.length bc,.int .i64 (s1.i : Int),.int .i64 (s1.n : Int),.slice na s.names.length nc,.int .i64 0] = w5 at *
 obtain ⟨k0,k1,k2,k3,k4⟩ := FiveAt.of_block HX5.out
 have HRf5 := hid (show RfAt w5 ba bc bs s1 na nc from ⟨H.out.src.below HB5.out,by rw [HNM.out]; exact H.out.nms.below HB5.out,H.out.len,HI1.out,by rw [HS1N.out]; exact H.out.nle⟩)
 have H1 := rone_any ba bc bs s1 na nc w5 HRf5.out
 rw [HNM.out] at H1
 clear HRf5
 rw [HO.out] at H1
 have H1 := hid H1
 clear ho
 go_wp2_with fail
 refine H1.out.mono ?_
 rintro e w6 ⟨rfl,hb⟩
 clear k0 k1 k2 k3 k4
 have HX6 := hid ((hb.block _ (blk_lt HX5.out)).trans HX5.out)
 have HY6 := hid ((hb.block _ (blk_lt HY5.out)).trans HY5.out)
 have HB6 := hid (HB5.out.trans (hb.mono HB5.out.size))
 clear hb HB5 HX5 HY5
 obtain ⟨k0,k1,k2,k3,k4⟩ := FiveAt.of_block HX6.out
 have kf := blk_fz HX6.out
 go_upto_region 8 with fail
 clear k0 k1 k2 k3 k4 kf
 have HX7 := hid (five_set HX6.out (d0 := .slice ba bs.length bc) (d1 := .int .i64 (s2.i : Int)) (d2 := .int .i64 (s2.n : Int)) (d3 := .slice na s.names.length nc) (d4 := .int .i64 0))
 have hTs := five_turn w6 (w.heap.size) (.slice ba bs.length bc) (.int .i64 (s2.i : Int)) (.int .i64 (s2.n : Int)) (.slice na s.names.length nc) (.int .i64 0)
 have HY7 := hid ((hTs.block (w.heap.size + 1) (blk_lt HY6.out) (by omega)).trans HY6.out)
 have HB7 := hid (HB6.out.trans (hTs.below HB6.out.size (fun i e => by omega)))
 clear hTs HB6 HX6 HY6
 simp only [set5] at HX7 HY7 HB7
 generalize ((((w6.setCell ⟨w.heap.size,0,none⟩ (.slice ba bs.length bc)).setCell ⟨w.heap.size,1,none⟩ (.int .i64 (s2.i : Int))).setCell ⟨w.heap.size,2,none⟩ (.int .i64 (s2.n : Int))).setCell ⟨w.heap.size,3,none⟩ (.slice na s.names.length nc)).setCell ⟨w.heap.size,4,none⟩ (.int .i64 0) = w7 at *
 obtain ⟨k0,k1,k2,k3,k4⟩ := FiveAt.of_block HX7.out
 go_wp2_with fail
 refine (rmust_any _ _ _ _ _ _ _ _ 0 true _).mono ?_
 rintro e w8 ⟨rfl,hb⟩
 clear k0 k1 k2 k3 k4
 have HX8 := hid ((hb.block _ (blk_lt HX7.out)).trans HX7.out)
 have HY8 := hid ((hb.block _ (blk_lt HY7.out)).trans HY7.out)
 have HB8 := hid (HB7.out.trans (hb.mono HB7.out.size))
 clear hb HB7 HX7 HY7
 go_upto_region 9 with (refine wpList_store_row rfl 80 (.tmp 1) (.tmp 49) rfl (w.heap.size) #[.slice ba bs.length bc,.int .i64 (s2.i : Int),.int .i64 (s2.n : Int),.slice na s.names.length nc,.int .i64 0] rfl rfl 80 #[.slice ba bs.length bc,.int .i64 (s2.i : Int),.int .i64 (s2.n : Int),.slice na s.names.length nc,.int .i64 0] HX8.out infoS rfl (by simp [Array.all,Value.oneCell']) ?_)
 have HX9 := hid (setRow_heap w8 (w.heap.size) #[.slice ba bs.length bc,.int .i64 (s2.i : Int),.int .i64 (s2.n : Int),.slice na s.names.length nc,.int .i64 0] #[.slice ba bs.length bc,.int .i64 (s2.i : Int),.int .i64 (s2.n : Int),.slice na s.names.length nc,.int .i64 0] 80 (0,0) HX8.out)
 have HY9 := hid ((setRow_other w8 (w.heap.size) (w.heap.size + 1) #[.slice ba bs.length bc,.int .i64 (s2.i : Int),.int .i64 (s2.n : Int),.slice na s.names.length nc,.int .i64 0] (by omega)).trans HY8.out)
 have HB9 := hid (HB8.out.trans ((setRow_turn w8 (w.heap.size) #[.slice ba bs.length bc,.int .i64 (s2.i : Int),.int .i64 (s2.n : Int),.slice na s.names.length nc,.int .i64 0]).below HB8.out.size (fun i e => by omega)))
 clear HB8 HX8 HY8
 generalize w8.setRow (w.heap.size) #[.slice ba bs.length bc,.int .i64 (s2.i : Int),.int .i64 (s2.n : Int),.slice na s.names.length nc,.int .i64 0] = w9 at *
 obtain ⟨k0,k1,k2,k3,k4⟩ := FiveAt.of_block HX9.out
 have HRf9 := hid (show RfAt w9 ba bc bs s2 na nc from ⟨H.out.src.below HB9.out,by rw [HNM2.out]; exact H.out.nms.below HB9.out,H.out.len,HI2.out,by rw [HS2N.out]; exact H.out.nle⟩)
 have H2 := rsome_any ba bc bs s2 na nc size (by omega) w9 HRf9.out
 rw [HNM2.out,HSo.out] at H2
 have H2 := hid H2
 clear HRf9
 go_wp2_with fail
 refine H2.out.mono ?_
 rintro e w10 ⟨a',c',rfl,ho10,hnil,hb⟩
 have HSl0 := hid (Sl.of_owns ho10 (by simp; omega))
 have HOb := hid (show ∀ b,(Value.slice a' l.length c').ownBlock = some b → w.heap.size + 1 < b from fun b e => by have h1 := (ho10.lt b e).1; have h2 := blk_lt HY9.out; omega)
 clear k0 k1 k2 k3 k4 ho10 hnil
 have HX10 := hid ((hb.block _ (blk_lt HX9.out)).trans HX9.out)
 have HY10 := hid ((hb.block _ (blk_lt HY9.out)).trans HY9.out)
 have HB10 := hid (HB9.out.trans (hb.mono HB9.out.size))
 clear hb HB9 HX9 HY9
 obtain ⟨k0,k1,k2,k3,k4⟩ := FiveAt.of_block HX10.out
 have kf := blk_fz HX10.out
 go_upto_region 10 with fail
 clear k0 k1 k2 k3 k4 kf
 have HX11 := hid (five_set HX10.out (d0 := .slice ba bs.length bc) (d1 := .int .i64 (s3.i : Int)) (d2 := .int .i64 (s3.n : Int)) (d3 := .slice na s.names.length nc) (d4 := .int .i64 0))
 have hTs := five_turn w10 (w.heap.size) (.slice ba bs.length bc) (.int .i64 (s3.i : Int)) (.int .i64 (s3.n : Int)) (.slice na s.names.length nc) (.int .i64 0)
 have HSl := hid (HSl0.out.same fun b e hb => hTs.block b hb (by have := HOb.out b e; omega))
 have HY11 := hid ((hTs.block (w.heap.size + 1) (blk_lt HY10.out) (by omega)).trans HY10.out)
 have HB11 := hid (HB10.out.trans (hTs.below HB10.out.size (fun i e => by omega)))
 clear hTs HB10 HX10 HY10
 simp only [set5] at HX11 HY11 HB11 HSl
 generalize ((((w10.setCell ⟨w.heap.size,0,none⟩ (.slice ba bs.length bc)).setCell ⟨w.heap.size,1,none⟩ (.int .i64 (s3.i : Int))).setCell ⟨w.heap.size,2,none⟩ (.int .i64 (s3.n : Int))).setCell ⟨w.heap.size,3,none⟩ (.slice na s.names.length nc)).setCell ⟨w.heap.size,4,none⟩ (.int .i64 0) = w11 at *
 have hsz : (⟨l.toArray⟩ : ByteArray).size ≤ maxLen := by show l.toArray.size ≤ maxLen; unfold maxLen; simp; omega
 have hcv := conv_any w11 Try.underlying22 Try.underlying5 Try.underlying9 HSl.out
 have HNs := hid (H.out.nms.below HB11.out)
 have HName := hid (show Calls Try.prog 80 #[.string ⟨l.toArray⟩] w11.drew (fun e w' => e = .returned (.bool false) ∧ w' = w11.drew) from HD.out ▸ name_rw _ _ hsz)
 go_upto_region 11 with fail
 obtain ⟨k0,k1,k2,k3,k4⟩ := FiveAt.of_block HX11.out
 refine wp_region_still_tail 13 (by kernel_rfl) (by kernel_rfl) ?_
 simp only [List.take_succ_cons,List.take_zero,List.drop_succ_cons,List.drop_zero]
 with_reducible refine wpStill_step (fun K hK => ?_)
 go_simp
 with_reducible refine hK _ ?_
 clear hK K
 with_reducible refine wpStill_step (fun K hK => ?_)
 go_simp
 with_reducible refine hK _ ?_
 clear hK K
 with_reducible refine wpStill_step (fun K hK => ?_)
 go_simp
 refine ⟨_,HName.out,?_⟩
 with_reducible refine hK _ ?_
 clear hK K
 with_reducible refine wpStill_step (fun K hK => ?_)
 go_simp
 with_reducible refine hK _ ?_
 clear hK K
 with_reducible refine wpStill_step (fun K hK => ?_)
 go_simp
 with_reducible refine hK _ ?_
 clear hK K
 with_reducible refine wpStill_step (fun K hK => ?_)
 go_simp
 with_reducible refine hK _ ?_
 clear hK K
 with_reducible refine wpStill_step (fun K hK => ?_)
 go_simp
 with_reducible refine hK _ ?_
 clear hK K
 with_reducible refine wpStill_step (fun K hK => ?_)
 go_simp
 with_reducible refine hK _ ?_
 clear hK K
 with_reducible refine wpStill_step (fun K hK => ?_)
 go_simp
 with_reducible refine hK _ ?_
 clear hK K
 with_reducible refine wpStill_step (fun K hK => ?_)
 go_simp
 with_reducible refine hK _ ?_
 clear hK K
 with_reducible refine wpStill_step (fun K hK => ?_)
 go_simp
 with_reducible refine hK _ ?_
 clear hK K
 with_reducible refine wpStill_step (fun K hK => ?_)
 go_simp
 with_reducible refine hK _ ?_
 clear hK K
 with_reducible refine wpStill_step (fun K hK => ?_)
 go_simp
 with_reducible refine hK _ ?_
 clear hK K
 with_reducible refine wpStill_nil ?_
 change wpList _ _ _ _ _ w11.drew
 have HX12 : Hid (w11.drew.heap[w.heap.size]? = _) := HX11.out
 have HY12 : Hid (w11.drew.heap[w.heap.size + 1]? = _) := HY11.out
 have HB12 : Hid (Below w.heap.size w w11.drew) := HB11.out.drew
 clear k0 k1 k2 k3 k4 HX11 HY11 HB11 HName hcv
 generalize w11.drew = w12 at *
 go_wp2_with fail
 refine (rmust_any _ _ _ _ _ _ _ _ 0 false _).mono ?_
 rintro e w13 ⟨rfl,hb⟩
 have HX13 := hid ((hb.block _ (blk_lt HX12.out)).trans HX12.out)
 have HY13 := hid ((hb.block _ (blk_lt HY12.out)).trans HY12.out)
 have HB13 := hid (HB12.out.trans (hb.mono HB12.out.size))
 clear hb HB12 HX12 HY12
 go_upto_region 12 with (refine wpList_store_row rfl 80 (.tmp 1) (.tmp 72) rfl (w.heap.size) #[.slice ba bs.length bc,.int .i64 (s3.i : Int),.int .i64 (s3.n : Int),.slice na s.names.length nc,.int .i64 73] rfl rfl 80 #[.slice ba bs.length bc,.int .i64 (s3.i : Int),.int .i64 (s3.n : Int),.slice na s.names.length nc,.int .i64 0] HX13.out infoS rfl (by simp [Array.all,Value.oneCell']) ?_)
 have HX14 := hid (setRow_heap w13 (w.heap.size) #[.slice ba bs.length bc,.int .i64 (s3.i : Int),.int .i64 (s3.n : Int),.slice na s.names.length nc,.int .i64 0] #[.slice ba bs.length bc,.int .i64 (s3.i : Int),.int .i64 (s3.n : Int),.slice na s.names.length nc,.int .i64 73] 80 (0,0) HX13.out)
 have HY14 := hid ((setRow_other w13 (w.heap.size) (w.heap.size + 1) #[.slice ba bs.length bc,.int .i64 (s3.i : Int),.int .i64 (s3.n : Int),.slice na s.names.length nc,.int .i64 73] (by omega)).trans HY13.out)
 have HB14 := hid (HB13.out.trans ((setRow_turn w13 (w.heap.size) #[.slice ba bs.length bc,.int .i64 (s3.i : Int),.int .i64 (s3.n : Int),.slice na s.names.length nc,.int .i64 73]).below HB13.out.size (fun i e => by omega)))
 clear HB13 HX13 HY13
 generalize w13.setRow (w.heap.size) #[.slice ba bs.length bc,.int .i64 (s3.i : Int),.int .i64 (s3.n : Int),.slice na s.names.length nc,.int .i64 73] = w14 at *
 obtain ⟨k0,k1,k2,k3,k4⟩ := FiveAt.of_block HX14.out
 go_wp2_with (refine wpList_store_row rfl 80 (.tmp 2) (.tmp 84) rfl (w.heap.size + 1) #[.slice ba bs.length bc,.int .i64 (s3.i : Int),.int .i64 (s3.n : Int),.slice na s.names.length nc,.int .i64 73] rfl rfl 80 #[nilV,.int .i64 0,.int .i64 0,nilV,.int .i64 0] HY14.out infoS rfl (by simp [Array.all,Value.oneCell']) ?_)
 have HY15 := hid (setRow_heap w14 (w.heap.size + 1) #[nilV,.int .i64 0,.int .i64 0,nilV,.int .i64 0] #[.slice ba bs.length bc,.int .i64 (s3.i : Int),.int .i64 (s3.n : Int),.slice na s.names.length nc,.int .i64 73] 80 (0,0) HY14.out)
 have HX15 := hid ((setRow_other w14 (w.heap.size + 1) (w.heap.size) #[.slice ba bs.length bc,.int .i64 (s3.i : Int),.int .i64 (s3.n : Int),.slice na s.names.length nc,.int .i64 73] (by omega)).trans HX14.out)
 have HB15 := hid (HB14.out.trans ((setRow_turn w14 (w.heap.size + 1) #[.slice ba bs.length bc,.int .i64 (s3.i : Int),.int .i64 (s3.n : Int),.slice na s.names.length nc,.int .i64 73]).below HB14.out.size (fun i e => by omega)))
 clear HB14 HY14 HX14
 generalize w14.setRow (w.heap.size + 1) #[.slice ba bs.length bc,.int .i64 (s3.i : Int),.int .i64 (s3.n : Int),.slice na s.names.length nc,.int .i64 73] = w15 at *
 clear k0 k1 k2 k3 k4
 go_wp2_with fail
 obtain ⟨k0,k1,k2,k3,k4⟩ := FiveAt.of_block HY15.out
 exact bodyPost_ret (v := .tuple #[.agg #[.slice ba bs.length bc,.int .i64 (s3.i : Int),.int .i64 (s3.n : Int),.slice na s.names.length nc,.int .i64 73],.string ⟨l.toArray⟩]) (by simp [results,Try.results53,go_sem,k0,k1,k2,k3,k4]) rfl (by rw [HK.out]; exact ⟨_,_,_,_,_,_,rfl,HB15.out⟩)
set_option maxHeartbeats 2000000 in
theorem rname_twice (ba : Option Addr) (bc : Nat) (bs : List UInt8) (s s1 : St) (na : Option Addr) (nc : Nat) (w : World) (h : RfAt w ba bc bs s na nc) (hw : wideN bs s = .ok (s.names.length,s1)) (hnl : s.names.length ≤ 4096) (size : Nat) (s2 : St) (ho : oneP bs s1 = .ok (size,s2)) (hg : 1 ≤ size) (hg2 : size ≤ 32) (l : List UInt8) (s3 : St) (hso : someP bs size s2 = .ok (l,s3)) (hd : nameB ⟨l.toArray⟩ = true) (q : Nat) (hp : pos s.names ⟨l.toArray⟩ = some q) :
  Calls Try.prog 53 #[stV ba bs.length bc s.i s.n na s.names.length nc 0] w (RP2 ba bs.length bc na s.names w .string (nameP bs s)) := by
 have H := hid h
 have hs1 := wide_names _ _ _ _ _ _ hw
 have HNM := hid hs1.1
 have HS1N := hid hs1.2.1
 have HW := hid hw
 have HO := hid ho
 have hsz256 := (oneP_ok ho).1
 have f1 : IntKind.i64.wrap (size : Int) = size := IntWalk.i64_in _ (by omega)
 have HI1 := hid (wideN_ile hw)
 clear h hs1 hw
 have HK := hid (show nameP bs s = .error 73 by rw [nameP_eq,HW.out]; unfold nameK; simp only; rw [if_neg (by rw [HNM.out]; omega),if_neg (by rw [HNM.out]; omega)]; rw [HO.out]; simp only; rw [if_neg (by omega),hso]; simp only; rw [show s3.names = s.names by rw [(some_st hso).1,(oneP_ok HO.out).2.1]; exact HNM.out]; simp [hp])
 have HD := hid hd
 have hql := (pos_lt hp).1
 have hq1 : ((q : Int) == (s.names.length : Int)) = false := beq_eq_false_iff_ne.2 (by omega)
 have hq2 : (q == s.names.length) = false := beq_eq_false_iff_ne.2 (by omega)
 have hq3 : decide (q = s.names.length) = false := decide_eq_false (by omega)
 have HP := hid hp
 clear hd hp
 have hb0 : (1 : Int) ≤ (size : Int) := by omega
 have hb1 : (size : Int) ≤ 32 := by omega
 have HSo := hid hso
 have HNM2 := hid (show s2.names = s.names by rw [(oneP_ok HO.out).2.1]; exact HNM.out)
 have HS2N := hid (show s2.n = s.n by rw [(oneP_ok HO.out).2.1]; exact HS1N.out)
 have HI2 := hid (show s2.i ≤ bs.length by rw [(oneP_ok HO.out).2.1]; exact (oneP_ok HO.out).2.2)
 clear hso
 have hll : l.length ≤ 32 := by rw [(some_st HSo.out).2.1]; exact hg2
 have HL3 := hid (some_st HSo.out).1
 have HN3 := hid (show s3.names = s.names by rw [HL3.out]; exact HNM2.out)
 have hle : ((s.names.length : Int) ≤ (s.names.length : Int)) := by omega
 have hlt : decide (s.names.length < s.names.length) = false := decide_eq_false (by omega)
 have hwl := wrap_u64_nat s.names.length (by omega)
 go_enter Try.func53,Try.ntmps53
 go_wp2_with fail
 have hXY : ¬ w.heap.size = w.heap.size + 1 := by omega
 have HX1 : Hid (((w.alloc (.cells #[.slice ba bs.length bc,.int .i64 (s.i : Int),.int .i64 (s.n : Int),.slice na s.names.length nc,.int .i64 0] 80)).alloc (.cells #[nilV,.int .i64 0,.int .i64 0,nilV,.int .i64 0] 80)).heap[w.heap.size]? = some (.cells #[.slice ba bs.length bc,.int .i64 (s.i : Int),.int .i64 (s.n : Int),.slice na s.names.length nc,.int .i64 0] 80 (0,0))) := (Below.heap_alloc _ _ _ (by simp)).trans (heap_new w _)
 have HY1 : Hid (((w.alloc (.cells #[.slice ba bs.length bc,.int .i64 (s.i : Int),.int .i64 (s.n : Int),.slice na s.names.length nc,.int .i64 0] 80)).alloc (.cells #[nilV,.int .i64 0,.int .i64 0,nilV,.int .i64 0] 80)).heap[w.heap.size + 1]? = some (.cells #[nilV,.int .i64 0,.int .i64 0,nilV,.int .i64 0] 80 (0,0))) := heap_new_at (by simp)
 have HB1 := hid (((Below.refl w.heap.size w).alloc (Nat.le_refl _) (.cells #[.slice ba bs.length bc,.int .i64 (s.i : Int),.int .i64 (s.n : Int),.slice na s.names.length nc,.int .i64 0] 80)).alloc (by simp) (.cells #[nilV,.int .i64 0,.int .i64 0,nilV,.int .i64 0] 80))
 generalize ((w.alloc (.cells #[.slice ba bs.length bc,.int .i64 (s.i : Int),.int .i64 (s.n : Int),.slice na s.names.length nc,.int .i64 0] 80)).alloc (.cells #[nilV,.int .i64 0,.int .i64 0,nilV,.int .i64 0] 80)) = w1 at *
 have HRf1 := hid (show RfAt w1 ba bc bs s na nc from ⟨H.out.src.below HB1.out,H.out.nms.below HB1.out,H.out.len,H.out.ile,H.out.nle⟩)
 have H1 := rwide_any ba bc bs s na nc w1 HRf1.out
 rw [HW.out] at H1
 refine H1.mono ?_
 rintro e w2 ⟨rfl,hb⟩
 clear H1 HRf1
 have HX2 := hid ((hb.block _ (blk_lt HX1.out)).trans HX1.out)
 have HY2 := hid ((hb.block _ (blk_lt HY1.out)).trans HY1.out)
 have HB2 := hid (HB1.out.trans (hb.mono HB1.out.size))
 clear hb HB1 HX1 HY1
 obtain ⟨k0,k1,k2,k3,k4⟩ := FiveAt.of_block HX2.out
 have kf := blk_fz HX2.out
 go_upto_region 2 with fail
 clear k0 k1 k2 k3 k4 kf
 have HX3 := hid (five_set HX2.out (d0 := .slice ba bs.length bc) (d1 := .int .i64 (s1.i : Int)) (d2 := .int .i64 (s1.n : Int)) (d3 := .slice na s.names.length nc) (d4 := .int .i64 0))
 have hTs := five_turn w2 (w.heap.size) (.slice ba bs.length bc) (.int .i64 (s1.i : Int)) (.int .i64 (s1.n : Int)) (.slice na s.names.length nc) (.int .i64 0)
 have HY3 := hid ((hTs.block (w.heap.size + 1) (blk_lt HY2.out) (by omega)).trans HY2.out)
 have HB3 := hid (HB2.out.trans (hTs.below HB2.out.size (fun i e => by omega)))
 clear hTs HB2 HX2 HY2
 simp only [set5] at HX3 HY3 HB3
 generalize ((((w2.setCell ⟨w.heap.size,0,none⟩ (.slice ba bs.length bc)).setCell ⟨w.heap.size,1,none⟩ (.int .i64 (s1.i : Int))).setCell ⟨w.heap.size,2,none⟩ (.int .i64 (s1.n : Int))).setCell ⟨w.heap.size,3,none⟩ (.slice na s.names.length nc)).setCell ⟨w.heap.size,4,none⟩ (.int .i64 0) = w3 at *
 obtain ⟨k0,k1,k2,k3,k4⟩ := FiveAt.of_block HX3.out
 go_wp2_with fail
 refine (rmust_any _ _ _ _ _ _ _ _ 0 true _).mono ?_
 rintro e w4 ⟨rfl,hb⟩
 clear k0 k1 k2 k3 k4
 have HX4 := hid ((hb.block _ (blk_lt HX3.out)).trans HX3.out)
 have HY4 := hid ((hb.block _ (blk_lt HY3.out)).trans HY3.out)
 have HB4 := hid (HB3.out.trans (hb.mono HB3.out.size))
 clear hb HB3 HX3 HY3
 go_upto_region 3 with (refine wpList_store_row rfl 80 (.tmp 1) (.tmp 20) rfl (w.heap.size) #[.slice ba bs.length bc,.int .i64 (s1.i : Int),.int .i64 (s1.n : Int),.slice na s.names.length nc,.int .i64 0] rfl rfl 80 #[.slice ba bs.length bc,.int .i64 (s1.i : Int),.int .i64 (s1.n : Int),.slice na s.names.length nc,.int .i64 0] HX4.out infoS rfl (by simp [Array.all,Value.oneCell']) ?_)
 have HX5 := hid (setRow_heap w4 (w.heap.size) #[.slice ba bs.length bc,.int .i64 (s1.i : Int),.int .i64 (s1.n : Int),.slice na s.names.length nc,.int .i64 0] #[.slice ba bs.length bc,.int .i64 (s1.i : Int),.int .i64 (s1.n : Int),.slice na s.names.length nc,.int .i64 0] 80 (0,0) HX4.out)
 have HY5 := hid ((setRow_other w4 (w.heap.size) (w.heap.size + 1) #[.slice ba bs.length bc,.int .i64 (s1.i : Int),.int .i64 (s1.n : Int),.slice na s.names.length nc,.int .i64 0] (by omega)).trans HY4.out)
 have HB5 := hid (HB4.out.trans ((setRow_turn w4 (w.heap.size) #[.slice ba bs.length bc,.int .i64 (s1.i : Int),.int .i64 (s1.n : Int),.slice na s.names.length nc,.int .i64 0]).below HB4.out.size (fun i e => by omega)))
 clear HB4 HX4 HY4
 generalize w4.setRow (w.heap.size) #[.slice ba bs.length bc,.int .i64 (s1.i : Int),.int .i64 (s1.n : Int),.slice na s.names.length nc,.int .i64 0] = w5 at *
 obtain ⟨k0,k1,k2,k3,k4⟩ := FiveAt.of_block HX5.out
 have HRf5 := hid (show RfAt w5 ba bc bs s1 na nc from ⟨H.out.src.below HB5.out,by rw [HNM.out]; exact H.out.nms.below HB5.out,H.out.len,HI1.out,by rw [HS1N.out]; exact H.out.nle⟩)
 have H1 := rone_any ba bc bs s1 na nc w5 HRf5.out
 rw [HNM.out] at H1
 clear HRf5
 rw [HO.out] at H1
 have H1 := hid H1
 clear ho
 go_wp2_with fail
 refine H1.out.mono ?_
 rintro e w6 ⟨rfl,hb⟩
 clear k0 k1 k2 k3 k4
 have HX6 := hid ((hb.block _ (blk_lt HX5.out)).trans HX5.out)
 have HY6 := hid ((hb.block _ (blk_lt HY5.out)).trans HY5.out)
 have HB6 := hid (HB5.out.trans (hb.mono HB5.out.size))
 clear hb HB5 HX5 HY5
 obtain ⟨k0,k1,k2,k3,k4⟩ := FiveAt.of_block HX6.out
 have kf := blk_fz HX6.out
 go_upto_region 8 with fail
 clear k0 k1 k2 k3 k4 kf
 have HX7 := hid (five_set HX6.out (d0 := .slice ba bs.length bc) (d1 := .int .i64 (s2.i : Int)) (d2 := .int .i64 (s2.n : Int)) (d3 := .slice na s.names.length nc) (d4 := .int .i64 0))
 have hTs := five_turn w6 (w.heap.size) (.slice ba bs.length bc) (.int .i64 (s2.i : Int)) (.int .i64 (s2.n : Int)) (.slice na s.names.length nc) (.int .i64 0)
 have HY7 := hid ((hTs.block (w.heap.size + 1) (blk_lt HY6.out) (by omega)).trans HY6.out)
 have HB7 := hid (HB6.out.trans (hTs.below HB6.out.size (fun i e => by omega)))
 clear hTs HB6 HX6 HY6
 simp only [set5] at HX7 HY7 HB7
 generalize ((((w6.setCell ⟨w.heap.size,0,none⟩ (.slice ba bs.length bc)).setCell ⟨w.heap.size,1,none⟩ (.int .i64 (s2.i : Int))).setCell ⟨w.heap.size,2,none⟩ (.int .i64 (s2.n : Int))).setCell ⟨w.heap.size,3,none⟩ (.slice na s.names.length nc)).setCell ⟨w.heap.size,4,none⟩ (.int .i64 0) = w7 at *
 obtain ⟨k0,k1,k2,k3,k4⟩ := FiveAt.of_block HX7.out
 go_wp2_with fail
 refine (rmust_any _ _ _ _ _ _ _ _ 0 true _).mono ?_
 rintro e w8 ⟨rfl,hb⟩
 clear k0 k1 k2 k3 k4
 have HX8 := hid ((hb.block _ (blk_lt HX7.out)).trans HX7.out)
 have HY8 := hid ((hb.block _ (blk_lt HY7.out)).trans HY7.out)
 have HB8 := hid (HB7.out.trans (hb.mono HB7.out.size))
 clear hb HB7 HX7 HY7
 go_upto_region 9 with (refine wpList_store_row rfl 80 (.tmp 1) (.tmp 49) rfl (w.heap.size) #[.slice ba bs.length bc,.int .i64 (s2.i : Int),.int .i64 (s2.n : Int),.slice na s.names.length nc,.int .i64 0] rfl rfl 80 #[.slice ba bs.length bc,.int .i64 (s2.i : Int),.int .i64 (s2.n : Int),.slice na s.names.length nc,.int .i64 0] HX8.out infoS rfl (by simp [Array.all,Value.oneCell']) ?_)
 have HX9 := hid (setRow_heap w8 (w.heap.size) #[.slice ba bs.length bc,.int .i64 (s2.i : Int),.int .i64 (s2.n : Int),.slice na s.names.length nc,.int .i64 0] #[.slice ba bs.length bc,.int .i64 (s2.i : Int),.int .i64 (s2.n : Int),.slice na s.names.length nc,.int .i64 0] 80 (0,0) HX8.out)
 have HY9 := hid ((setRow_other w8 (w.heap.size) (w.heap.size + 1) #[.slice ba bs.length bc,.int .i64 (s2.i : Int),.int .i64 (s2.n : Int),.slice na s.names.length nc,.int .i64 0] (by omega)).trans HY8.out)
 have HB9 := hid (HB8.out.trans ((setRow_turn w8 (w.heap.size) #[.slice ba bs.length bc,.int .i64 (s2.i : Int),.int .i64 (s2.n : Int),.slice na s.names.length nc,.int .i64 0]).below HB8.out.size (fun i e => by omega)))
 clear HB8 HX8 HY8
 generalize w8.setRow (w.heap.size) #[.slice ba bs.length bc,.int .i64 (s2.i : Int),.int .i64 (s2.n : Int),.slice na s.names.length nc,.int .i64 0] = w9 at *
 obtain ⟨k0,k1,k2,k3,k4⟩ := FiveAt.of_block HX9.out
 have HRf9 := hid (show RfAt w9 ba bc bs s2 na nc from ⟨H.out.src.below HB9.out,by rw [HNM2.out]; exact H.out.nms.below HB9.out,H.out.len,HI2.out,by rw [HS2N.out]; exact H.out.nle⟩)
 have H2 := rsome_any ba bc bs s2 na nc size (by omega) w9 HRf9.out
 rw [HNM2.out,HSo.out] at H2
 have H2 := hid H2
 clear HRf9
 go_wp2_with fail
 refine H2.out.mono ?_
 rintro e w10 ⟨a',c',rfl,ho10,hnil,hb⟩
 have HSl0 := hid (Sl.of_owns ho10 (by simp; omega))
 have HOb := hid (show ∀ b,(Value.slice a' l.length c').ownBlock = some b → w.heap.size + 1 < b from fun b e => by have h1 := (ho10.lt b e).1; have h2 := blk_lt HY9.out; omega)
 clear k0 k1 k2 k3 k4 ho10 hnil
 have HX10 := hid ((hb.block _ (blk_lt HX9.out)).trans HX9.out)
 have HY10 := hid ((hb.block _ (blk_lt HY9.out)).trans HY9.out)
 have HB10 := hid (HB9.out.trans (hb.mono HB9.out.size))
 clear hb HB9 HX9 HY9
 obtain ⟨k0,k1,k2,k3,k4⟩ := FiveAt.of_block HX10.out
 have kf := blk_fz HX10.out
 go_upto_region 10 with fail
 clear k0 k1 k2 k3 k4 kf
 have HX11 := hid (five_set HX10.out (d0 := .slice ba bs.length bc) (d1 := .int .i64 (s3.i : Int)) (d2 := .int .i64 (s3.n : Int)) (d3 := .slice na s.names.length nc) (d4 := .int .i64 0))
 have hTs := five_turn w10 (w.heap.size) (.slice ba bs.length bc) (.int .i64 (s3.i : Int)) (.int .i64 (s3.n : Int)) (.slice na s.names.length nc) (.int .i64 0)
 have HSl := hid (HSl0.out.same fun b e hb => hTs.block b hb (by have := HOb.out b e; omega))
 have HY11 := hid ((hTs.block (w.heap.size + 1) (blk_lt HY10.out) (by omega)).trans HY10.out)
 have HB11 := hid (HB10.out.trans (hTs.below HB10.out.size (fun i e => by omega)))
 clear hTs HB10 HX10 HY10
 simp only [set5] at HX11 HY11 HB11 HSl
 generalize ((((w10.setCell ⟨w.heap.size,0,none⟩ (.slice ba bs.length bc)).setCell ⟨w.heap.size,1,none⟩ (.int .i64 (s3.i : Int))).setCell ⟨w.heap.size,2,none⟩ (.int .i64 (s3.n : Int))).setCell ⟨w.heap.size,3,none⟩ (.slice na s.names.length nc)).setCell ⟨w.heap.size,4,none⟩ (.int .i64 0) = w11 at *
 have hsz : (⟨l.toArray⟩ : ByteArray).size ≤ maxLen := by show l.toArray.size ≤ maxLen; unfold maxLen; simp; omega
 have hcv := conv_any w11 Try.underlying22 Try.underlying5 Try.underlying9 HSl.out
 have HNs := hid (H.out.nms.below HB11.out)
 have HName := hid (show Calls Try.prog 80 #[.string ⟨l.toArray⟩] w11.drew (fun e w' => e = .returned (.bool true) ∧ w' = w11.drew) from HD.out ▸ name_rw _ _ hsz)
 have HF := find_still (.slice na s.names.length nc) s.names ⟨l.toArray⟩ w11.drew HNs.out.drew
 rw [HP.out] at HF
 have HF := hid HF
 go_upto_region 11 with fail
 obtain ⟨k0,k1,k2,k3,k4⟩ := FiveAt.of_block HX11.out
 refine wp_region_still_tail 13 (by kernel_rfl) (by kernel_rfl) ?_
 simp only [List.take_succ_cons,List.take_zero,List.drop_succ_cons,List.drop_zero]
 with_reducible refine wpStill_step (fun K hK => ?_)
 go_simp
 with_reducible refine hK _ ?_
 clear hK K
 with_reducible refine wpStill_step (fun K hK => ?_)
 go_simp
 with_reducible refine hK _ ?_
 clear hK K
 with_reducible refine wpStill_step (fun K hK => ?_)
 go_simp
 refine ⟨_,HName.out,?_⟩
 with_reducible refine hK _ ?_
 clear hK K
 with_reducible refine wpStill_step (fun K hK => ?_)
 go_simp
 with_reducible refine hK _ ?_
 clear hK K
 with_reducible refine wpStill_step (fun K hK => ?_)
 go_simp
 with_reducible refine hK _ ?_
 clear hK K
 with_reducible refine wpStill_step (fun K hK => ?_)
 go_simp
 with_reducible refine hK _ ?_
 clear hK K
 with_reducible refine wpStill_step (fun K hK => ?_)
 go_simp
 with_reducible refine hK _ ?_
 clear hK K
 with_reducible refine wpStill_step (fun K hK => ?_)
 go_simp
 refine ⟨_,HF.out,?_⟩
 with_reducible refine hK _ ?_
 clear hK K
 with_reducible refine wpStill_step (fun K hK => ?_)
 go_simp
 with_reducible refine hK _ ?_
 clear hK K
 with_reducible refine wpStill_step (fun K hK => ?_)
 go_simp
 with_reducible refine hK _ ?_
 clear hK K
 with_reducible refine wpStill_step (fun K hK => ?_)
 go_simp
 with_reducible refine hK _ ?_
 clear hK K
 with_reducible refine wpStill_step (fun K hK => ?_)
 go_simp
 with_reducible refine hK _ ?_
 clear hK K
 with_reducible refine wpStill_step (fun K hK => ?_)
 go_simp
 with_reducible refine hK _ ?_
 clear hK K
 with_reducible refine wpStill_nil ?_
 change wpList _ _ _ _ _ w11.drew
 have HX12 : Hid (w11.drew.heap[w.heap.size]? = _) := HX11.out
 have HY12 : Hid (w11.drew.heap[w.heap.size + 1]? = _) := HY11.out
 have HB12 : Hid (Below w.heap.size w w11.drew) := HB11.out.drew
 clear k0 k1 k2 k3 k4 HX11 HY11 HB11 HName hcv
 generalize w11.drew = w12 at *
 go_wp2_with fail
 refine (rmust_any _ _ _ _ _ _ _ _ 0 false _).mono ?_
 rintro e w13 ⟨rfl,hb⟩
 have HX13 := hid ((hb.block _ (blk_lt HX12.out)).trans HX12.out)
 have HY13 := hid ((hb.block _ (blk_lt HY12.out)).trans HY12.out)
 have HB13 := hid (HB12.out.trans (hb.mono HB12.out.size))
 clear hb HB12 HX12 HY12
 go_upto_region 12 with (refine wpList_store_row rfl 80 (.tmp 1) (.tmp 72) rfl (w.heap.size) #[.slice ba bs.length bc,.int .i64 (s3.i : Int),.int .i64 (s3.n : Int),.slice na s.names.length nc,.int .i64 73] rfl rfl 80 #[.slice ba bs.length bc,.int .i64 (s3.i : Int),.int .i64 (s3.n : Int),.slice na s.names.length nc,.int .i64 0] HX13.out infoS rfl (by simp [Array.all,Value.oneCell']) ?_)
 have HX14 := hid (setRow_heap w13 (w.heap.size) #[.slice ba bs.length bc,.int .i64 (s3.i : Int),.int .i64 (s3.n : Int),.slice na s.names.length nc,.int .i64 0] #[.slice ba bs.length bc,.int .i64 (s3.i : Int),.int .i64 (s3.n : Int),.slice na s.names.length nc,.int .i64 73] 80 (0,0) HX13.out)
 have HY14 := hid ((setRow_other w13 (w.heap.size) (w.heap.size + 1) #[.slice ba bs.length bc,.int .i64 (s3.i : Int),.int .i64 (s3.n : Int),.slice na s.names.length nc,.int .i64 73] (by omega)).trans HY13.out)
 have HB14 := hid (HB13.out.trans ((setRow_turn w13 (w.heap.size) #[.slice ba bs.length bc,.int .i64 (s3.i : Int),.int .i64 (s3.n : Int),.slice na s.names.length nc,.int .i64 73]).below HB13.out.size (fun i e => by omega)))
 clear HB13 HX13 HY13
 generalize w13.setRow (w.heap.size) #[.slice ba bs.length bc,.int .i64 (s3.i : Int),.int .i64 (s3.n : Int),.slice na s.names.length nc,.int .i64 73] = w14 at *
 obtain ⟨k0,k1,k2,k3,k4⟩ := FiveAt.of_block HX14.out
 go_wp2_with (refine wpList_store_row rfl 80 (.tmp 2) (.tmp 84) rfl (w.heap.size + 1) #[.slice ba bs.length bc,.int .i64 (s3.i : Int),.int .i64 (s3.n : Int),.slice na s.names.length nc,.int .i64 73] rfl rfl 80 #[nilV,.int .i64 0,.int .i64 0,nilV,.int .i64 0] HY14.out infoS rfl (by simp [Array.all,Value.oneCell']) ?_)
 have HY15 := hid (setRow_heap w14 (w.heap.size + 1) #[nilV,.int .i64 0,.int .i64 0,nilV,.int .i64 0] #[.slice ba bs.length bc,.int .i64 (s3.i : Int),.int .i64 (s3.n : Int),.slice na s.names.length nc,.int .i64 73] 80 (0,0) HY14.out)
 have HX15 := hid ((setRow_other w14 (w.heap.size + 1) (w.heap.size) #[.slice ba bs.length bc,.int .i64 (s3.i : Int),.int .i64 (s3.n : Int),.slice na s.names.length nc,.int .i64 73] (by omega)).trans HX14.out)
 have HB15 := hid (HB14.out.trans ((setRow_turn w14 (w.heap.size + 1) #[.slice ba bs.length bc,.int .i64 (s3.i : Int),.int .i64 (s3.n : Int),.slice na s.names.length nc,.int .i64 73]).below HB14.out.size (fun i e => by omega)))
 clear HB14 HY14 HX14
 generalize w14.setRow (w.heap.size + 1) #[.slice ba bs.length bc,.int .i64 (s3.i : Int),.int .i64 (s3.n : Int),.slice na s.names.length nc,.int .i64 73] = w15 at *
 clear k0 k1 k2 k3 k4
 go_wp2_with fail
 obtain ⟨k0,k1,k2,k3,k4⟩ := FiveAt.of_block HY15.out
 exact bodyPost_ret (v := .tuple #[.agg #[.slice ba bs.length bc,.int .i64 (s3.i : Int),.int .i64 (s3.n : Int),.slice na s.names.length nc,.int .i64 73],.string ⟨l.toArray⟩]) (by simp [results,Try.results53,go_sem,k0,k1,k2,k3,k4]) rfl (by rw [HK.out]; exact ⟨_,_,_,_,_,_,rfl,HB15.out⟩)
end Go.Proofs.Ytgadkiljnebicaa
