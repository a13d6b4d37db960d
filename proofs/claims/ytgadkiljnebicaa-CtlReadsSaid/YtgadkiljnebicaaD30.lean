/- Several texts in one. -/
import Derived.Test.YtgadkiljnebicaaD25
import Derived.Test.YtgadkiljnebicaaD09
import Derived.Test.YtgadkiljnebicaaD26
import Derived.Test.YtgadkiljnebicaaD27
namespace Go.Proofs.Ytgadkiljnebicaa
open Go.Lib (hid)
open Go.RowKit
set_option maxRecDepth 100000
theorem name_mid {w14 w15 w16 : World} {b X : Nat} {o ob : Obj} {a5 : Option Addr} {n5 c5 : Nat} (h : (w14.alloc ob).heap[b]? = some o) (hs : X + 2 ≤ w14.heap.size) (hG : Turn (fun i => w14.heap.size = i) (w14.alloc ob) w15)
  (hK : (∀ i,i < X + 2 → i < w15.heap.size → w16.heap[i]? = w15.heap[i]?) ∧ w15.heap.size ≤ w16.heap.size ∧ Turn (fun i => (Value.slice a5 n5 c5).ownBlock = some i) w15 w16) (hb : b < X + 2) : w16.heap[b]? = some o := by
 have h15 := (hG.block b (by simp; omega) (by omega)).trans h
 exact (hK.1 b hb (blk_lt h15)).trans h15
theorem nm_lo {w w14 w15 w16 : World} {X : Nat} {ob : Obj} {a5 : Option Addr} {n5 c5 : Nat} {e : TypeId} {xs : List Value} (h : Below X w (w14.alloc ob)) (hs : X + 2 ≤ w14.heap.size) (hG : Turn (fun i => w14.heap.size = i) (w14.alloc ob) w15)
  (hK : (∀ i,i < X + 2 → i < w15.heap.size → w16.heap[i]? = w15.heap[i]?) ∧ w15.heap.size ≤ w16.heap.size ∧ Turn (fun i => (Value.slice a5 n5 c5).ownBlock = some i) w15 w16) (hO : w15.ownsRow (X + 2) e 1 (.slice a5 n5 c5) n5 xs) : Below X w w16 :=
 (h.trans (hG.below (by simp; omega) (fun i e => by omega))).trans (hK.2.2.below (by have := hG.size; simp at this; omega) (fun i e => by have := (hO.lt i e).1; omega))
set_option maxHeartbeats 2000000 in
theorem rname_put (ba : Option Addr) (bc : Nat) (bs : List UInt8) (s s1 : St) (na : Option Addr) (nc : Nat) (w : World) (h : RfAt w ba bc bs s na nc) (hw : wideN bs s = .ok (s.names.length,s1)) (hnl : s.names.length ≤ 4096) (size : Nat) (s2 : St) (ho : oneP bs s1 = .ok (size,s2)) (hg : 1 ≤ size) (hg2 : size ≤ 32) (l : List UInt8) (s3 : St) (hso : someP bs size s2 = .ok (l,s3)) (hd : nameB ⟨l.toArray⟩ = true) (hp : pos s.names ⟨l.toArray⟩ = none) (hl96 : s.names.length < 4096) :
  Calls Try.prog 53 #[stV ba bs.length bc s.i s.n na s.names.length nc 0] w (RP2 ba bs.length bc na s.names w .string (nameP bs s)) := by
 have H := hid h
 have hs1 := wide_names _ _ _ _ _ _ hw
 have HNM := hid hs1.1
 have HS1N := hid hs1.2.1
 have HW := hid hw
 have HO := hid ho
 have hsz256 := (oneP_ok ho).1
 have f1 : IntKind.i64.wrap (size : Int) = size := IntWalk.i64_in _ (by omega)
 have HI1 := hid (wideN_ile hw)
 clear h hs1 hw
 have HK := hid (show nameP bs s = .ok (⟨l.toArray⟩,{ s3 with names := s.names ++ [⟨l.toArray⟩] }) by rw [nameP_eq,HW.out]; unfold nameK; simp only; rw [if_neg (by rw [HNM.out]; omega),if_neg (by rw [HNM.out]; omega)]; rw [HO.out]; simp only; rw [if_neg (by omega),hso]; simp only; rw [show s3.names = s.names by rw [(some_st hso).1,(oneP_ok HO.out).2.1]; exact HNM.out]; simp [hp,hd])
 have HD := hid hd
 have HP := hid hp
 clear hd hp
 have hb0 : (1 : Int) ≤ (size : Int) := by omega
 have hb1 : (size : Int) ≤ 32 := by omega
 have HSo := hid hso
 have HNM2 := hid (show s2.names = s.names by rw [(oneP_ok HO.out).2.1]; exact HNM.out)
 have HS2N := hid (show s2.n = s.n by rw [(oneP_ok HO.out).2.1]; exact HS1N.out)
 have HI2 := hid (show s2.i ≤ bs.length by rw [(oneP_ok HO.out).2.1]; exact (oneP_ok HO.out).2.2)
 clear hso
 have hll : l.length ≤ 32 := by rw [(some_st HSo.out).2.1]; exact hg2
 have HL3 := hid (some_st HSo.out).1
 have HN3 := hid (show s3.names = s.names by rw [HL3.out]; exact HNM2.out)
 have hle : ((s.names.length : Int) ≤ (s.names.length : Int)) := by omega
 have hlt : decide (s.names.length < s.names.length) = false := decide_eq_false (by omega)
 have hwl := wrap_u64_nat s.names.length (by omega)
 go_enter Try.func53,Try.ntmps53
 go_wp2_with fail
 have hXY : ¬ w.heap.size = w.heap.size + 1 := by omega
 have HX1 : Hid (((w.alloc (.cells #[.slice ba bs.length bc,.int .i64 (s.i : Int),.int .i64 (s.n : Int),.slice na s.names.length nc,.int .i64 0] 80)).alloc (.cells #[nilV,.int .i64 0,.int .i64 0,nilV,.int .i64 0] 80)).heap[w.heap.size]? = some (.cells #[.slice ba bs.length bc,.int .i64 (s.i : Int),.int .i64 (s.n : Int),.slice na s.names.length nc,.int .i64 0] 80 (0,0))) := (Below.heap_alloc _ _ _ (by simp)).trans (heap_new w _)
 have HY1 : Hid (((w.alloc (.cells #[.slice ba bs.length bc,.int .i64 (s.i : Int),.int .i64 (s.n : Int),.slice na s.names.length nc,.int .i64 0] 80)).alloc (.cells #[nilV,.int .i64 0,.int .i64 0,nilV,.int .i64 0] 80)).heap[w.heap.size + 1]? = some (.cells #[nilV,.int .i64 0,.int .i64 0,nilV,.int .i64 0] 80 (0,0))) := heap_new_at (by simp)
 have HB1 := hid (((Below.refl w.heap.size w).alloc (Nat.le_refl _) (.cells #[.slice ba bs.length bc,.int .i64 (s.i : Int),.int .i64 (s.n : Int),.slice na s.names.length nc,.int .i64 0] 80)).alloc (by simp) (.cells #[nilV,.int .i64 0,.int .i64 0,nilV,.int .i64 0] 80))
 generalize ((w.alloc (.cells #[.slice ba bs.length bc,.int .i64 (s.i : Int),.int .i64 (s.n : Int),.slice na s.names.length nc,.int .i64 0] 80)).alloc (.cells #[nilV,.int .i64 0,.int .i64 0,nilV,.int .i64 0] 80)) = w1 at *
 have HRf1 := hid (show RfAt w1 ba bc bs s na nc from ⟨H.out.src.below HB1.out,H.out.nms.below HB1.out,H.out.len,H.out.ile,H.out.nle⟩)
 have H1 := rwide_any ba bc bs s na nc w1 HRf1.out
 rw [HW.out] at H1
 refine H1.mono ?_
 rintro e w2 ⟨rfl,hb⟩
 clear H1 HRf1
 have HX2 := hid ((hb.block _ (blk_lt HX1.out)).trans HX1.out)
 have HY2 := hid ((hb.block _ (blk_lt HY1.out)).trans HY1.out)
 have HB2 := hid (HB1.out.trans (hb.mono HB1.out.size))
 clear hb HB1 HX1 HY1
 obtain ⟨k0,k1,k2,k3,k4⟩ := FiveAt.of_block HX2.out
 have kf := blk_fz HX2.out
 go_upto_region 2 with fail
 clear k0 k1 k2 k3 k4 kf
 have HX3 := hid (five_set HX2.out (d0 := .slice ba bs.length bc) (d1 := .int .i64 (s1.i : Int)) (d2 := .int .i64 (s1.n : Int)) (d3 := .slice na s.names.length nc) (d4 := .int .i64 0))
 have hTs := five_turn w2 (w.heap.size) (.slice ba bs.length bc) (.int .i64 (s1.i : Int)) (.int .i64 (s1.n : Int)) (.slice na s.names.length nc) (.int .i64 0)
 have HY3 := hid ((hTs.block (w.heap.size + 1) (blk_lt HY2.out) (by omega)).trans HY2.out)
 have HB3 := hid (HB2.out.trans (hTs.below HB2.out.size (fun i e => by omega)))
 clear hTs HB2 HX2 HY2
 simp only [set5] at HX3 HY3 HB3
 generalize ((((w2.setCell ⟨w.heap.size,0,none⟩ (.slice ba bs.length bc)).setCell ⟨w.heap.size,1,none⟩ (.int .i64 (s1.i : Int))).setCell ⟨w.heap.size,2,none⟩ (.int .i64 (s1.n : Int))).setCell ⟨w.heap.size,3,none⟩ (.slice na s.names.length nc)).setCell ⟨w.heap.size,4,none⟩ (.int .i64 0) = w3 at *
 obtain ⟨k0,k1,k2,k3,k4⟩ := FiveAt.of_block HX3.out
 go_wp2_with fail
 refine (rmust_any _ _ _ _ _ _ _ _ 0 true _).mono ?_
 rintro e w4 ⟨rfl,hb⟩
 clear k0 k1 k2 k3 k4
 have HX4 := hid ((hb.block _ (blk_lt HX3.out)).trans HX3.out)
 have HY4 := hid ((hb.block _ (blk_lt HY3.out)).trans HY3.out)
 have HB4 := hid (HB3.out.trans (hb.mono HB3.out.size))
 clear hb HB3 HX3 HY3
 go_upto_region 3 with (refine wpList_store_row rfl 80 (.tmp 1) (.tmp 20) rfl (w.heap.size) #[.slice ba bs.length bc,.int .i64 (s1.i : Int),.int .i64 (s1.n : Int),.slice na s.names.length nc,.int .i64 0] rfl rfl 80 #[.slice ba bs.length bc,.int .i64 (s1.i : Int),.int .i64 (s1.n : Int),.slice na s.names.length nc,.int .i64 0] HX4.out infoS rfl (by simp [Array.all,Value.oneCell']) ?_)
 have HX5 := hid (setRow_heap w4 (w.heap.size) #[.slice ba bs.length bc,.int .i64 (s1.i : Int),.int .i64 (s1.n : Int),.slice na s.names.length nc,.int .i64 0] #[.slice ba bs.length bc,.int .i64 (s1.i : Int),.int .i64 (s1.n : Int),.slice na s.names.length nc,.int .i64 0] 80 (0,0) HX4.out)
 have HY5 := hid ((setRow_other w4 (w.heap.size) (w.heap.size + 1) #[.slice ba bs.length bc,.int .i64 (s1.i : Int),.int .i64 (s1.n : Int),.slice na s.names.length nc,.int .i64 0] (by omega)).trans HY4.out)
 have HB5 := hid (HB4.out.trans ((setRow_turn w4 (w.heap.size) #[.slice ba bs.length bc,.int .i64 (s1.i : Int),.int .i64 (s1.n : Int),.slice na s.names.length nc,.int .i64 0]).below HB4.out.size (fun i e => by omega)))
 clear HB4 HX4 HY4
 generalize w4.setRow (w.heap.size) #[.slice ba bs.length bc,.int .i64 (s1.i : Int),.int .i64 (s1.n : Int),.slice na s.names.length nc,.int .i64 0] = w5 at *
 obtain ⟨k0,k1,k2,k3,k4⟩ := FiveAt.of_block HX5.out
 have HRf5 := hid (show RfAt w5 ba bc bs s1 na nc from ⟨H.out.src.below HB5.out,by rw [HNM.out]; exact H.out.nms.below HB5.out,H.out.len,HI1.out,by rw [HS1N.out]; exact H.out.nle⟩)
 have H1 := rone_any ba bc bs s1 na nc w5 HRf5.out
 rw [HNM.out] at H1
 clear HRf5
 rw [HO.out] at H1
 have H1 := hid H1
 clear ho
 go_wp2_with fail
 refine H1.out.mono ?_
 rintro e w6 ⟨rfl,hb⟩
 clear k0 k1 k2 k3 k4
 have HX6 := hid ((hb.block _ (blk_lt HX5.out)).trans HX5.out)
 have HY6 := hid ((hb.block _ (blk_lt HY5.out)).trans HY5.out)
 have HB6 := hid (HB5.out.trans (hb.mono HB5.out.size))
 clear hb HB5 HX5 HY5
 obtain ⟨k0,k1,k2,k3,k4⟩ := FiveAt.of_block HX6.out
 have kf := blk_fz HX6.out
 go_upto_region 8 with fail
 clear k0 k1 k2 k3 k4 kf
 have HX7 := hid (five_set HX6.out (d0 := .slice ba bs.length bc) (d1 := .int .i64 (s2.i : Int)) (d2 := .int .i64 (s2.n : Int)) (d3 := .slice na s.names.length nc) (d4 := .int .i64 0))
 have hTs := five_turn w6 (w.heap.size) (.slice ba bs.length bc) (.int .i64 (s2.i : Int)) (.int .i64 (s2.n : Int)) (.slice na s.names.length nc) (.int .i64 0)
 have HY7 := hid ((hTs.block (w.heap.size + 1) (blk_lt HY6.out) (by omega)).trans HY6.out)
 have HB7 := hid (HB6.out.trans (hTs.below HB6.out.size (fun i e => by omega)))
 clear hTs HB6 HX6 HY6
 simp only [set5] at HX7 HY7 HB7
 generalize ((((w6.setCell ⟨w.heap.size,0,none⟩ (.slice ba bs.length bc)).setCell ⟨w.heap.size,1,none⟩ (.int .i64 (s2.i : Int))).setCell ⟨w.heap.size,2,none⟩ (.int .i64 (s2.n : Int))).setCell ⟨w.heap.size,3,none⟩ (.slice na s.names.length nc)).setCell ⟨w.heap.size,4,none⟩ (.int .i64 0) = w7 at *
 obtain ⟨k0,k1,k2,k3,k4⟩ := FiveAt.of_block HX7.out
 go_wp2_with fail
 refine (rmust_any _ _ _ _ _ _ _ _ 0 true _).mono ?_
 rintro e w8 ⟨rfl,hb⟩
 clear k0 k1 k2 k3 k4
 have HX8 := hid ((hb.block _ (blk_lt HX7.out)).trans HX7.out)
 have HY8 := hid ((hb.block _ (blk_lt HY7.out)).trans HY7.out)
 have HB8 := hid (HB7.out.trans (hb.mono HB7.out.size))
 clear hb HB7 HX7 HY7
 go_upto_region 9 with (refine wpList_store_row rfl 80 (.tmp 1) (.tmp 49) rfl (w.heap.size) #[.slice ba bs.length bc,.int .i64 (s2.i : Int),.int .i64 (s2.n : Int),.slice na s.names.length nc,.int .i64 0] rfl rfl 80 #[.slice ba bs.length bc,.int .i64 (s2.i : Int),.int .i64 (s2.n : Int),.slice na s.names.length nc,.int .i64 0] HX8.out infoS rfl (by simp [Array.all,Value.oneCell']) ?_)
 have HX9 := hid (setRow_heap w8 (w.heap.size) #[.slice ba bs.length bc,.int .i64 (s2.i : Int),.int .i64 (s2.n : Int),.slice na s.names.length nc,.int .i64 0] #[.slice ba bs.length bc,.int .i64 (s2.i : Int),.int .i64 (s2.n : Int),.slice na s.names.length nc,.int .i64 0] 80 (0,0) HX8.out)
 have HY9 := hid ((setRow_other w8 (w.heap.size) (w.heap.size + 1) #[.slice ba bs.length bc,.int .i64 (s2.i : Int),.int .i64 (s2.n : Int),.slice na s.names.length nc,.int .i64 0] (by omega)).trans HY8.out)
 have HB9 := hid (HB8.out.trans ((setRow_turn w8 (w.heap.size) #[.slice ba bs.length bc,.int .i64 (s2.i : Int),.int .i64 (s2.n : Int),.slice na s.names.length nc,.int .i64 0]).below HB8.out.size (fun i e => by omega)))
 clear HB8 HX8 HY8
 generalize w8.setRow (w.heap.size) #[.slice ba bs.length bc,.int .i64 (s2.i : Int),.int .i64 (s2.n : Int),.slice na s.names.length nc,.int .i64 0] = w9 at *
 obtain ⟨k0,k1,k2,k3,k4⟩ := FiveAt.of_block HX9.out
 have HRf9 := hid (show RfAt w9 ba bc bs s2 na nc from ⟨H.out.src.below HB9.out,by rw [HNM2.out]; exact H.out.nms.below HB9.out,H.out.len,HI2.out,by rw [HS2N.out]; exact H.out.nle⟩)
 have H2 := rsome_any ba bc bs s2 na nc size (by omega) w9 HRf9.out
 rw [HNM2.out,HSo.out] at H2
 have H2 := hid H2
 clear HRf9
 go_wp2_with fail
 refine H2.out.mono ?_
 rintro e w10 ⟨a',c',rfl,ho10,hnil,hb⟩
 have HSl0 := hid (Sl.of_owns ho10 (by simp; omega))
 have HOb := hid (show ∀ b,(Value.slice a' l.length c').ownBlock = some b → w.heap.size + 1 < b from fun b e => by have h1 := (ho10.lt b e).1; have h2 := blk_lt HY9.out; omega)
 clear k0 k1 k2 k3 k4 ho10 hnil
 have HX10 := hid ((hb.block _ (blk_lt HX9.out)).trans HX9.out)
 have HY10 := hid ((hb.block _ (blk_lt HY9.out)).trans HY9.out)
 have HB10 := hid (HB9.out.trans (hb.mono HB9.out.size))
 clear hb HB9 HX9 HY9
 obtain ⟨k0,k1,k2,k3,k4⟩ := FiveAt.of_block HX10.out
 have kf := blk_fz HX10.out
 go_upto_region 10 with fail
 clear k0 k1 k2 k3 k4 kf
 have HX11 := hid (five_set HX10.out (d0 := .slice ba bs.length bc) (d1 := .int .i64 (s3.i : Int)) (d2 := .int .i64 (s3.n : Int)) (d3 := .slice na s.names.length nc) (d4 := .int .i64 0))
 have hTs := five_turn w10 (w.heap.size) (.slice ba bs.length bc) (.int .i64 (s3.i : Int)) (.int .i64 (s3.n : Int)) (.slice na s.names.length nc) (.int .i64 0)
 have HSl := hid (HSl0.out.same fun b e hb => hTs.block b hb (by have := HOb.out b e; omega))
 have HY11 := hid ((hTs.block (w.heap.size + 1) (blk_lt HY10.out) (by omega)).trans HY10.out)
 have HB11 := hid (HB10.out.trans (hTs.below HB10.out.size (fun i e => by omega)))
 clear hTs HB10 HX10 HY10
 simp only [set5] at HX11 HY11 HB11 HSl
 generalize ((((w10.setCell ⟨w.heap.size,0,none⟩ (.slice ba bs.length bc)).setCell ⟨w.heap.size,1,none⟩ (.int .i64 (s3.i : Int))).setCell ⟨w.heap.size,2,none⟩ (.int .i64 (s3.n : Int))).setCell ⟨w.heap.size,3,none⟩ (.slice na s.names.length nc)).setCell ⟨w.heap.size,4,none⟩ (.int .i64 0) = w11 at *
 have hsz : (⟨l.toArray⟩ : ByteArray).size ≤ maxLen := by show l.toArray.size ≤ maxLen; unfold maxLen; simp; omega
 have hcv := conv_any w11 Try.underlying22 Try.underlying5 Try.underlying9 HSl.out
 have HNs := hid (H.out.nms.below HB11.out)
 have HName := hid (show Calls Try.prog 80 #[.string ⟨l.toArray⟩] w11.drew (fun e w' => e = .returned (.bool true) ∧ w' = w11.drew) from HD.out ▸ name_rw _ _ hsz)
 have HF := find_still (.slice na s.names.length nc) s.names ⟨l.toArray⟩ w11.drew HNs.out.drew
 rw [HP.out] at HF
 have HF := hid HF
 go_upto_region 11 with fail
 obtain ⟨k0,k1,k2,k3,k4⟩ := FiveAt.of_block HX11.out
 refine wp_region_still_tail 13 (by kernel_rfl) (by kernel_rfl) ?_
 simp only [List.take_succ_cons,List.take_zero,List.drop_succ_cons,List.drop_zero]
 with_reducible refine wpStill_step (fun K hK => ?_)
 go_simp
 with_reducible refine hK _ ?_
 clear hK K
 with_reducible refine wpStill_step (fun K hK => ?_)
 go_simp
 with_reducible refine hK _ ?_
 clear hK K
 with_reducible refine wpStill_step (fun K hK => ?_)
 go_simp
 refine ⟨_,HName.out,?_⟩
 with_reducible refine hK _ ?_
 clear hK K
 with_reducible refine wpStill_step (fun K hK => ?_)
 go_simp
 with_reducible refine hK _ ?_
 clear hK K
 with_reducible refine wpStill_step (fun K hK => ?_)
 go_simp
 with_reducible refine hK _ ?_
 clear hK K
 with_reducible refine wpStill_step (fun K hK => ?_)
 go_simp
 with_reducible refine hK _ ?_
 clear hK K
 with_reducible refine wpStill_step (fun K hK => ?_)
 go_simp
 with_reducible refine hK _ ?_
 clear hK K
 with_reducible refine wpStill_step (fun K hK => ?_)
 go_simp
 refine ⟨_,HF.out,?_⟩
 with_reducible refine hK _ ?_
 clear hK K
 with_reducible refine wpStill_step (fun K hK => ?_)
 go_simp
 with_reducible refine hK _ ?_
 clear hK K
 with_reducible refine wpStill_step (fun K hK => ?_)
 go_simp
 with_reducible refine hK _ ?_
 clear hK K
 with_reducible refine wpStill_step (fun K hK => ?_)
 go_simp
 with_reducible refine hK _ ?_
 clear hK K
 with_reducible refine wpStill_step (fun K hK => ?_)
 go_simp
 with_reducible refine hK _ ?_
 clear hK K
 with_reducible refine wpStill_step (fun K hK => ?_)
 go_simp
 with_reducible refine hK _ ?_
 clear hK K
 with_reducible refine wpStill_nil ?_
 change wpList _ _ _ _ _ w11.drew
 have HX12 : Hid (w11.drew.heap[w.heap.size]? = _) := HX11.out
 have HY12 : Hid (w11.drew.heap[w.heap.size + 1]? = _) := HY11.out
 have HB12 : Hid (Below w.heap.size w w11.drew) := HB11.out.drew
 clear k0 k1 k2 k3 k4 HX11 HY11 HB11 HName hcv
 generalize w11.drew = w12 at *
 go_wp2_with fail
 refine (rmust_any _ _ _ _ _ _ _ _ 0 true _).mono ?_
 rintro e w13 ⟨rfl,hb⟩
 have HX13 := hid ((hb.block _ (blk_lt HX12.out)).trans HX12.out)
 have HY13 := hid ((hb.block _ (blk_lt HY12.out)).trans HY12.out)
 have HB13 := hid (HB12.out.trans (hb.mono HB12.out.size))
 clear hb HB12 HX12 HY12
 go_upto_region 12 with (refine wpList_store_row rfl 80 (.tmp 1) (.tmp 72) rfl (w.heap.size) #[.slice ba bs.length bc,.int .i64 (s3.i : Int),.int .i64 (s3.n : Int),.slice na s.names.length nc,.int .i64 0] rfl rfl 80 #[.slice ba bs.length bc,.int .i64 (s3.i : Int),.int .i64 (s3.n : Int),.slice na s.names.length nc,.int .i64 0] HX13.out infoS rfl (by simp [Array.all,Value.oneCell']) ?_)
 have HX14 := hid (setRow_heap w13 (w.heap.size) #[.slice ba bs.length bc,.int .i64 (s3.i : Int),.int .i64 (s3.n : Int),.slice na s.names.length nc,.int .i64 0] #[.slice ba bs.length bc,.int .i64 (s3.i : Int),.int .i64 (s3.n : Int),.slice na s.names.length nc,.int .i64 0] 80 (0,0) HX13.out)
 have HY14 := hid ((setRow_other w13 (w.heap.size) (w.heap.size + 1) #[.slice ba bs.length bc,.int .i64 (s3.i : Int),.int .i64 (s3.n : Int),.slice na s.names.length nc,.int .i64 0] (by omega)).trans HY13.out)
 have HB14 := hid (HB13.out.trans ((setRow_turn w13 (w.heap.size) #[.slice ba bs.length bc,.int .i64 (s3.i : Int),.int .i64 (s3.n : Int),.slice na s.names.length nc,.int .i64 0]).below HB13.out.size (fun i e => by omega)))
 clear HB13 HX13 HY13
 generalize w13.setRow (w.heap.size) #[.slice ba bs.length bc,.int .i64 (s3.i : Int),.int .i64 (s3.n : Int),.slice na s.names.length nc,.int .i64 0] = w14 at *
 obtain ⟨k0,k1,k2,k3,k4⟩ := FiveAt.of_block HX14.out
 obtain ⟨i0,hi,hz0,hz1,hz2⟩ := info_parts infoString
 have Z1 := hid hi
 have Z2 := hid hz0
 have Z3 := hid hz1
 have Z4 := hid hz2
 clear hi hz0 hz1 hz2
 have hE := (Below.refl w14.heap.size w14).alloc (Nat.le_refl _) (.cells #[] 9)
 have HXE := hid ((hE.block _ (blk_lt HX14.out)).trans HX14.out)
 have HYE := hid ((hE.block _ (blk_lt HY14.out)).trans HY14.out)
 have HBE := hid (HB14.out.trans (hE.mono HB14.out.size))
 have HNE := hid (H.out.nms.below HBE.out)
 have hszE := hid (show w.heap.size + 2 ≤ w14.heap.size by have := blk_lt HY14.out; omega)
 have HOE := hid (owns_mono (ownsRow_empty w14 9 1) hszE.out)
 have e3 := (FiveAt.of_block HXE.out).2.2.2.1
 have hM1 := hid (show 0 + s.names.length ≤ maxLen by unfold maxLen; omega)
 have hM2 := hid (show (0 + s.names.length) * 16 ≤ 140737488355328 by omega)
 have hM3 := hid (show s.names.length + 1 ≤ maxLen by unfold maxLen; omega)
 have hM4 := hid (show (s.names.length + 1) * 16 ≤ 140737488355328 by omega)
 have hM5 := hid (show w.heap.size + 2 ≤ (w14.alloc (.cells #[] 9)).heap.size by have := hszE.out; simp; omega)
 clear hE
 go_upto_region 13 with fail
 clear k0 k1 k2 k3 k4
 go_upto_region 14 with (first
  | (at_builtin; refine wpList_app _ rfl (.tmp 76) (.tmp 78) 78 78 rfl (w.heap.size + 2) 9 i0 (.string ByteArray.empty) 1 16 Try.underlying78 Z1.out Z2.out Z3.out Z4.out rfl (by decide) _ 0 [] rfl HOE.out _ _ _ rfl (Strs.src HNE.out) hM1.out hM2.out hM5.out ?_; intro a5 c5 w15 ho5 hg5 hn5 hl5; rw [Nat.zero_add,List.nil_append] at ho5; rw [Nat.zero_add]; have HO15 := hid ho5; have HG15 := hid (show Turn (fun i => w14.heap.size = i) (w14.alloc (.cells #[] 9)) w15 from (Turn.of_grownBy hg5).mono (fun i _ e => by cases e; rfl)); clear ho5 hg5 hn5 hl5)
  | (at_builtin; refine wpList_app _ rfl (.tmp 79) (.tmp 81) 78 78 rfl (w.heap.size + 2) 9 i0 (.string ByteArray.empty) 1 16 Try.underlying78 Z1.out Z2.out Z3.out Z4.out rfl (by decide) _ _ _ rfl (HO15.out.alloc _) _ 1 [.string ⟨l.toArray⟩] rfl (src_one _ Try.underlying78 _ _ rfl) hM3.out hM4.out (by have := HG15.out.size; have := hM5.out; simp at *; omega) ?_; intro a6 c6 w16 ho6 hg6 hn6 hl6; have HO16 := hid ho6; have HK16 := hid (app_keep HO15.out hg6); have HX16 := hid (name_mid HXE.out hszE.out HG15.out HK16.out (by omega)); have HY16 := hid (name_mid HYE.out hszE.out HG15.out HK16.out (by omega)); have HB16 := hid (nm_lo HBE.out hszE.out HG15.out HK16.out HO15.out); obtain ⟨k0,k1,k2,k3,k4⟩ := FiveAt.of_block HX16.out; have kf := blk_fz HX16.out; clear ho6 hg6 hn6 hl6))
 clear k0 k1 k2 k3 k4 kf e3
 have HX17 : Hid ((w16.setCell ⟨w.heap.size,3,none⟩ (.slice a6 (s.names.length + 1) c6)).heap[w.heap.size]? = some (.cells #[.slice ba bs.length bc,.int .i64 (s3.i : Int),.int .i64 (s3.n : Int),.slice a6 (s.names.length + 1) c6,.int .i64 0] 80 (0,0))) := heap_setCell_at HX16.out
 have HY17 := hid ((Below.heap_setCell w16 ⟨w.heap.size,3,none⟩ (.slice a6 (s.names.length + 1) c6) (w.heap.size + 1) (by show ¬ w.heap.size + 1 = w.heap.size; omega)).trans HY16.out)
 have HB17 := hid (HB16.out.setCell (p := ⟨w.heap.size,3,none⟩) (Nat.le_refl _) (.slice a6 (s.names.length + 1) c6))
 have HO17 := hid (row_same HO16.out (fun b e _ => Below.heap_setCell w16 ⟨w.heap.size,3,none⟩ (.slice a6 (s.names.length + 1) c6) b (by have := (HO16.out.lt b e).1; show ¬ b = w.heap.size; omega)))
 clear HX16 HY16 HB16 HO16 HO15 HG15 HK16 HXE HYE HBE HOE
 generalize w16.setCell ⟨w.heap.size,3,none⟩ (.slice a6 (s.names.length + 1) c6) = w17 at *
 obtain ⟨k0,k1,k2,k3,k4⟩ := FiveAt.of_block HX17.out
 go_wp2_with (refine wpList_store_row rfl 80 (.tmp 2) (.tmp 84) rfl (w.heap.size + 1) #[.slice ba bs.length bc,.int .i64 (s3.i : Int),.int .i64 (s3.n : Int),.slice a6 (s.names.length + 1) c6,.int .i64 0] rfl rfl 80 #[nilV,.int .i64 0,.int .i64 0,nilV,.int .i64 0] HY17.out infoS rfl (by simp [Array.all,Value.oneCell']) ?_)
 have HY18 := hid (setRow_heap w17 (w.heap.size + 1) #[nilV,.int .i64 0,.int .i64 0,nilV,.int .i64 0] #[.slice ba bs.length bc,.int .i64 (s3.i : Int),.int .i64 (s3.n : Int),.slice a6 (s.names.length + 1) c6,.int .i64 0] 80 (0,0) HY17.out)
 have HX18 := hid ((setRow_other w17 (w.heap.size + 1) (w.heap.size) #[.slice ba bs.length bc,.int .i64 (s3.i : Int),.int .i64 (s3.n : Int),.slice a6 (s.names.length + 1) c6,.int .i64 0] (by omega)).trans HX17.out)
 have HB18 := hid (HB17.out.trans ((setRow_turn w17 (w.heap.size + 1) #[.slice ba bs.length bc,.int .i64 (s3.i : Int),.int .i64 (s3.n : Int),.slice a6 (s.names.length + 1) c6,.int .i64 0]).below HB17.out.size (fun i e => by omega)))
 clear HB17 HY17 HX17
 have HO18 := hid (row_same HO17.out (fun b e _ => setRow_other w17 (w.heap.size + 1) b #[.slice ba bs.length bc,.int .i64 (s3.i : Int),.int .i64 (s3.n : Int),.slice a6 (s.names.length + 1) c6,.int .i64 0] (by have := (HO17.out.lt b e).1; omega)))
 generalize w17.setRow (w.heap.size + 1) #[.slice ba bs.length bc,.int .i64 (s3.i : Int),.int .i64 (s3.n : Int),.slice a6 (s.names.length + 1) c6,.int .i64 0] = w18 at *
 clear k0 k1 k2 k3 k4
 go_wp2_with fail
 have HSt : Hid (Strs w18 (.slice a6 (s.names.length + 1) c6) (s.names ++ [⟨l.toArray⟩])) := Strs.of_owns (base := w.heap.size + 2) (n := s.names.length + 1) (by rw [List.map_append]; exact HO18.out) (by simp; omega)
 have HLen := hid (show (s.names ++ [(⟨l.toArray⟩ : ByteArray)]).length = s.names.length + 1 by simp)
 obtain ⟨k0,k1,k2,k3,k4⟩ := FiveAt.of_block HY18.out
 exact bodyPost_ret (v := .tuple #[.agg #[.slice ba bs.length bc,.int .i64 (s3.i : Int),.int .i64 (s3.n : Int),.slice a6 (s.names.length + 1) c6,.int .i64 0],.string ⟨l.toArray⟩]) (by simp [results,Try.results53,go_sem,k0,k1,k2,k3,k4]) rfl (by rw [HK.out]; exact ⟨a6,c6,by show _ = Ending.returned (.tuple #[stV ba bs.length bc s3.i s3.n a6 (s.names ++ [(⟨l.toArray⟩ : ByteArray)]).length c6 0,.string ⟨l.toArray⟩]); rw [HLen.out],by show Strs w18 (.slice a6 (s.names ++ [(⟨l.toArray⟩ : ByteArray)]).length c6) (s.names ++ [⟨l.toArray⟩]); rw [HLen.out]; exact HSt.out,HB18.out,.inr fun b e => by have h : (Value.slice a6 (s.names ++ [(⟨l.toArray⟩ : ByteArray)]).length c6).ownBlock = some b := e; rw [HLen.out] at h; have := (HO18.out.lt b h).1; omega⟩)
theorem refname_any (ba : Option Addr) (bc : Nat) (bs : List UInt8) (s : St) (na : Option Addr) (nc : Nat) (w : World) (h : RfAt w ba bc bs s na nc) (hn : s.names.length < 4096) :
  Calls Try.prog 53 #[stV ba bs.length bc s.i s.n na s.names.length nc 0] w (RP2 ba bs.length bc na s.names w .string (nameP bs s)) := by
 cases hw : wideN bs s with
 | error x => exact rname_err ba bc bs s na nc x w h hw (by omega)
 | ok y =>
  obtain ⟨k,s1⟩ := y
  rcases Nat.lt_trichotomy k s.names.length with hk | hk | hk
  ·exact rname_low ba bc bs s s1 na nc k w h hw (by omega) hk
  ·subst hk
   cases ho : oneP bs s1 with
   | error x =>
    have := oneP_err ho
    subst this
    exact rname_short ba bc bs s s1 na nc w h hw (by omega) ho
   | ok y =>
    obtain ⟨size,s2⟩ := y
    by_cases hb : size < 1
    ·exact rname_size0 ba bc bs s s1 na nc w h hw (by omega) size s2 ho hb
    by_cases hb2 : 32 < size
    ·exact rname_size1 ba bc bs s s1 na nc w h hw (by omega) size s2 ho hb2
    cases hs : someP bs size s2 with
    | error x =>
     have : x = 72 := by
      unfold someP at hs
      split at hs
      ·cases hs
      ·cases hs; rfl
     subst this
     exact rname_cut ba bc bs s s1 na nc w h hw (by omega) size s2 ho (by omega) (by omega) hs
    | ok y =>
     obtain ⟨l,s3⟩ := y
     cases hd : nameB ⟨l.toArray⟩ with
     | false => exact rname_bad ba bc bs s s1 na nc w h hw (by omega) size s2 ho (by omega) (by omega) l s3 hs hd
     | true =>
      cases hp : pos s.names ⟨l.toArray⟩ with
      | some q => exact rname_twice ba bc bs s s1 na nc w h hw (by omega) size s2 ho (by omega) (by omega) l s3 hs hd q hp
      | none => exact rname_put ba bc bs s s1 na nc w h hw (by omega) size s2 ho (by omega) (by omega) l s3 hs hd hp hn
  ·exact rname_high ba bc bs s s1 na nc k w h hw (by omega) hk
end Go.Proofs.Ytgadkiljnebicaa
