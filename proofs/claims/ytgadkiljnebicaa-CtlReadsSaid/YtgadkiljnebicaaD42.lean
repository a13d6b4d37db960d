/- Several texts in one. -/
import Derived.Test.YtgadkiljnebicaaD40
import Derived.Test.YtgadkiljnebicaaD07
import Derived.Deep.RegionHeld3
import Derived.Laws.Slices
namespace Go.Proofs.Ytgadkiljnebicaa
open Go.Lib (hid)
open Go.RowKit
set_option maxRecDepth 100000
attribute [local go_sem] run_store_complex
set_option maxHeartbeats 4000000 in
theorem rq4 (ba : Option Addr) (bc : Nat) (bs : List UInt8) (s s1 : St) (sub : Rd Tm) (na : Option Addr) (nc : Nat) (d : Int) (hd : d ≤ 24) (w : World) (h : RfAt w ba bc bs s na nc) (hn : s.n + 1 ≤ 4096) (ho : oneP bs { s with n := s.n + 1 } = .ok (4,s1)) (hnm : s.names.length ≤ s.n) :
  Calls Try.prog 32 #[stV ba bs.length bc s.i s.n na s.names.length nc 0,.int .i64 d] w (RPT ba bs.length bc na s.names w (kindP bs sub 4 s1)) := by
 have H := hid h
 have HO := hid ho
 have HS1 := hid (oneP_ok ho).2
 have HN1 := hid (show s1.n = s.n + 1 by rw [HS1.out.1])
 have HNM1 := hid (show s1.names = s.names by rw [HS1.out.1])
 have HI1 := hid (show s1.i ≤ bs.length by rw [HS1.out.1]; exact HS1.out.2)
 have hn' : (s.n : Int) + 1 ≤ 4096 := by omega
 have HNm := hid hnm
 clear h ho hnm
 go_enter Try.func32,Try.ntmps32
 go_wp2_with fail
 obtain ⟨hX1,hY1,hZ1,hB1⟩ := heap_new3 (w := w) (o1 := .cells #[.slice ba bs.length bc,.int .i64 (s.i : Int),.int .i64 ((s.n : Int) + 1),.slice na s.names.length nc,.int .i64 0] 80) (o2 := .cells #[nilV,.int .i64 0,.int .i64 0,nilV,.int .i64 0] 80) (o3 := .cells #[.int .i64 0,.int .i64 0,.complex .f64 0 0,.string ⟨#[]⟩,.int .i64 0,.int .u32 0,.int .u64 0,nilV,nilV] 31)
 have HX1 := hid hX1
 have HY1 := hid hY1
 have HZ1 := hid hZ1
 have HB1 := hid hB1
 clear hX1 hY1 hZ1 hB1
 generalize ((w.alloc (.cells #[.slice ba bs.length bc,.int .i64 (s.i : Int),.int .i64 ((s.n : Int) + 1),.slice na s.names.length nc,.int .i64 0] 80)).alloc (.cells #[nilV,.int .i64 0,.int .i64 0,nilV,.int .i64 0] 80)).alloc (.cells #[.int .i64 0,.int .i64 0,.complex .f64 0 0,.string ⟨#[]⟩,.int .i64 0,.int .u32 0,.int .u64 0,nilV,nilV] 31) = w1 at *
 have hXY : w.heap.size < w.heap.size + 1 := by omega
 have hYZ : w.heap.size + 1 < w.heap.size + 1 + 1 := by omega
 generalize w.heap.size + 1 + 1 = Zb at *
 generalize w.heap.size + 1 = Yb at *
 obtain ⟨Xb,hXb⟩ : ∃ X,w.heap.size = X := ⟨_,rfl⟩
 rw [hXb] at HX1 HB1 hXY ⊢
 have HN := hid hXb
 have HRf1 := hid (show RfAt w1 ba bc bs { s with n := s.n + 1 } na nc from ⟨H.out.src.below (HN.out ▸ HB1.out),H.out.nms.below (HN.out ▸ HB1.out),H.out.len,H.out.ile,by show s.n + 1 ≤ 4097; omega⟩)
 have H1 := rone_any ba bc bs { s with n := s.n + 1 } na nc w1 HRf1.out
 rw [HO.out] at H1
 clear hXb
 refine H1.mono ?_
 rintro e w2 ⟨rfl,hb⟩
 clear H1 HRf1
 have HX2 := hid ((hb.block _ (blk_lt HX1.out)).trans HX1.out)
 have HY2 := hid ((hb.block _ (blk_lt HY1.out)).trans HY1.out)
 have HZ2 := hid ((hb.block _ (blk_lt HZ1.out)).trans HZ1.out)
 have HB2 := hid (HB1.out.trans (hb.mono (bsz HN.out HB1.out)))
 clear hb HB1 HX1 HY1 HZ1
 obtain ⟨k0,k1,k2,k3,k4⟩ := FiveAt.of_block HX2.out
 have kf := blk_fz HX2.out
 go_upto_region 7 with fail
 clear k0 k1 k2 k3 k4 kf
 have HX3 := hid (five_set HX2.out (d0 := .slice ba bs.length bc) (d1 := .int .i64 (s1.i : Int)) (d2 := .int .i64 (s1.n : Int)) (d3 := .slice na s.names.length nc) (d4 := .int .i64 0))
 have hTs := five_turn w2 (Xb) (.slice ba bs.length bc) (.int .i64 (s1.i : Int)) (.int .i64 (s1.n : Int)) (.slice na s.names.length nc) (.int .i64 0)
 have HY3 := hid ((hTs.block (Yb) (blk_lt HY2.out) (by omega)).trans HY2.out)
 have HZ3 := hid ((hTs.block (Zb) (blk_lt HZ2.out) (by omega)).trans HZ2.out)
 have HB3 := hid (HB2.out.trans (hTs.below (bsz HN.out HB2.out) (fun i e => by omega)))
 clear hTs HB2 HX2 HY2 HZ2
 simp only [set5] at HX3 HY3 HZ3 HB3
 generalize ((((w2.setCell ⟨Xb,0,none⟩ (.slice ba bs.length bc)).setCell ⟨Xb,1,none⟩ (.int .i64 (s1.i : Int))).setCell ⟨Xb,2,none⟩ (.int .i64 (s1.n : Int))).setCell ⟨Xb,3,none⟩ (.slice na s.names.length nc)).setCell ⟨Xb,4,none⟩ (.int .i64 0) = w3 at *
 have hT := Below.heap_alloc w3 (.cells #[.int .i64 4,.int .i64 0,.complex .f64 0 0,.string ⟨#[]⟩,.int .i64 0,.int .u32 0,.int .u64 0,nilV,nilV] 31)
 have HX4 := hid ((hT _ (blk_lt HX3.out)).trans HX3.out)
 have HY4 := hid ((hT _ (blk_lt HY3.out)).trans HY3.out)
 have HZ4 := hid ((hT _ (blk_lt HZ3.out)).trans HZ3.out)
 have HT4 := hid (heap_new w3 (.cells #[.int .i64 4,.int .i64 0,.complex .f64 0 0,.string ⟨#[]⟩,.int .i64 0,.int .u32 0,.int .u64 0,nilV,nilV] 31))
 have HB4 := hid (HB3.out.alloc (bsz HN.out HB3.out) (.cells #[.int .i64 4,.int .i64 0,.complex .f64 0 0,.string ⟨#[]⟩,.int .i64 0,.int .u32 0,.int .u64 0,nilV,nilV] 31))
 have hTN : Zb < w3.heap.size := blk_lt HZ3.out
 obtain ⟨k0,k1,k2,k3,k4⟩ := FiveAt.of_block HX4.out
 go_wp2_with fail
 clear hT HX3 HY3 HZ3 HB3 k0 k1 k2 k3 k4
 generalize w3.alloc (.cells #[.int .i64 4,.int .i64 0,.complex .f64 0 0,.string ⟨#[]⟩,.int .i64 0,.int .u32 0,.int .u64 0,nilV,nilV] 31) = w4 at *
 generalize w3.heap.size = T at *
 have HRf := hid (show RfAt w4 ba bc bs s1 na nc from ⟨H.out.src.below (HN.out ▸ HB4.out),by rw [HNM1.out]; exact H.out.nms.below (HN.out ▸ HB4.out),H.out.len,HI1.out,by rw [HN1.out]; omega⟩)
 have H1 := rone_st ba bc bs na nc s1 w4 HRf.out
 rw [HNM1.out] at H1
 have H1 := hid H1
 have HQ := hid (show QAt Xb Yb Zb T #[.slice ba bs.length bc,.int .i64 (s1.i : Int),.int .i64 (s1.n : Int),.slice na s.names.length nc,.int .i64 0] #[.int .i64 4,.int .i64 0,.complex .f64 0 0,.string ⟨#[]⟩,.int .i64 0,.int .u32 0,.int .u64 0,nilV,nilV] w w4 from ⟨HX4.out,HY4.out,HZ4.out,HT4.out,HB4.out,hXY,hYZ,hTN⟩)
 clear HRf HX4 HY4 HZ4 HT4 HB4
 refine H1.out.mono ?_
 rintro e w5 ⟨i1,n1,c1,node,rfl,hnode,hb,hO⟩
 have HG1 := hid (hO.map (bad' := fun c => idP bs 4 s1 = Except.error c) (fun c h => id_e1 h) (fun s h => h))
 have HQ5 := hid (HQ.out.call hb)
 clear hb hO HQ H1
 have HV6 := hid (HQ5.out.newV #[.slice ba bs.length bc,.int .i64 i1,.int .i64 n1,.slice na s.names.length nc,.int .i64 c1])
 go_upto_region 30 with fail
 clear HQ5
 generalize w5.alloc (.cells #[.slice ba bs.length bc,.int .i64 i1,.int .i64 n1,.slice na s.names.length nc,.int .i64 c1] 80) = w6 at *
 generalize w5.heap.size = V at *
 have H1 := rwide_st ba bc bs na nc s.names _ _ _ _ _ w6 (H.out.src.below (HN.out ▸ HV6.out.q.below)) (H.out.nms.below (HN.out ▸ HV6.out.q.below)) H.out.len HG1.out
 have H1 := hid H1
 obtain ⟨k0,k1,k2,k3,k4⟩ := FiveAt.of_block HV6.out.vb
 go_wp2_with fail
 clear k0 k1 k2 k3 k4
 refine H1.out.mono ?_
 rintro e w7 ⟨i2,n2,c2,boot,rfl,hboot,hb,hO⟩
 have HG2 := hid (hO.map (bad' := fun c => idP bs 4 s1 = Except.error c) (good' := fun s => ∃ s2,oneP bs s1 = Except.ok (node,s2) ∧ wideN bs s2 = Except.ok (boot,s)) (fun c h => h.elim id fun ⟨s,h1,h2⟩ => id_e2 h1 h2) (fun s h => h))
 have HV7 := hid (HV6.out.call hb)
 clear hb hO HV6 H1 HG1
 go_upto_region 31 with (refine wpList_store_row rfl 80 (.tmp 12) (.tmp 123) rfl V #[.slice ba bs.length bc,.int .i64 i2,.int .i64 n2,.slice na s.names.length nc,.int .i64 c2] rfl rfl 80 #[.slice ba bs.length bc,.int .i64 i1,.int .i64 n1,.slice na s.names.length nc,.int .i64 c1] HV7.out.vb infoS rfl (by simp [Array.all,Value.oneCell']) ?_)
 have HV8 := hid (HV7.out.rowV #[.slice ba bs.length bc,.int .i64 i2,.int .i64 n2,.slice na s.names.length nc,.int .i64 c2])
 clear HV7
 generalize w7.setRow V #[.slice ba bs.length bc,.int .i64 i2,.int .i64 n2,.slice na s.names.length nc,.int .i64 c2] = w8 at *
 obtain ⟨b,hb1,hb2⟩ : ∃ b : Bool,decide (boot < 4294967296) = b ∧ decide ((boot : Int) < 4294967296) = b := ⟨_,rfl,decide_eq_decide.2 (by omega)⟩
 have HBq := hid (show b = true ↔ ¬ 4294967295 < boot by rw [← hb1]; simp; omega)
 obtain ⟨c3,hc3⟩ : ∃ c : Int,(if b = true then c2 else if c2 = 0 then 73 else c2) = c := ⟨_,rfl⟩
 have HMu : Hid (∀ w,Calls Try.prog 49 #[stV ba bs.length bc i2 n2 na s.names.length nc c2,.bool b] w (RB w (stV ba bs.length bc i2 n2 na s.names.length nc c3))) := hid (fun w => by rw [← hc3]; exact rmust_any ba bs.length bc i2 n2 na s.names.length nc c2 b w)
 have HG3 : Hid (Stt bs s.names i2 n2 c3 (fun c => idP bs 4 s1 = Except.error c) (fun s => ∃ s2,oneP bs s1 = Except.ok (node,s2) ∧ wideN bs s2 = Except.ok (boot,s) ∧ ¬ 4294967295 < boot)) := hid (by rw [← hc3]; exact rmust_st (b := b) (bad' := fun c => idP bs 4 s1 = Except.error c) (good' := fun s => ∃ s2,oneP bs s1 = Except.ok (node,s2) ∧ wideN bs s2 = Except.ok (boot,s) ∧ ¬ 4294967295 < boot) HG2.out (fun c h => h) (fun s hb ⟨s2,h1,h2⟩ => ⟨s2,h1,h2,HBq.out.1 hb⟩) (fun hb s ⟨s2,h1,h2⟩ => id_e3 h1 h2 (by have := HBq.out; rw [hb] at this; simp at this; omega)))
 clear hc3 HBq HG2
 obtain ⟨k0,k1,k2,k3,k4⟩ := FiveAt.of_block HV8.out.vb
 go_wp2_with fail
 clear hb1 hb2 k0 k1 k2 k3 k4
 refine (HMu.out _).mono ?_
 rintro e w9 ⟨rfl,hb⟩
 have HV9 := hid (HV8.out.call hb)
 clear hb HV8 HMu
 go_upto_region 32 with (refine wpList_store_row rfl 80 (.tmp 12) (.tmp 128) rfl V #[.slice ba bs.length bc,.int .i64 i2,.int .i64 n2,.slice na s.names.length nc,.int .i64 c3] rfl rfl 80 #[.slice ba bs.length bc,.int .i64 i2,.int .i64 n2,.slice na s.names.length nc,.int .i64 c2] HV9.out.vb infoS rfl (by simp [Array.all,Value.oneCell']) ?_)
 have HV10 := hid (HV9.out.rowV #[.slice ba bs.length bc,.int .i64 i2,.int .i64 n2,.slice na s.names.length nc,.int .i64 c3])
 clear HV9
 generalize w9.setRow V #[.slice ba bs.length bc,.int .i64 i2,.int .i64 n2,.slice na s.names.length nc,.int .i64 c3] = w10 at *
 have H1 := rwide_st ba bc bs na nc s.names _ _ _ _ _ w10 (H.out.src.below (HN.out ▸ HV10.out.q.below)) (H.out.nms.below (HN.out ▸ HV10.out.q.below)) H.out.len HG3.out
 have H1 := hid H1
 obtain ⟨k0,k1,k2,k3,k4⟩ := FiveAt.of_block HV10.out.vb
 go_wp2_with fail
 clear k0 k1 k2 k3 k4
 refine H1.out.mono ?_
 rintro e w11 ⟨i4,n4,c4,idn,rfl,hidn,hb,hO⟩
 have HG4 := hid (hO.map (bad' := fun c => idP bs 4 s1 = Except.error c) (good' := fun s => ∃ s2 s3,oneP bs s1 = Except.ok (node,s2) ∧ wideN bs s2 = Except.ok (boot,s3) ∧ ¬ 4294967295 < boot ∧ wideN bs s3 = Except.ok (idn,s)) (fun c h => h.elim id fun ⟨s,⟨s2,h1,h2,h3⟩,h4⟩ => id_e4 h1 h2 h3 h4) (fun s ⟨s3,⟨s2,h1,h2,h3⟩,h4⟩ => ⟨s2,s3,h1,h2,h3,h4⟩))
 have HV11 := hid (HV10.out.call hb)
 clear hb hO HV10 H1 HG3
 go_upto_region 33 with (refine wpList_store_row rfl 80 (.tmp 12) (.tmp 132) rfl V #[.slice ba bs.length bc,.int .i64 i4,.int .i64 n4,.slice na s.names.length nc,.int .i64 c4] rfl rfl 80 #[.slice ba bs.length bc,.int .i64 i2,.int .i64 n2,.slice na s.names.length nc,.int .i64 c3] HV11.out.vb infoS rfl (by simp [Array.all,Value.oneCell']) ?_)
 have HV12 := hid (HV11.out.rowV #[.slice ba bs.length bc,.int .i64 i4,.int .i64 n4,.slice na s.names.length nc,.int .i64 c4])
 clear HV11
 generalize w11.setRow V #[.slice ba bs.length bc,.int .i64 i4,.int .i64 n4,.slice na s.names.length nc,.int .i64 c4] = w12 at *
 obtain ⟨k0,k1,k2,k3,k4⟩ := FiveAt.of_block HV12.out.vb
 go_upto_region 34 with (refine wpList_store_row rfl 80 (.tmp 2) (.tmp 134) rfl Xb #[.slice ba bs.length bc,.int .i64 i4,.int .i64 n4,.slice na s.names.length nc,.int .i64 c4] rfl rfl 80 #[.slice ba bs.length bc,.int .i64 (s1.i : Int),.int .i64 (s1.n : Int),.slice na s.names.length nc,.int .i64 0] HV12.out.q.xb infoS rfl (by simp [Array.all,Value.oneCell']) ?_)
 have HQ13 := hid (HV12.out.q.rowX #[.slice ba bs.length bc,.int .i64 i4,.int .i64 n4,.slice na s.names.length nc,.int .i64 c4])
 clear HV12 k0 k1 k2 k3 k4
 generalize w12.setRow Xb #[.slice ba bs.length bc,.int .i64 i4,.int .i64 n4,.slice na s.names.length nc,.int .i64 c4] = w13 at *
 obtain ⟨t0,t1,t2,t3,t4,t5,t6,t7,t8⟩ := NineAt.of_block HQ13.out.tb
 have tf := blk_fz HQ13.out.tb
 have f1 : IntKind.i64.wrap (node : Int) = node := IntWalk.i64_in _ (by omega)
 have HWb := hid (show ¬ 4294967295 < boot → IntKind.u32.wrap (boot : Int) = boot from fun h => by rw [IntKind.wrap_u32]; omega)
 obtain ⟨b32,hwb⟩ : ∃ z : Int,IntKind.u32.wrap (boot : Int) = z := ⟨_,rfl⟩
 rw [hwb] at HWb
 go_upto_region 35 with fail
 clear t0 t1 t2 t3 t4 t5 t6 t7 t8 tf hwb f1
 have HQ14 : Hid (QAt Xb Yb Zb T #[.slice ba bs.length bc,.int .i64 i4,.int .i64 n4,.slice na s.names.length nc,.int .i64 c4] #[.int .i64 4,.int .i64 0,.complex .f64 0 0,.string ⟨#[]⟩,.int .i64 (node : Int),.int .u32 0,.int .u64 0,nilV,nilV] w (w13.setCell ⟨T,4,none⟩ (.int .i64 (node : Int)))) := hid (HQ13.out.cellT (o := 4) (.int .i64 (node : Int)))
 clear HQ13
 generalize w13.setCell ⟨T,4,none⟩ (.int .i64 (node : Int)) = w14 at *
 have HQ15 : Hid (QAt Xb Yb Zb T #[.slice ba bs.length bc,.int .i64 i4,.int .i64 n4,.slice na s.names.length nc,.int .i64 c4] #[.int .i64 4,.int .i64 0,.complex .f64 0 0,.string ⟨#[]⟩,.int .i64 (node : Int),.int .u32 b32,.int .u64 0,nilV,nilV] w (w14.setCell ⟨T,5,none⟩ (.int .u32 b32))) := hid (HQ14.out.cellT (o := 5) (.int .u32 b32))
 clear HQ14
 generalize w14.setCell ⟨T,5,none⟩ (.int .u32 b32) = w15 at *
 have HQ16 : Hid (QAt Xb Yb Zb T #[.slice ba bs.length bc,.int .i64 i4,.int .i64 n4,.slice na s.names.length nc,.int .i64 c4] #[.int .i64 4,.int .i64 0,.complex .f64 0 0,.string ⟨#[]⟩,.int .i64 (node : Int),.int .u32 b32,.int .u64 (idn : Int),nilV,nilV] w (w15.setCell ⟨T,6,none⟩ (.int .u64 (idn : Int)))) := hid (HQ15.out.cellT (o := 6) (.int .u64 (idn : Int)))
 clear HQ15
 generalize w15.setCell ⟨T,6,none⟩ (.int .u64 (idn : Int)) = w16 at *
 obtain ⟨d1,hd1⟩ : ∃ d : Bool,idOk (node : Int) b32 (idn : Int) = d := ⟨_,rfl⟩
 obtain ⟨c5,hc5⟩ : ∃ c : Int,(if d1 = true then c4 else if c4 = 0 then 73 else c4) = c := ⟨_,rfl⟩
 have HRt : Hid (∀ w,Calls Try.prog 34 #[vId (node : Int) b32 (idn : Int)] w (RB w (.bool d1))) := hid (fun w => by rw [← hd1]; exact refid_any (node : Int) b32 (idn : Int) w)
 have HMu : Hid (∀ w,Calls Try.prog 49 #[stV ba bs.length bc i4 n4 na s.names.length nc c4,.bool d1] w (RB w (stV ba bs.length bc i4 n4 na s.names.length nc c5))) := hid (fun w => by rw [← hc5]; exact rmust_any ba bs.length bc i4 n4 na s.names.length nc c4 d1 w)
 have HG5 : Hid (Stt bs s.names i4 n4 c5 (fun c => idP bs 4 s1 = Except.error c) (fun s => b32 = (boot : Int) ∧ idP bs 4 s1 = Except.ok (.mk { kind := (4 : Nat),node := node,boot := boot,idn := idn } [],s))) := hid (by rw [← hc5]; exact rmust_st (b := d1) (bad' := fun c => idP bs 4 s1 = Except.error c) (good' := fun s => b32 = (boot : Int) ∧ idP bs 4 s1 = Except.ok (.mk { kind := (4 : Nat),node := node,boot := boot,idn := idn } [],s)) HG4.out (fun c h => h) (fun s hb ⟨s2,s3,h1,h2,h3,h4⟩ => ⟨HWb.out h3,id_ok h1 h2 h3 h4 (by rw [← HWb.out h3,hd1]; exact hb)⟩) (fun hb s ⟨s2,s3,h1,h2,h3,h4⟩ => id_e5 h1 h2 h3 h4 (by rw [← HWb.out h3,hd1]; exact hb)))
 clear hd1 hc5 HG4 HWb
 obtain ⟨k0,k1,k2,k3,k4⟩ := FiveAt.of_block HQ16.out.xb
 obtain ⟨t0,t1,t2,t3,t4,t5,t6,t7,t8⟩ := NineAt.of_block HQ16.out.tb
 go_region_with (first
  | (refine (HRt.out _).mono ?_; rintro e wr ⟨rfl,hbr⟩; have HQr := hid ((HQ16.out.call (Below.refl _ _).drew).call hbr); clear hbr; obtain ⟨r0,r1,r2,r3,r4⟩ := FiveAt.of_block HQr.out.xb)
  | (refine (HMu.out _).mono ?_; rintro e wm ⟨rfl,hbm⟩; have HQm := hid (HQr.out.call hbm); clear hbm; obtain ⟨m0,m1,m2,m3,m4⟩ := FiveAt.of_block HQm.out.xb; have mf := blk_fz HQm.out.xb))
 all_goals
  clear r0 r1 r2 r3 r4 m0 m1 m2 m3 m4 mf k0 k1 k2 k3 k4 t0 t1 t2 t3 t4 t5 t6 t7 t8
  have HQ17 := hid (HQm.out.fiveX (d0 := .slice ba bs.length bc) (d1 := .int .i64 i4) (d2 := .int .i64 n4) (d3 := .slice na s.names.length nc) (d4 := .int .i64 c5))
  clear HQm HQr HQ16
  simp only [set5] at HQ17
  generalize ((((wm.setCell ⟨Xb,0,none⟩ (.slice ba bs.length bc)).setCell ⟨Xb,1,none⟩ (.int .i64 i4)).setCell ⟨Xb,2,none⟩ (.int .i64 n4)).setCell ⟨Xb,3,none⟩ (.slice na s.names.length nc)).setCell ⟨Xb,4,none⟩ (.int .i64 c5) = w17 at *
  have HPost := hid (show ∀ wb,Below w.heap.size w wb → PartOut w.heap.size na s.names (kindP bs sub 4 s1) i4 n4 na s.names.length nc c5 #[.int .i64 4,.int .i64 0,.complex .f64 0 0,.string ⟨#[]⟩,.int .i64 (node : Int),.int .u32 b32,.int .u64 (idn : Int),nilV,nilV] wb from by
   intro wb hB
   rw [kind4]
   rcases HG5.out with ⟨h1,h2⟩ | ⟨h1,s5,h2,h3,h4,h5,h6,h7,h8⟩
   ·exact .inl ⟨h1,h2⟩
   ·subst h7
    exact .inr ⟨h1,_,s5,h8,h2,h3,by rw [h4],by rw [h4]; exact H.out.nms.below hB,Rep.leaf (h := { kind := (4 : Nat),node := node,boot := boot,idn := idn }) rfl,.inl ⟨rfl,h4⟩⟩)
  clear HG5
  have HX17 := hid HQ17.out.xb
  have HY17 := hid HQ17.out.yb
  have HZ17 := hid HQ17.out.zb
  have HT17 := hid HQ17.out.tb
  have HB17 := hid HQ17.out.below
  obtain ⟨k0,k1,k2,k3,k4⟩ := FiveAt.of_block HX17.out
  go_upto_region 54 with fail
  obtain ⟨k0,k1,k2,k3,k4⟩ := FiveAt.of_block HX17.out
  obtain ⟨t0,t1,t2,t3,t4,t5,t6,t7,t8⟩ := NineAt.of_block HT17.out
  obtain ⟨y0,y1,y2,y3,y4⟩ := FiveAt.of_block HY17.out
  obtain ⟨z0,z1,z2,z3,z4,z5,z6,z7,z8⟩ := NineAt.of_block HZ17.out
  have yf := blk_fz HY17.out
  have zf := blk_fz HZ17.out
  have hT1 : ¬ Yb = T := by omega
  have hT2 : ¬ Zb = T := by omega
  have hT3 : ¬ Yb = Xb := by omega
  have hT4 : ¬ Zb = Xb := by omega
  go_region_held3 (fun w' => w'.cell? ⟨Xb,0,none⟩ = some (.slice ba bs.length bc) ∧ w'.cell? ⟨Xb,1,none⟩ = some (.int .i64 i4) ∧ w'.cell? ⟨Xb,2,none⟩ = some (.int .i64 n4) ∧ w'.cell? ⟨Xb,3,none⟩ = some (.slice na s.names.length nc) ∧ w'.cell? ⟨Xb,4,none⟩ = some (.int .i64 c5) ∧ w'.cell? ⟨T,0,none⟩ = some (.int .i64 4) ∧ w'.cell? ⟨T,1,none⟩ = some (.int .i64 0) ∧ w'.cell? ⟨T,2,none⟩ = some (.complex .f64 0 0) ∧ w'.cell? ⟨T,3,none⟩ = some (.string ⟨#[]⟩) ∧ w'.cell? ⟨T,4,none⟩ = some (.int .i64 (node : Int)) ∧ w'.cell? ⟨T,5,none⟩ = some (.int .u32 b32) ∧ w'.cell? ⟨T,6,none⟩ = some (.int .u64 (idn : Int)) ∧ w'.cell? ⟨T,7,none⟩ = some (nilV) ∧ w'.cell? ⟨T,8,none⟩ = some (nilV)) (go_keep) (fail)
  rename_i hHeld
  clear hHeld hT1 hT2 hT3 hT4 k0 k1 k2 k3 k4 t0 t1 t2 t3 t4 t5 t6 t7 t8 y0 y1 y2 y3 y4 z0 z1 z2 z3 z4 z5 z6 z7 z8 yf zf
  have hYa := five_set HY17.out (d0 := .slice ba bs.length bc) (d1 := .int .i64 i4) (d2 := .int .i64 n4) (d3 := .slice na s.names.length nc) (d4 := .int .i64 c5)
  have hTa := five_turn w17 Yb (.slice ba bs.length bc) (.int .i64 i4) (.int .i64 n4) (.slice na s.names.length nc) (.int .i64 c5)
  have hZa := (hTa.block _ (blk_lt HZ17.out) (by omega)).trans HZ17.out
  have HBa := hid (HB17.out.trans (hTa.below (bsz HN.out HB17.out) (fun i e => by omega)))
  simp only [set5] at hYa hTa hZa HBa
  generalize ((((w17.setCell ⟨Yb,0,none⟩ (.slice ba bs.length bc)).setCell ⟨Yb,1,none⟩ (.int .i64 i4)).setCell ⟨Yb,2,none⟩ (.int .i64 n4)).setCell ⟨Yb,3,none⟩ (.slice na s.names.length nc)).setCell ⟨Yb,4,none⟩ (.int .i64 c5) = wa at *
  have hZb := nine_set hZa (d0 := .int .i64 4) (d1 := .int .i64 0) (d2 := .complex .f64 0 0) (d3 := .string ⟨#[]⟩) (d4 := .int .i64 (node : Int)) (d5 := .int .u32 b32) (d6 := .int .u64 (idn : Int)) (d7 := nilV) (d8 := nilV)
  have hTb := nine_turn wa Zb (.int .i64 4) (.int .i64 0) (.complex .f64 0 0) (.string ⟨#[]⟩) (.int .i64 (node : Int)) (.int .u32 b32) (.int .u64 (idn : Int)) (nilV) (nilV)
  have HYb := hid ((hTb.block _ (blk_lt hYa) (by omega)).trans hYa)
  have HBb := hid (HBa.out.trans (hTb.below (bsz HN.out HBa.out) (fun i e => by omega)))
  have HTab := hid ((hTa.mono (S' := fun i => i = Yb ∨ i = Zb) fun i _ e => .inl e).trans (hTb.mono fun i _ e => .inr e))
  have HZb := hid hZb
  simp only [set9,set5] at HYb HBb HTab HZb
  clear hZb hTb hYa hTa hZa HBa
  generalize ((((((((wa.setCell ⟨Zb,0,none⟩ (.int .i64 4)).setCell ⟨Zb,1,none⟩ (.int .i64 0)).setCell ⟨Zb,2,none⟩ (.complex .f64 0 0)).setCell ⟨Zb,3,none⟩ (.string ⟨#[]⟩)).setCell ⟨Zb,4,none⟩ (.int .i64 (node : Int))).setCell ⟨Zb,5,none⟩ (.int .u32 b32)).setCell ⟨Zb,6,none⟩ (.int .u64 (idn : Int))).setCell ⟨Zb,7,none⟩ (nilV)).setCell ⟨Zb,8,none⟩ (nilV) = wb at *
  obtain ⟨y0,y1,y2,y3,y4⟩ := FiveAt.of_block HYb.out
  obtain ⟨z0,z1,z2,z3,z4,z5,z6,z7,z8⟩ := NineAt.of_block HZb.out
  go_wp2_with fail
  exact bodyPost_ret (v := .tuple #[.agg #[.slice ba bs.length bc,.int .i64 i4,.int .i64 n4,.slice na s.names.length nc,.int .i64 c5],.agg #[.int .i64 4,.int .i64 0,.complex .f64 0 0,.string ⟨#[]⟩,.int .i64 (node : Int),.int .u32 b32,.int .u64 (idn : Int),nilV,nilV]]) (by simp [results,Try.results32,go_sem,y0,y1,y2,y3,y4,z0,z1,z2,z3,z4,z5,z6,z7,z8]) rfl (rpt_back (HN.out ▸ HBb.out.drew) (HPost.out _ (HN.out ▸ HBb.out.drew)))
set_option maxHeartbeats 4000000 in
theorem rq5 (ba : Option Addr) (bc : Nat) (bs : List UInt8) (s s1 : St) (sub : Rd Tm) (na : Option Addr) (nc : Nat) (d : Int) (hd : d ≤ 24) (w : World) (h : RfAt w ba bc bs s na nc) (hn : s.n + 1 ≤ 4096) (ho : oneP bs { s with n := s.n + 1 } = .ok (5,s1)) (hnm : s.names.length ≤ s.n) :
  Calls Try.prog 32 #[stV ba bs.length bc s.i s.n na s.names.length nc 0,.int .i64 d] w (RPT ba bs.length bc na s.names w (kindP bs sub 5 s1)) := by
 have H := hid h
 have HO := hid ho
 have HS1 := hid (oneP_ok ho).2
 have HN1 := hid (show s1.n = s.n + 1 by rw [HS1.out.1])
 have HNM1 := hid (show s1.names = s.names by rw [HS1.out.1])
 have HI1 := hid (show s1.i ≤ bs.length by rw [HS1.out.1]; exact HS1.out.2)
 have hn' : (s.n : Int) + 1 ≤ 4096 := by omega
 have HNm := hid hnm
 clear h ho hnm
 go_enter Try.func32,Try.ntmps32
 go_wp2_with fail
 obtain ⟨hX1,hY1,hZ1,hB1⟩ := heap_new3 (w := w) (o1 := .cells #[.slice ba bs.length bc,.int .i64 (s.i : Int),.int .i64 ((s.n : Int) + 1),.slice na s.names.length nc,.int .i64 0] 80) (o2 := .cells #[nilV,.int .i64 0,.int .i64 0,nilV,.int .i64 0] 80) (o3 := .cells #[.int .i64 0,.int .i64 0,.complex .f64 0 0,.string ⟨#[]⟩,.int .i64 0,.int .u32 0,.int .u64 0,nilV,nilV] 31)
 have HX1 := hid hX1
 have HY1 := hid hY1
 have HZ1 := hid hZ1
 have HB1 := hid hB1
 clear hX1 hY1 hZ1 hB1
 generalize ((w.alloc (.cells #[.slice ba bs.length bc,.int .i64 (s.i : Int),.int .i64 ((s.n : Int) + 1),.slice na s.names.length nc,.int .i64 0] 80)).alloc (.cells #[nilV,.int .i64 0,.int .i64 0,nilV,.int .i64 0] 80)).alloc (.cells #[.int .i64 0,.int .i64 0,.complex .f64 0 0,.string ⟨#[]⟩,.int .i64 0,.int .u32 0,.int .u64 0,nilV,nilV] 31) = w1 at *
 have hXY : w.heap.size < w.heap.size + 1 := by omega
 have hYZ : w.heap.size + 1 < w.heap.size + 1 + 1 := by omega
 generalize w.heap.size + 1 + 1 = Zb at *
 generalize w.heap.size + 1 = Yb at *
 obtain ⟨Xb,hXb⟩ : ∃ X,w.heap.size = X := ⟨_,rfl⟩
 rw [hXb] at HX1 HB1 hXY ⊢
 have HN := hid hXb
 have HRf1 := hid (show RfAt w1 ba bc bs { s with n := s.n + 1 } na nc from ⟨H.out.src.below (HN.out ▸ HB1.out),H.out.nms.below (HN.out ▸ HB1.out),H.out.len,H.out.ile,by show s.n + 1 ≤ 4097; omega⟩)
 have H1 := rone_any ba bc bs { s with n := s.n + 1 } na nc w1 HRf1.out
 rw [HO.out] at H1
 clear hXb
 refine H1.mono ?_
 rintro e w2 ⟨rfl,hb⟩
 clear H1 HRf1
 have HX2 := hid ((hb.block _ (blk_lt HX1.out)).trans HX1.out)
 have HY2 := hid ((hb.block _ (blk_lt HY1.out)).trans HY1.out)
 have HZ2 := hid ((hb.block _ (blk_lt HZ1.out)).trans HZ1.out)
 have HB2 := hid (HB1.out.trans (hb.mono (bsz HN.out HB1.out)))
 clear hb HB1 HX1 HY1 HZ1
 obtain ⟨k0,k1,k2,k3,k4⟩ := FiveAt.of_block HX2.out
 have kf := blk_fz HX2.out
 go_upto_region 7 with fail
 clear k0 k1 k2 k3 k4 kf
 have HX3 := hid (five_set HX2.out (d0 := .slice ba bs.length bc) (d1 := .int .i64 (s1.i : Int)) (d2 := .int .i64 (s1.n : Int)) (d3 := .slice na s.names.length nc) (d4 := .int .i64 0))
 have hTs := five_turn w2 (Xb) (.slice ba bs.length bc) (.int .i64 (s1.i : Int)) (.int .i64 (s1.n : Int)) (.slice na s.names.length nc) (.int .i64 0)
 have HY3 := hid ((hTs.block (Yb) (blk_lt HY2.out) (by omega)).trans HY2.out)
 have HZ3 := hid ((hTs.block (Zb) (blk_lt HZ2.out) (by omega)).trans HZ2.out)
 have HB3 := hid (HB2.out.trans (hTs.below (bsz HN.out HB2.out) (fun i e => by omega)))
 clear hTs HB2 HX2 HY2 HZ2
 simp only [set5] at HX3 HY3 HZ3 HB3
 generalize ((((w2.setCell ⟨Xb,0,none⟩ (.slice ba bs.length bc)).setCell ⟨Xb,1,none⟩ (.int .i64 (s1.i : Int))).setCell ⟨Xb,2,none⟩ (.int .i64 (s1.n : Int))).setCell ⟨Xb,3,none⟩ (.slice na s.names.length nc)).setCell ⟨Xb,4,none⟩ (.int .i64 0) = w3 at *
 have hT := Below.heap_alloc w3 (.cells #[.int .i64 5,.int .i64 0,.complex .f64 0 0,.string ⟨#[]⟩,.int .i64 0,.int .u32 0,.int .u64 0,nilV,nilV] 31)
 have HX4 := hid ((hT _ (blk_lt HX3.out)).trans HX3.out)
 have HY4 := hid ((hT _ (blk_lt HY3.out)).trans HY3.out)
 have HZ4 := hid ((hT _ (blk_lt HZ3.out)).trans HZ3.out)
 have HT4 := hid (heap_new w3 (.cells #[.int .i64 5,.int .i64 0,.complex .f64 0 0,.string ⟨#[]⟩,.int .i64 0,.int .u32 0,.int .u64 0,nilV,nilV] 31))
 have HB4 := hid (HB3.out.alloc (bsz HN.out HB3.out) (.cells #[.int .i64 5,.int .i64 0,.complex .f64 0 0,.string ⟨#[]⟩,.int .i64 0,.int .u32 0,.int .u64 0,nilV,nilV] 31))
 have hTN : Zb < w3.heap.size := blk_lt HZ3.out
 obtain ⟨k0,k1,k2,k3,k4⟩ := FiveAt.of_block HX4.out
 go_wp2_with fail
 clear hT HX3 HY3 HZ3 HB3 k0 k1 k2 k3 k4
 generalize w3.alloc (.cells #[.int .i64 5,.int .i64 0,.complex .f64 0 0,.string ⟨#[]⟩,.int .i64 0,.int .u32 0,.int .u64 0,nilV,nilV] 31) = w4 at *
 generalize w3.heap.size = T at *
 have HRf := hid (show RfAt w4 ba bc bs s1 na nc from ⟨H.out.src.below (HN.out ▸ HB4.out),by rw [HNM1.out]; exact H.out.nms.below (HN.out ▸ HB4.out),H.out.len,HI1.out,by rw [HN1.out]; omega⟩)
 have H1 := rone_st ba bc bs na nc s1 w4 HRf.out
 rw [HNM1.out] at H1
 have H1 := hid H1
 have HQ := hid (show QAt Xb Yb Zb T #[.slice ba bs.length bc,.int .i64 (s1.i : Int),.int .i64 (s1.n : Int),.slice na s.names.length nc,.int .i64 0] #[.int .i64 5,.int .i64 0,.complex .f64 0 0,.string ⟨#[]⟩,.int .i64 0,.int .u32 0,.int .u64 0,nilV,nilV] w w4 from ⟨HX4.out,HY4.out,HZ4.out,HT4.out,HB4.out,hXY,hYZ,hTN⟩)
 clear HRf HX4 HY4 HZ4 HT4 HB4
 refine H1.out.mono ?_
 rintro e w5 ⟨i1,n1,c1,node,rfl,hnode,hb,hO⟩
 have HG1 := hid (hO.map (bad' := fun c => idP bs 5 s1 = Except.error c) (fun c h => id_e1 h) (fun s h => h))
 have HQ5 := hid (HQ.out.call hb)
 clear hb hO HQ H1
 have HV6 := hid (HQ5.out.newV #[.slice ba bs.length bc,.int .i64 i1,.int .i64 n1,.slice na s.names.length nc,.int .i64 c1])
 go_upto_region 30 with fail
 clear HQ5
 generalize w5.alloc (.cells #[.slice ba bs.length bc,.int .i64 i1,.int .i64 n1,.slice na s.names.length nc,.int .i64 c1] 80) = w6 at *
 generalize w5.heap.size = V at *
 have H1 := rwide_st ba bc bs na nc s.names _ _ _ _ _ w6 (H.out.src.below (HN.out ▸ HV6.out.q.below)) (H.out.nms.below (HN.out ▸ HV6.out.q.below)) H.out.len HG1.out
 have H1 := hid H1
 obtain ⟨k0,k1,k2,k3,k4⟩ := FiveAt.of_block HV6.out.vb
 go_wp2_with fail
 clear k0 k1 k2 k3 k4
 refine H1.out.mono ?_
 rintro e w7 ⟨i2,n2,c2,boot,rfl,hboot,hb,hO⟩
 have HG2 := hid (hO.map (bad' := fun c => idP bs 5 s1 = Except.error c) (good' := fun s => ∃ s2,oneP bs s1 = Except.ok (node,s2) ∧ wideN bs s2 = Except.ok (boot,s)) (fun c h => h.elim id fun ⟨s,h1,h2⟩ => id_e2 h1 h2) (fun s h => h))
 have HV7 := hid (HV6.out.call hb)
 clear hb hO HV6 H1 HG1
 go_upto_region 31 with (refine wpList_store_row rfl 80 (.tmp 12) (.tmp 123) rfl V #[.slice ba bs.length bc,.int .i64 i2,.int .i64 n2,.slice na s.names.length nc,.int .i64 c2] rfl rfl 80 #[.slice ba bs.length bc,.int .i64 i1,.int .i64 n1,.slice na s.names.length nc,.int .i64 c1] HV7.out.vb infoS rfl (by simp [Array.all,Value.oneCell']) ?_)
 have HV8 := hid (HV7.out.rowV #[.slice ba bs.length bc,.int .i64 i2,.int .i64 n2,.slice na s.names.length nc,.int .i64 c2])
 clear HV7
 generalize w7.setRow V #[.slice ba bs.length bc,.int .i64 i2,.int .i64 n2,.slice na s.names.length nc,.int .i64 c2] = w8 at *
 obtain ⟨b,hb1,hb2⟩ : ∃ b : Bool,decide (boot < 4294967296) = b ∧ decide ((boot : Int) < 4294967296) = b := ⟨_,rfl,decide_eq_decide.2 (by omega)⟩
 have HBq := hid (show b = true ↔ ¬ 4294967295 < boot by rw [← hb1]; simp; omega)
 obtain ⟨c3,hc3⟩ : ∃ c : Int,(if b = true then c2 else if c2 = 0 then 73 else c2) = c := ⟨_,rfl⟩
 have HMu : Hid (∀ w,Calls Try.prog 49 #[stV ba bs.length bc i2 n2 na s.names.length nc c2,.bool b] w (RB w (stV ba bs.length bc i2 n2 na s.names.length nc c3))) := hid (fun w => by rw [← hc3]; exact rmust_any ba bs.length bc i2 n2 na s.names.length nc c2 b w)
 have HG3 : Hid (Stt bs s.names i2 n2 c3 (fun c => idP bs 5 s1 = Except.error c) (fun s => ∃ s2,oneP bs s1 = Except.ok (node,s2) ∧ wideN bs s2 = Except.ok (boot,s) ∧ ¬ 4294967295 < boot)) := hid (by rw [← hc3]; exact rmust_st (b := b) (bad' := fun c => idP bs 5 s1 = Except.error c) (good' := fun s => ∃ s2,oneP bs s1 = Except.ok (node,s2) ∧ wideN bs s2 = Except.ok (boot,s) ∧ ¬ 4294967295 < boot) HG2.out (fun c h => h) (fun s hb ⟨s2,h1,h2⟩ => ⟨s2,h1,h2,HBq.out.1 hb⟩) (fun hb s ⟨s2,h1,h2⟩ => id_e3 h1 h2 (by have := HBq.out; rw [hb] at this; simp at this; omega)))
 clear hc3 HBq HG2
 obtain ⟨k0,k1,k2,k3,k4⟩ := FiveAt.of_block HV8.out.vb
 go_wp2_with fail
 clear hb1 hb2 k0 k1 k2 k3 k4
 refine (HMu.out _).mono ?_
 rintro e w9 ⟨rfl,hb⟩
 have HV9 := hid (HV8.out.call hb)
 clear hb HV8 HMu
 go_upto_region 32 with (refine wpList_store_row rfl 80 (.tmp 12) (.tmp 128) rfl V #[.slice ba bs.length bc,.int .i64 i2,.int .i64 n2,.slice na s.names.length nc,.int .i64 c3] rfl rfl 80 #[.slice ba bs.length bc,.int .i64 i2,.int .i64 n2,.slice na s.names.length nc,.int .i64 c2] HV9.out.vb infoS rfl (by simp [Array.all,Value.oneCell']) ?_)
 have HV10 := hid (HV9.out.rowV #[.slice ba bs.length bc,.int .i64 i2,.int .i64 n2,.slice na s.names.length nc,.int .i64 c3])
 clear HV9
 generalize w9.setRow V #[.slice ba bs.length bc,.int .i64 i2,.int .i64 n2,.slice na s.names.length nc,.int .i64 c3] = w10 at *
 have H1 := rwide_st ba bc bs na nc s.names _ _ _ _ _ w10 (H.out.src.below (HN.out ▸ HV10.out.q.below)) (H.out.nms.below (HN.out ▸ HV10.out.q.below)) H.out.len HG3.out
 have H1 := hid H1
 obtain ⟨k0,k1,k2,k3,k4⟩ := FiveAt.of_block HV10.out.vb
 go_wp2_with fail
 clear k0 k1 k2 k3 k4
 refine H1.out.mono ?_
 rintro e w11 ⟨i4,n4,c4,idn,rfl,hidn,hb,hO⟩
 have HG4 := hid (hO.map (bad' := fun c => idP bs 5 s1 = Except.error c) (good' := fun s => ∃ s2 s3,oneP bs s1 = Except.ok (node,s2) ∧ wideN bs s2 = Except.ok (boot,s3) ∧ ¬ 4294967295 < boot ∧ wideN bs s3 = Except.ok (idn,s)) (fun c h => h.elim id fun ⟨s,⟨s2,h1,h2,h3⟩,h4⟩ => id_e4 h1 h2 h3 h4) (fun s ⟨s3,⟨s2,h1,h2,h3⟩,h4⟩ => ⟨s2,s3,h1,h2,h3,h4⟩))
 have HV11 := hid (HV10.out.call hb)
 clear hb hO HV10 H1 HG3
 go_upto_region 33 with (refine wpList_store_row rfl 80 (.tmp 12) (.tmp 132) rfl V #[.slice ba bs.length bc,.int .i64 i4,.int .i64 n4,.slice na s.names.length nc,.int .i64 c4] rfl rfl 80 #[.slice ba bs.length bc,.int .i64 i2,.int .i64 n2,.slice na s.names.length nc,.int .i64 c3] HV11.out.vb infoS rfl (by simp [Array.all,Value.oneCell']) ?_)
 have HV12 := hid (HV11.out.rowV #[.slice ba bs.length bc,.int .i64 i4,.int .i64 n4,.slice na s.names.length nc,.int .i64 c4])
 clear HV11
 generalize w11.setRow V #[.slice ba bs.length bc,.int .i64 i4,.int .i64 n4,.slice na s.names.length nc,.int .i64 c4] = w12 at *
 obtain ⟨k0,k1,k2,k3,k4⟩ := FiveAt.of_block HV12.out.vb
 go_upto_region 34 with (refine wpList_store_row rfl 80 (.tmp 2) (.tmp 134) rfl Xb #[.slice ba bs.length bc,.int .i64 i4,.int .i64 n4,.slice na s.names.length nc,.int .i64 c4] rfl rfl 80 #[.slice ba bs.length bc,.int .i64 (s1.i : Int),.int .i64 (s1.n : Int),.slice na s.names.length nc,.int .i64 0] HV12.out.q.xb infoS rfl (by simp [Array.all,Value.oneCell']) ?_)
 have HQ13 := hid (HV12.out.q.rowX #[.slice ba bs.length bc,.int .i64 i4,.int .i64 n4,.slice na s.names.length nc,.int .i64 c4])
 clear HV12 k0 k1 k2 k3 k4
 generalize w12.setRow Xb #[.slice ba bs.length bc,.int .i64 i4,.int .i64 n4,.slice na s.names.length nc,.int .i64 c4] = w13 at *
 obtain ⟨t0,t1,t2,t3,t4,t5,t6,t7,t8⟩ := NineAt.of_block HQ13.out.tb
 have tf := blk_fz HQ13.out.tb
 have f1 : IntKind.i64.wrap (node : Int) = node := IntWalk.i64_in _ (by omega)
 have HWb := hid (show ¬ 4294967295 < boot → IntKind.u32.wrap (boot : Int) = boot from fun h => by rw [IntKind.wrap_u32]; omega)
 obtain ⟨b32,hwb⟩ : ∃ z : Int,IntKind.u32.wrap (boot : Int) = z := ⟨_,rfl⟩
 rw [hwb] at HWb
 go_upto_region 35 with fail
 clear t0 t1 t2 t3 t4 t5 t6 t7 t8 tf hwb f1
 have HQ14 : Hid (QAt Xb Yb Zb T #[.slice ba bs.length bc,.int .i64 i4,.int .i64 n4,.slice na s.names.length nc,.int .i64 c4] #[.int .i64 5,.int .i64 0,.complex .f64 0 0,.string ⟨#[]⟩,.int .i64 (node : Int),.int .u32 0,.int .u64 0,nilV,nilV] w (w13.setCell ⟨T,4,none⟩ (.int .i64 (node : Int)))) := hid (HQ13.out.cellT (o := 4) (.int .i64 (node : Int)))
 clear HQ13
 generalize w13.setCell ⟨T,4,none⟩ (.int .i64 (node : Int)) = w14 at *
 have HQ15 : Hid (QAt Xb Yb Zb T #[.slice ba bs.length bc,.int .i64 i4,.int .i64 n4,.slice na s.names.length nc,.int .i64 c4] #[.int .i64 5,.int .i64 0,.complex .f64 0 0,.string ⟨#[]⟩,.int .i64 (node : Int),.int .u32 b32,.int .u64 0,nilV,nilV] w (w14.setCell ⟨T,5,none⟩ (.int .u32 b32))) := hid (HQ14.out.cellT (o := 5) (.int .u32 b32))
 clear HQ14
 generalize w14.setCell ⟨T,5,none⟩ (.int .u32 b32) = w15 at *
 have HQ16 : Hid (QAt Xb Yb Zb T #[.slice ba bs.length bc,.int .i64 i4,.int .i64 n4,.slice na s.names.length nc,.int .i64 c4] #[.int .i64 5,.int .i64 0,.complex .f64 0 0,.string ⟨#[]⟩,.int .i64 (node : Int),.int .u32 b32,.int .u64 (idn : Int),nilV,nilV] w (w15.setCell ⟨T,6,none⟩ (.int .u64 (idn : Int)))) := hid (HQ15.out.cellT (o := 6) (.int .u64 (idn : Int)))
 clear HQ15
 generalize w15.setCell ⟨T,6,none⟩ (.int .u64 (idn : Int)) = w16 at *
 obtain ⟨d1,hd1⟩ : ∃ d : Bool,idOk (node : Int) b32 (idn : Int) = d := ⟨_,rfl⟩
 obtain ⟨c5,hc5⟩ : ∃ c : Int,(if d1 = true then c4 else if c4 = 0 then 73 else c4) = c := ⟨_,rfl⟩
 have HRt : Hid (∀ w,Calls Try.prog 34 #[vId (node : Int) b32 (idn : Int)] w (RB w (.bool d1))) := hid (fun w => by rw [← hd1]; exact refid_any (node : Int) b32 (idn : Int) w)
 have HMu : Hid (∀ w,Calls Try.prog 49 #[stV ba bs.length bc i4 n4 na s.names.length nc c4,.bool d1] w (RB w (stV ba bs.length bc i4 n4 na s.names.length nc c5))) := hid (fun w => by rw [← hc5]; exact rmust_any ba bs.length bc i4 n4 na s.names.length nc c4 d1 w)
 have HG5 : Hid (Stt bs s.names i4 n4 c5 (fun c => idP bs 5 s1 = Except.error c) (fun s => b32 = (boot : Int) ∧ idP bs 5 s1 = Except.ok (.mk { kind := (5 : Nat),node := node,boot := boot,idn := idn } [],s))) := hid (by rw [← hc5]; exact rmust_st (b := d1) (bad' := fun c => idP bs 5 s1 = Except.error c) (good' := fun s => b32 = (boot : Int) ∧ idP bs 5 s1 = Except.ok (.mk { kind := (5 : Nat),node := node,boot := boot,idn := idn } [],s)) HG4.out (fun c h => h) (fun s hb ⟨s2,s3,h1,h2,h3,h4⟩ => ⟨HWb.out h3,id_ok h1 h2 h3 h4 (by rw [← HWb.out h3,hd1]; exact hb)⟩) (fun hb s ⟨s2,s3,h1,h2,h3,h4⟩ => id_e5 h1 h2 h3 h4 (by rw [← HWb.out h3,hd1]; exact hb)))
 clear hd1 hc5 HG4 HWb
 obtain ⟨k0,k1,k2,k3,k4⟩ := FiveAt.of_block HQ16.out.xb
 obtain ⟨t0,t1,t2,t3,t4,t5,t6,t7,t8⟩ := NineAt.of_block HQ16.out.tb
 go_region_with (first
  | (refine (HRt.out _).mono ?_; rintro e wr ⟨rfl,hbr⟩; have HQr := hid ((HQ16.out.call (Below.refl _ _).drew).call hbr); clear hbr; obtain ⟨r0,r1,r2,r3,r4⟩ := FiveAt.of_block HQr.out.xb)
  | (refine (HMu.out _).mono ?_; rintro e wm ⟨rfl,hbm⟩; have HQm := hid (HQr.out.call hbm); clear hbm; obtain ⟨m0,m1,m2,m3,m4⟩ := FiveAt.of_block HQm.out.xb; have mf := blk_fz HQm.out.xb))
 all_goals
  clear r0 r1 r2 r3 r4 m0 m1 m2 m3 m4 mf k0 k1 k2 k3 k4 t0 t1 t2 t3 t4 t5 t6 t7 t8
  have HQ17 := hid (HQm.out.fiveX (d0 := .slice ba bs.length bc) (d1 := .int .i64 i4) (d2 := .int .i64 n4) (d3 := .slice na s.names.length nc) (d4 := .int .i64 c5))
  clear HQm HQr HQ16
  simp only [set5] at HQ17
  generalize ((((wm.setCell ⟨Xb,0,none⟩ (.slice ba bs.length bc)).setCell ⟨Xb,1,none⟩ (.int .i64 i4)).setCell ⟨Xb,2,none⟩ (.int .i64 n4)).setCell ⟨Xb,3,none⟩ (.slice na s.names.length nc)).setCell ⟨Xb,4,none⟩ (.int .i64 c5) = w17 at *
  have HPost := hid (show ∀ wb,Below w.heap.size w wb → PartOut w.heap.size na s.names (kindP bs sub 5 s1) i4 n4 na s.names.length nc c5 #[.int .i64 5,.int .i64 0,.complex .f64 0 0,.string ⟨#[]⟩,.int .i64 (node : Int),.int .u32 b32,.int .u64 (idn : Int),nilV,nilV] wb from by
   intro wb hB
   rw [kind5]
   rcases HG5.out with ⟨h1,h2⟩ | ⟨h1,s5,h2,h3,h4,h5,h6,h7,h8⟩
   ·exact .inl ⟨h1,h2⟩
   ·subst h7
    exact .inr ⟨h1,_,s5,h8,h2,h3,by rw [h4],by rw [h4]; exact H.out.nms.below hB,Rep.leaf (h := { kind := (5 : Nat),node := node,boot := boot,idn := idn }) rfl,.inl ⟨rfl,h4⟩⟩)
  clear HG5
  have HX17 := hid HQ17.out.xb
  have HY17 := hid HQ17.out.yb
  have HZ17 := hid HQ17.out.zb
  have HT17 := hid HQ17.out.tb
  have HB17 := hid HQ17.out.below
  obtain ⟨k0,k1,k2,k3,k4⟩ := FiveAt.of_block HX17.out
  go_upto_region 54 with fail
  obtain ⟨k0,k1,k2,k3,k4⟩ := FiveAt.of_block HX17.out
  obtain ⟨t0,t1,t2,t3,t4,t5,t6,t7,t8⟩ := NineAt.of_block HT17.out
  obtain ⟨y0,y1,y2,y3,y4⟩ := FiveAt.of_block HY17.out
  obtain ⟨z0,z1,z2,z3,z4,z5,z6,z7,z8⟩ := NineAt.of_block HZ17.out
  have yf := blk_fz HY17.out
  have zf := blk_fz HZ17.out
  have hT1 : ¬ Yb = T := by omega
  have hT2 : ¬ Zb = T := by omega
  have hT3 : ¬ Yb = Xb := by omega
  have hT4 : ¬ Zb = Xb := by omega
  go_region_held3 (fun w' => w'.cell? ⟨Xb,0,none⟩ = some (.slice ba bs.length bc) ∧ w'.cell? ⟨Xb,1,none⟩ = some (.int .i64 i4) ∧ w'.cell? ⟨Xb,2,none⟩ = some (.int .i64 n4) ∧ w'.cell? ⟨Xb,3,none⟩ = some (.slice na s.names.length nc) ∧ w'.cell? ⟨Xb,4,none⟩ = some (.int .i64 c5) ∧ w'.cell? ⟨T,0,none⟩ = some (.int .i64 5) ∧ w'.cell? ⟨T,1,none⟩ = some (.int .i64 0) ∧ w'.cell? ⟨T,2,none⟩ = some (.complex .f64 0 0) ∧ w'.cell? ⟨T,3,none⟩ = some (.string ⟨#[]⟩) ∧ w'.cell? ⟨T,4,none⟩ = some (.int .i64 (node : Int)) ∧ w'.cell? ⟨T,5,none⟩ = some (.int .u32 b32) ∧ w'.cell? ⟨T,6,none⟩ = some (.int .u64 (idn : Int)) ∧ w'.cell? ⟨T,7,none⟩ = some (nilV) ∧ w'.cell? ⟨T,8,none⟩ = some (nilV)) (go_keep) (fail)
  rename_i hHeld
  clear hHeld hT1 hT2 hT3 hT4 k0 k1 k2 k3 k4 t0 t1 t2 t3 t4 t5 t6 t7 t8 y0 y1 y2 y3 y4 z0 z1 z2 z3 z4 z5 z6 z7 z8 yf zf
  have hYa := five_set HY17.out (d0 := .slice ba bs.length bc) (d1 := .int .i64 i4) (d2 := .int .i64 n4) (d3 := .slice na s.names.length nc) (d4 := .int .i64 c5)
  have hTa := five_turn w17 Yb (.slice ba bs.length bc) (.int .i64 i4) (.int .i64 n4) (.slice na s.names.length nc) (.int .i64 c5)
  have hZa := (hTa.block _ (blk_lt HZ17.out) (by omega)).trans HZ17.out
  have HBa := hid (HB17.out.trans (hTa.below (bsz HN.out HB17.out) (fun i e => by omega)))
  simp only [set5] at hYa hTa hZa HBa
  generalize ((((w17.setCell ⟨Yb,0,none⟩ (.slice ba bs.length bc)).setCell ⟨Yb,1,none⟩ (.int .i64 i4)).setCell ⟨Yb,2,none⟩ (.int .i64 n4)).setCell ⟨Yb,3,none⟩ (.slice na s.names.length nc)).setCell ⟨Yb,4,none⟩ (.int .i64 c5) = wa at *
  have hZb := nine_set hZa (d0 := .int .i64 5) (d1 := .int .i64 0) (d2 := .complex .f64 0 0) (d3 := .string ⟨#[]⟩) (d4 := .int .i64 (node : Int)) (d5 := .int .u32 b32) (d6 := .int .u64 (idn : Int)) (d7 := nilV) (d8 := nilV)
  have hTb := nine_turn wa Zb (.int .i64 5) (.int .i64 0) (.complex .f64 0 0) (.string ⟨#[]⟩) (.int .i64 (node : Int)) (.int .u32 b32) (.int .u64 (idn : Int)) (nilV) (nilV)
  have HYb := hid ((hTb.block _ (blk_lt hYa) (by omega)).trans hYa)
  have HBb := hid (HBa.out.trans (hTb.below (bsz HN.out HBa.out) (fun i e => by omega)))
  have HTab := hid ((hTa.mono (S' := fun i => i = Yb ∨ i = Zb) fun i _ e => .inl e).trans (hTb.mono fun i _ e => .inr e))
  have HZb := hid hZb
  simp only [set9,set5] at HYb HBb HTab HZb
  clear hZb hTb hYa hTa hZa HBa
  generalize ((((((((wa.setCell ⟨Zb,0,none⟩ (.int .i64 5)).setCell ⟨Zb,1,none⟩ (.int .i64 0)).setCell ⟨Zb,2,none⟩ (.complex .f64 0 0)).setCell ⟨Zb,3,none⟩ (.string ⟨#[]⟩)).setCell ⟨Zb,4,none⟩ (.int .i64 (node : Int))).setCell ⟨Zb,5,none⟩ (.int .u32 b32)).setCell ⟨Zb,6,none⟩ (.int .u64 (idn : Int))).setCell ⟨Zb,7,none⟩ (nilV)).setCell ⟨Zb,8,none⟩ (nilV) = wb at *
  obtain ⟨y0,y1,y2,y3,y4⟩ := FiveAt.of_block HYb.out
  obtain ⟨z0,z1,z2,z3,z4,z5,z6,z7,z8⟩ := NineAt.of_block HZb.out
  go_wp2_with fail
  exact bodyPost_ret (v := .tuple #[.agg #[.slice ba bs.length bc,.int .i64 i4,.int .i64 n4,.slice na s.names.length nc,.int .i64 c5],.agg #[.int .i64 5,.int .i64 0,.complex .f64 0 0,.string ⟨#[]⟩,.int .i64 (node : Int),.int .u32 b32,.int .u64 (idn : Int),nilV,nilV]]) (by simp [results,Try.results32,go_sem,y0,y1,y2,y3,y4,z0,z1,z2,z3,z4,z5,z6,z7,z8]) rfl (rpt_back (HN.out ▸ HBb.out.drew) (HPost.out _ (HN.out ▸ HBb.out.drew)))
end Go.Proofs.Ytgadkiljnebicaa
namespace Go.Proofs.Ytgadkiljnebicaa
open Go.Lib (hid)
open Go.RowKit
set_option maxRecDepth 100000
theorem slice8_to (g n c : Nat) (h : 8 ≤ c) (w : World) : (Instr.slice 22 (.slice (some ⟨g,0,none⟩) n c) none (some (.int .i64 8)) none).run Try.prog w = .ok (.slice (some ⟨g,0,none⟩) 8 c) w := by
 rw [run_slice_h (w := w) 22 (some ⟨g,0,none⟩) n c (by kernel_rfl) .i64 8 (by omega) (by omega),show Try.prog.elem 22 = 5 from by kernel_rfl,Try.sizeOf5]
 simp [Result.andThen,sliced,Addr.add]
theorem slice8_from (g n c : Nat) (hn : n = 16) (h : 16 ≤ c) (w : World) : (Instr.slice 22 (.slice (some ⟨g,0,none⟩) n c) (some (.int .i64 8)) none none).run Try.prog w = .ok (.slice (some ⟨g,8,none⟩) 8 (c - 8)) w := by
 subst hn
 rw [run_slice_l (w := w) 22 (some ⟨g,0,none⟩) 16 c (by kernel_rfl) .i64 8 (by omega) (by omega),show Try.prog.elem 22 = 5 from by kernel_rfl,Try.sizeOf5]
 have hc3 : ¬ c = 8 := by omega
 simp [Result.andThen,sliced,hc3,Addr.add_lit]
theorem sl16 {w : World} {g c : Nat} {l : List UInt8} (h : Sl w (.slice (some ⟨g,0,none⟩) l.length c) (l.map cellB)) (hl : l.length = 16) :
  Sl w (.slice (some ⟨g,0,none⟩) 8 c) ((l.take 8).map cellB) ∧ Sl w (.slice (some ⟨g,8,none⟩) 8 (c - 8)) ((l.drop 8).map cellB) := by
 obtain ⟨a,c',hv,hm,hc⟩ := h
 obtain ⟨b,off,ha,hcell⟩ := hc (by simp [hl])
 subst ha
 have hv2 : (some ⟨g,0,none⟩ : Option Addr) = some ⟨b,off,none⟩ := by injection hv
 cases hv2
 refine ⟨⟨some ⟨g,0,none⟩,c,by simp; omega,by simp; omega,fun _ => ⟨g,0,rfl,fun j hj => ?_⟩⟩,⟨some ⟨g,8,none⟩,c - 8,by simp; omega,by simp; omega,fun _ => ⟨g,8,rfl,fun j hj => ?_⟩⟩⟩
 ·simp at hj
  rw [hcell j (by simp; omega)]
  simp
 ·simp at hj
  have := hcell (8 + j) (by simp; omega)
  simp only [Nat.zero_add] at this
  rw [this]
  simp
theorem row_open {w : World} {B e n c : Nat} {a : Option Addr} {xs : List Value} (h : w.ownsRow B e 1 (.slice a n c) n xs) (hn : 0 < n) : ∃ g,a = some ⟨g,0,none⟩ ∧ B ≤ g ∧ n ≤ c := by
 rcases h.2 with ⟨h1,h2⟩ | ⟨g,cap,cur,hv,hb,_,hnc,_⟩
 ·omega
 ·cases hv
  exact ⟨g,rfl,hb,hnc⟩
end Go.Proofs.Ytgadkiljnebicaa
