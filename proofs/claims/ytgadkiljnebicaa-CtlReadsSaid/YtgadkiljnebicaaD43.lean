/- Several texts in one. -/
import Derived.Test.YtgadkiljnebicaaD39
import Derived.Test.YtgadkiljnebicaaD42
import Derived.Test.YtgadkiljnebicaaD22
import Derived.Test.YtgadkiljnebicaaD06
import Derived.Deep.RegionHeld3
import Derived.Test.YtgadkiljnebicaaD09
import Derived.Test.YtgadkiljnebicaaD35
import Derived.Test.YtgadkiljnebicaaD38
import Derived.Test.YtgadkiljnebicaaD34
import Derived.Test.YtgadkiljnebicaaD36
import Derived.Test.YtgadkiljnebicaaD40
import Derived.Test.YtgadkiljnebicaaD41
namespace Go.Proofs.Ytgadkiljnebicaa
open Go.Lib (hid)
open Go.RowKit
set_option maxRecDepth 100000
attribute [local go_sem] run_store_complex
set_option maxHeartbeats 4000000 in
theorem rq2 (ba : Option Addr) (bc : Nat) (bs : List UInt8) (s s1 : St) (sub : Rd Tm) (na : Option Addr) (nc : Nat) (d : Int) (hd : d ≤ 24) (w : World) (h : RfAt w ba bc bs s na nc) (hn : s.n + 1 ≤ 4096) (ho : oneP bs { s with n := s.n + 1 } = .ok (2,s1)) (hnm : s.names.length ≤ s.n) :
  Calls Try.prog 32 #[stV ba bs.length bc s.i s.n na s.names.length nc 0,.int .i64 d] w (RPT ba bs.length bc na s.names w (kindP bs sub 2 s1)) := by
 have H := hid h
 have HO := hid ho
 have HS1 := hid (oneP_ok ho).2
 have HN1 := hid (show s1.n = s.n + 1 by rw [HS1.out.1])
 have HNM1 := hid (show s1.names = s.names by rw [HS1.out.1])
 have HI1 := hid (show s1.i ≤ bs.length by rw [HS1.out.1]; exact HS1.out.2)
 have hn' : (s.n : Int) + 1 ≤ 4096 := by omega
 have HNm := hid hnm
 clear h ho hnm
 go_enter Try.func32,Try.ntmps32
 go_wp2_with fail
 obtain ⟨hX1,hY1,hZ1,hB1⟩ := heap_new3 (w := w) (o1 := .cells #[.slice ba bs.length bc,.int .i64 (s.i : Int),.int .i64 ((s.n : Int) + 1),.slice na s.names.length nc,.int .i64 0] 80) (o2 := .cells #[nilV,.int .i64 0,.int .i64 0,nilV,.int .i64 0] 80) (o3 := .cells #[.int .i64 0,.int .i64 0,.complex .f64 0 0,.string ⟨#[]⟩,.int .i64 0,.int .u32 0,.int .u64 0,nilV,nilV] 31)
 have HX1 := hid hX1
 have HY1 := hid hY1
 have HZ1 := hid hZ1
 have HB1 := hid hB1
 clear hX1 hY1 hZ1 hB1
 generalize ((w.alloc (.cells #[.slice ba bs.length bc,.int .i64 (s.i : Int),.int .i64 ((s.n : Int) + 1),.slice na s.names.length nc,.int .i64 0] 80)).alloc (.cells #[nilV,.int .i64 0,.int .i64 0,nilV,.int .i64 0] 80)).alloc (.cells #[.int .i64 0,.int .i64 0,.complex .f64 0 0,.string ⟨#[]⟩,.int .i64 0,.int .u32 0,.int .u64 0,nilV,nilV] 31) = w1 at *
 have hXY : w.heap.size < w.heap.size + 1 := by omega
 have hYZ : w.heap.size + 1 < w.heap.size + 1 + 1 := by omega
 generalize w.heap.size + 1 + 1 = Zb at *
 generalize w.heap.size + 1 = Yb at *
 obtain ⟨Xb,hXb⟩ : ∃ X,w.heap.size = X := ⟨_,rfl⟩
 rw [hXb] at HX1 HB1 hXY ⊢
 have HN := hid hXb
 have HRf1 := hid (show RfAt w1 ba bc bs { s with n := s.n + 1 } na nc from ⟨H.out.src.below (HN.out ▸ HB1.out),H.out.nms.below (HN.out ▸ HB1.out),H.out.len,H.out.ile,by show s.n + 1 ≤ 4097; omega⟩)
 have H1 := rone_any ba bc bs { s with n := s.n + 1 } na nc w1 HRf1.out
 rw [HO.out] at H1
 clear hXb
 refine H1.mono ?_
 rintro e w2 ⟨rfl,hb⟩
 clear H1 HRf1
 have HX2 := hid ((hb.block _ (blk_lt HX1.out)).trans HX1.out)
 have HY2 := hid ((hb.block _ (blk_lt HY1.out)).trans HY1.out)
 have HZ2 := hid ((hb.block _ (blk_lt HZ1.out)).trans HZ1.out)
 have HB2 := hid (HB1.out.trans (hb.mono (bsz HN.out HB1.out)))
 clear hb HB1 HX1 HY1 HZ1
 obtain ⟨k0,k1,k2,k3,k4⟩ := FiveAt.of_block HX2.out
 have kf := blk_fz HX2.out
 go_upto_region 7 with fail
 clear k0 k1 k2 k3 k4 kf
 have HX3 := hid (five_set HX2.out (d0 := .slice ba bs.length bc) (d1 := .int .i64 (s1.i : Int)) (d2 := .int .i64 (s1.n : Int)) (d3 := .slice na s.names.length nc) (d4 := .int .i64 0))
 have hTs := five_turn w2 (Xb) (.slice ba bs.length bc) (.int .i64 (s1.i : Int)) (.int .i64 (s1.n : Int)) (.slice na s.names.length nc) (.int .i64 0)
 have HY3 := hid ((hTs.block (Yb) (blk_lt HY2.out) (by omega)).trans HY2.out)
 have HZ3 := hid ((hTs.block (Zb) (blk_lt HZ2.out) (by omega)).trans HZ2.out)
 have HB3 := hid (HB2.out.trans (hTs.below (bsz HN.out HB2.out) (fun i e => by omega)))
 clear hTs HB2 HX2 HY2 HZ2
 simp only [set5] at HX3 HY3 HZ3 HB3
 generalize ((((w2.setCell ⟨Xb,0,none⟩ (.slice ba bs.length bc)).setCell ⟨Xb,1,none⟩ (.int .i64 (s1.i : Int))).setCell ⟨Xb,2,none⟩ (.int .i64 (s1.n : Int))).setCell ⟨Xb,3,none⟩ (.slice na s.names.length nc)).setCell ⟨Xb,4,none⟩ (.int .i64 0) = w3 at *
 have hT := Below.heap_alloc w3 (.cells #[.int .i64 2,.int .i64 0,.complex .f64 0 0,.string ⟨#[]⟩,.int .i64 0,.int .u32 0,.int .u64 0,nilV,nilV] 31)
 have HX4 := hid ((hT _ (blk_lt HX3.out)).trans HX3.out)
 have HY4 := hid ((hT _ (blk_lt HY3.out)).trans HY3.out)
 have HZ4 := hid ((hT _ (blk_lt HZ3.out)).trans HZ3.out)
 have HT4 := hid (heap_new w3 (.cells #[.int .i64 2,.int .i64 0,.complex .f64 0 0,.string ⟨#[]⟩,.int .i64 0,.int .u32 0,.int .u64 0,nilV,nilV] 31))
 have HB4 := hid (HB3.out.alloc (bsz HN.out HB3.out) (.cells #[.int .i64 2,.int .i64 0,.complex .f64 0 0,.string ⟨#[]⟩,.int .i64 0,.int .u32 0,.int .u64 0,nilV,nilV] 31))
 have hTN : Zb < w3.heap.size := blk_lt HZ3.out
 obtain ⟨k0,k1,k2,k3,k4⟩ := FiveAt.of_block HX4.out
 go_wp2_with fail
 clear hT HX3 HY3 HZ3 HB3 k0 k1 k2 k3 k4
 generalize w3.alloc (.cells #[.int .i64 2,.int .i64 0,.complex .f64 0 0,.string ⟨#[]⟩,.int .i64 0,.int .u32 0,.int .u64 0,nilV,nilV] 31) = w4 at *
 generalize w3.heap.size = T at *
 have HRf := hid (show RfAt w4 ba bc bs s1 na nc from ⟨H.out.src.below (HN.out ▸ HB4.out),by rw [HNM1.out]; exact H.out.nms.below (HN.out ▸ HB4.out),H.out.len,HI1.out,by rw [HN1.out]; omega⟩)
 have H1 := rsome_any ba bc bs s1 na nc 16 (by decide) w4 HRf.out
 rw [HNM1.out] at H1
 have H1 := hid H1
 have HQ := hid (show QAt Xb Yb Zb T #[.slice ba bs.length bc,.int .i64 (s1.i : Int),.int .i64 (s1.n : Int),.slice na s.names.length nc,.int .i64 0] #[.int .i64 2,.int .i64 0,.complex .f64 0 0,.string ⟨#[]⟩,.int .i64 0,.int .u32 0,.int .u64 0,nilV,nilV] w w4 from ⟨HX4.out,HY4.out,HZ4.out,HT4.out,HB4.out,hXY,hYZ,hTN⟩)
 clear HRf HX4 HY4 HZ4 HT4 HB4
 refine H1.out.mono ?_
 rintro e w5 hr
 obtain ⟨i1,n1,c1,l,a,c,rfl,ho5,hb,hO⟩ := rps_gen hr
 have HO1 := hid hO
 have HOw5 := hid ho5
 have HQ5 := hid (HQ.out.call hb)
 have HT4 := hid (show T < w4.heap.size from blk_lt HQ.out.tb)
 clear hr ho5 hb hO HQ H1
 have HV6 := hid (HQ5.out.newV #[.slice ba bs.length bc,.int .i64 i1,.int .i64 n1,.slice na s.names.length nc,.int .i64 c1])
 have HOw6 := hid (HOw5.out.alloc (.cells #[.slice ba bs.length bc,.int .i64 i1,.int .i64 n1,.slice na s.names.length nc,.int .i64 c1] 80))
 go_upto_region 21 with fail
 clear HQ5 HOw5
 generalize w5.alloc (.cells #[.slice ba bs.length bc,.int .i64 i1,.int .i64 n1,.slice na s.names.length nc,.int .i64 c1] 80) = w6 at *
 generalize w5.heap.size = V at *
 obtain ⟨k0,k1,k2,k3,k4⟩ := FiveAt.of_block HV6.out.vb
 go_upto_region 22 with (refine wpList_store_row rfl 80 (.tmp 2) (.tmp 88) rfl Xb #[.slice ba bs.length bc,.int .i64 i1,.int .i64 n1,.slice na s.names.length nc,.int .i64 c1] rfl rfl 80 #[.slice ba bs.length bc,.int .i64 (s1.i : Int),.int .i64 (s1.n : Int),.slice na s.names.length nc,.int .i64 0] HV6.out.q.xb infoS rfl (by simp [Array.all,Value.oneCell']) ?_)
 have HQ7 := hid (HV6.out.q.rowX #[.slice ba bs.length bc,.int .i64 i1,.int .i64 n1,.slice na s.names.length nc,.int .i64 c1])
 have HOw7 := hid (row_same (w' := w6.setRow Xb #[.slice ba bs.length bc,.int .i64 i1,.int .i64 n1,.slice na s.names.length nc,.int .i64 c1]) HOw6.out (fun b e _ => setRow_other _ _ _ _ (by have := (HOw6.out.lt b e).1; have := HT4.out; omega)))
 clear HV6 HOw6 k0 k1 k2 k3 k4
 generalize w6.setRow Xb #[.slice ba bs.length bc,.int .i64 i1,.int .i64 n1,.slice na s.names.length nc,.int .i64 c1] = w7 at *
 rcases HO1.out with ⟨hc,hk⟩ | ⟨rfl,s2,hk,rfl,rfl,hnil⟩
 ·have HC := hid hc
  have HK := hid (show kindP bs sub 2 s1 = .error c1 by simp [kindP,hk])
  have hcb : (c1 == 0) = false := beq_eq_false_iff_ne.2 hc
  clear HO1 hc hk
  have HX7 := hid HQ7.out.xb
  have HY7 := hid HQ7.out.yb
  have HZ7 := hid HQ7.out.zb
  have HT7 := hid HQ7.out.tb
  have HB7 := hid HQ7.out.below
  obtain ⟨k0,k1,k2,k3,k4⟩ := FiveAt.of_block HX7.out
  go_upto_region 54 with fail
  obtain ⟨k0,k1,k2,k3,k4⟩ := FiveAt.of_block HX7.out
  obtain ⟨t0,t1,t2,t3,t4,t5,t6,t7,t8⟩ := NineAt.of_block HT7.out
  obtain ⟨y0,y1,y2,y3,y4⟩ := FiveAt.of_block HY7.out
  obtain ⟨z0,z1,z2,z3,z4,z5,z6,z7,z8⟩ := NineAt.of_block HZ7.out
  have yf := blk_fz HY7.out
  have zf := blk_fz HZ7.out
  have hT1 : ¬ Yb = T := by omega
  have hT2 : ¬ Zb = T := by omega
  have hT3 : ¬ Yb = Xb := by omega
  have hT4 : ¬ Zb = Xb := by omega
  go_region_held3 (fun w' => w'.cell? ⟨Xb,0,none⟩ = some (.slice ba bs.length bc) ∧ w'.cell? ⟨Xb,1,none⟩ = some (.int .i64 i1) ∧ w'.cell? ⟨Xb,2,none⟩ = some (.int .i64 n1) ∧ w'.cell? ⟨Xb,3,none⟩ = some (.slice na s.names.length nc) ∧ w'.cell? ⟨Xb,4,none⟩ = some (.int .i64 c1) ∧ w'.cell? ⟨T,0,none⟩ = some (.int .i64 2) ∧ w'.cell? ⟨T,1,none⟩ = some (.int .i64 0) ∧ w'.cell? ⟨T,2,none⟩ = some (.complex .f64 0 0) ∧ w'.cell? ⟨T,3,none⟩ = some (.string ⟨#[]⟩) ∧ w'.cell? ⟨T,4,none⟩ = some (.int .i64 0) ∧ w'.cell? ⟨T,5,none⟩ = some (.int .u32 0) ∧ w'.cell? ⟨T,6,none⟩ = some (.int .u64 0) ∧ w'.cell? ⟨T,7,none⟩ = some (nilV) ∧ w'.cell? ⟨T,8,none⟩ = some (nilV)) (go_keep) (fail)
  rename_i hHeld
  clear hHeld hT1 hT2 hT3 hT4 k0 k1 k2 k3 k4 t0 t1 t2 t3 t4 t5 t6 t7 t8 y0 y1 y2 y3 y4 z0 z1 z2 z3 z4 z5 z6 z7 z8 yf zf
  have hYa := five_set HY7.out (d0 := .slice ba bs.length bc) (d1 := .int .i64 i1) (d2 := .int .i64 n1) (d3 := .slice na s.names.length nc) (d4 := .int .i64 c1)
  have hTa := five_turn w7 Yb (.slice ba bs.length bc) (.int .i64 i1) (.int .i64 n1) (.slice na s.names.length nc) (.int .i64 c1)
  have hZa := (hTa.block _ (blk_lt HZ7.out) (by omega)).trans HZ7.out
  have HBa := hid (HB7.out.trans (hTa.below (bsz HN.out HB7.out) (fun i e => by omega)))
  simp only [set5] at hYa hTa hZa HBa
  generalize ((((w7.setCell ⟨Yb,0,none⟩ (.slice ba bs.length bc)).setCell ⟨Yb,1,none⟩ (.int .i64 i1)).setCell ⟨Yb,2,none⟩ (.int .i64 n1)).setCell ⟨Yb,3,none⟩ (.slice na s.names.length nc)).setCell ⟨Yb,4,none⟩ (.int .i64 c1) = wa at *
  have hZb := nine_set hZa (d0 := .int .i64 2) (d1 := .int .i64 0) (d2 := .complex .f64 0 0) (d3 := .string ⟨#[]⟩) (d4 := .int .i64 0) (d5 := .int .u32 0) (d6 := .int .u64 0) (d7 := nilV) (d8 := nilV)
  have hTb := nine_turn wa Zb (.int .i64 2) (.int .i64 0) (.complex .f64 0 0) (.string ⟨#[]⟩) (.int .i64 0) (.int .u32 0) (.int .u64 0) (nilV) (nilV)
  have HYb := hid ((hTb.block _ (blk_lt hYa) (by omega)).trans hYa)
  have HBb := hid (HBa.out.trans (hTb.below (bsz HN.out HBa.out) (fun i e => by omega)))
  have HTab := hid ((hTa.mono (S' := fun i => i = Yb ∨ i = Zb) fun i _ e => .inl e).trans (hTb.mono fun i _ e => .inr e))
  have HZb := hid hZb
  simp only [set9,set5] at HYb HBb HTab HZb
  clear hZb hTb hYa hTa hZa HBa
  generalize ((((((((wa.setCell ⟨Zb,0,none⟩ (.int .i64 2)).setCell ⟨Zb,1,none⟩ (.int .i64 0)).setCell ⟨Zb,2,none⟩ (.complex .f64 0 0)).setCell ⟨Zb,3,none⟩ (.string ⟨#[]⟩)).setCell ⟨Zb,4,none⟩ (.int .i64 0)).setCell ⟨Zb,5,none⟩ (.int .u32 0)).setCell ⟨Zb,6,none⟩ (.int .u64 0)).setCell ⟨Zb,7,none⟩ (nilV)).setCell ⟨Zb,8,none⟩ (nilV) = wb at *
  obtain ⟨y0,y1,y2,y3,y4⟩ := FiveAt.of_block HYb.out
  obtain ⟨z0,z1,z2,z3,z4,z5,z6,z7,z8⟩ := NineAt.of_block HZb.out
  go_wp2_with fail
  exact bodyPost_ret (v := .tuple #[.agg #[.slice ba bs.length bc,.int .i64 i1,.int .i64 n1,.slice na s.names.length nc,.int .i64 c1],.agg #[.int .i64 2,.int .i64 0,.complex .f64 0 0,.string ⟨#[]⟩,.int .i64 0,.int .u32 0,.int .u64 0,nilV,nilV]]) (by simp [results,Try.results32,go_sem,y0,y1,y2,y3,y4,z0,z1,z2,z3,z4,z5,z6,z7,z8]) rfl (rpt_back (HN.out ▸ HBb.out.drew) (.inl ⟨HC.out,HK.out⟩))
 ·have HK := hid hk
  have HNM2 := hid (show s2.names = s.names by rw [(some_st hk).1]; exact HNM1.out)
  have hl16 := (some_st hk).2.1
  obtain ⟨g,rfl,hgT,hlc⟩ := row_open HOw7.out (by omega)
  have hgT2 : ¬ g = T := by have := HT4.out; omega
  have hS := sl16 (Sl.of_owns HOw7.out (by simp; omega)) hl16
  have HF1 := hid (rfloat_any (.slice (some ⟨g,0,none⟩) 8 c) (l.take 8) w7.drew hS.1 (by simp; omega))
  have HF2 := hid (rfloat_any (.slice (some ⟨g,8,none⟩) 8 (c - 8)) (l.drop 8) w7.drew hS.2 (by simp; omega))
  have hs1 := slice8_to g 16 c (by omega)
  have hs2 := slice8_from g 16 c rfl (by omega)
  have HL1 := hid (wordOf_lt8 (l.take 8) (by simp; omega))
  have HL2 := hid (wordOf_lt8 (l.drop 8) (by simp; omega))
  have HKp := hid (show kindP bs sub 2 s1 = if okF (wordOf (l.take 8)) = true ∧ okF (wordOf (l.drop 8)) = true then .ok (.mk { kind := 2,re := wordOf (l.take 8),im := wordOf (l.drop 8) } [],s2) else .error 73 by simp [kindP,hk])
  clear HO1 hk hS hnil
  generalize wordOf (l.take 8) = re8 at *
  generalize wordOf (l.drop 8) = im8 at *
  obtain ⟨d1,hd1⟩ : ∃ d : Bool,(okF re8 && okF im8) = d := ⟨_,rfl⟩
  obtain ⟨c5,hc5⟩ : ∃ c : Int,(if d1 = true then (0 : Int) else if (0 : Int) = 0 then 73 else 0) = c := ⟨_,rfl⟩
  have HRt : Hid (∀ w,Calls Try.prog 50 #[v2 re8 im8] w (RB w (.bool d1))) := hid (fun w => by rw [← hd1]; exact refright2 re8 im8 HL1.out HL2.out w)
  have HMu : Hid (∀ w,Calls Try.prog 49 #[stV ba bs.length bc s2.i s2.n na s.names.length nc 0,.bool d1] w (RB w (stV ba bs.length bc s2.i s2.n na s.names.length nc c5))) := hid (fun w => by rw [← hc5]; exact rmust_any ba bs.length bc s2.i s2.n na s.names.length nc 0 d1 w)
  have HG5 : Hid ((¬ c5 = 0 ∧ kindP bs sub 2 s1 = .error c5) ∨ (c5 = 0 ∧ kindP bs sub 2 s1 = .ok (.mk { kind := 2,re := re8,im := im8 } [],s2))) := hid (by
   rw [HKp.out]
   cases d1 with
   | true =>
    have : okF re8 = true ∧ okF im8 = true := by simpa using hd1
    exact .inr ⟨by rw [← hc5]; rfl,if_pos this⟩
   | false =>
    have : ¬ (okF re8 = true ∧ okF im8 = true) := by simpa using hd1
    have e : c5 = 73 := by rw [← hc5]; rfl
    rw [e]
    exact .inl ⟨by decide,if_neg this⟩)
  clear hd1 hc5 HKp HL1 HL2
  obtain ⟨k0,k1,k2,k3,k4⟩ := FiveAt.of_block HQ7.out.xb
  obtain ⟨t0,t1,t2,t3,t4,t5,t6,t7,t8⟩ := NineAt.of_block HQ7.out.tb
  have tf := blk_fz HQ7.out.tb 2
  go_upto_region 23 with fail
  clear hl16 k0 k1 k2 k3 k4
  go_region_with (first
   | ((with_reducible refine HF1.out.mono ?_); rintro e wr ⟨rfl,rfl⟩)
   | ((with_reducible refine HF2.out.mono ?_); rintro e wr ⟨rfl,rfl⟩))
  all_goals
   clear hs1 hs2 t0 t1 t2 t3 t4 t5 t6 t7 t8 tf
   have HQ8 : Hid (QAt Xb Yb Zb T #[.slice ba bs.length bc,.int .i64 (s2.i : Int),.int .i64 (s2.n : Int),.slice na s.names.length nc,.int .i64 0] #[.int .i64 2,.int .i64 0,.complex .f64 re8 im8,.string ⟨#[]⟩,.int .i64 0,.int .u32 0,.int .u64 0,nilV,nilV] w (w7.setCell ⟨T,2,none⟩ (.complex .f64 re8 im8))) := hid (HQ7.out.cellT (o := 2) (.complex .f64 re8 im8))
   clear HQ7 HOw7
   generalize w7.setCell ⟨T,2,none⟩ (.complex .f64 re8 im8) = w8 at *
   have HQ16 := hid (HQ8.out.call (Below.refl _ _).drew)
   clear HQ8
   generalize w8.drew = w16 at *
   go_upto_region 24 with fail
   obtain ⟨k0,k1,k2,k3,k4⟩ := FiveAt.of_block HQ16.out.xb
   obtain ⟨t0,t1,t2,t3,t4,t5,t6,t7,t8⟩ := NineAt.of_block HQ16.out.tb
   go_region_with (first
    | (refine (HRt.out _).mono ?_; rintro e wr ⟨rfl,hbr⟩; have HQr := hid ((HQ16.out.call (Below.refl _ _).drew).call hbr); clear hbr; obtain ⟨r0,r1,r2,r3,r4⟩ := FiveAt.of_block HQr.out.xb)
    | (refine (HMu.out _).mono ?_; rintro e wm ⟨rfl,hbm⟩; have HQm := hid (HQr.out.call hbm); clear hbm; obtain ⟨m0,m1,m2,m3,m4⟩ := FiveAt.of_block HQm.out.xb; have mf := blk_fz HQm.out.xb))
   all_goals
    clear r0 r1 r2 r3 r4 m0 m1 m2 m3 m4 mf k0 k1 k2 k3 k4 t0 t1 t2 t3 t4 t5 t6 t7 t8
    have HQ17 := hid (HQm.out.fiveX (d0 := .slice ba bs.length bc) (d1 := .int .i64 (s2.i : Int)) (d2 := .int .i64 (s2.n : Int)) (d3 := .slice na s.names.length nc) (d4 := .int .i64 c5))
    clear HQm HQr HQ16
    simp only [set5] at HQ17
    generalize ((((wm.setCell ⟨Xb,0,none⟩ (.slice ba bs.length bc)).setCell ⟨Xb,1,none⟩ (.int .i64 (s2.i : Int))).setCell ⟨Xb,2,none⟩ (.int .i64 (s2.n : Int))).setCell ⟨Xb,3,none⟩ (.slice na s.names.length nc)).setCell ⟨Xb,4,none⟩ (.int .i64 c5) = w17 at *
    have HPost := hid (show ∀ wb,Below w.heap.size w wb → PartOut w.heap.size na s.names (kindP bs sub 2 s1) s2.i s2.n na s.names.length nc c5 #[.int .i64 2,.int .i64 0,.complex .f64 re8 im8,.string ⟨#[]⟩,.int .i64 0,.int .u32 0,.int .u64 0,nilV,nilV] wb from by
     intro wb hB
     rcases HG5.out with ⟨h1,h2⟩ | ⟨h1,h2⟩
     ·exact .inl ⟨h1,h2⟩
     ·exact .inr ⟨h1,_,s2,h2,rfl,rfl,by rw [HNM2.out],by rw [HNM2.out]; exact H.out.nms.below hB,Rep.leaf (h := { kind := 2,re := re8,im := im8 }) rfl,.inl ⟨rfl,HNM2.out⟩⟩)
    clear HG5
    have HX17 := hid HQ17.out.xb
    have HY17 := hid HQ17.out.yb
    have HZ17 := hid HQ17.out.zb
    have HT17 := hid HQ17.out.tb
    have HB17 := hid HQ17.out.below
    obtain ⟨k0,k1,k2,k3,k4⟩ := FiveAt.of_block HX17.out
    go_upto_region 54 with fail
    obtain ⟨k0,k1,k2,k3,k4⟩ := FiveAt.of_block HX17.out
    obtain ⟨t0,t1,t2,t3,t4,t5,t6,t7,t8⟩ := NineAt.of_block HT17.out
    obtain ⟨y0,y1,y2,y3,y4⟩ := FiveAt.of_block HY17.out
    obtain ⟨z0,z1,z2,z3,z4,z5,z6,z7,z8⟩ := NineAt.of_block HZ17.out
    have yf := blk_fz HY17.out
    have zf := blk_fz HZ17.out
    have hT1 : ¬ Yb = T := by omega
    have hT2 : ¬ Zb = T := by omega
    have hT3 : ¬ Yb = Xb := by omega
    have hT4 : ¬ Zb = Xb := by omega
    go_region_held3 (fun w' => w'.cell? ⟨Xb,0,none⟩ = some (.slice ba bs.length bc) ∧ w'.cell? ⟨Xb,1,none⟩ = some (.int .i64 (s2.i : Int)) ∧ w'.cell? ⟨Xb,2,none⟩ = some (.int .i64 (s2.n : Int)) ∧ w'.cell? ⟨Xb,3,none⟩ = some (.slice na s.names.length nc) ∧ w'.cell? ⟨Xb,4,none⟩ = some (.int .i64 c5) ∧ w'.cell? ⟨T,0,none⟩ = some (.int .i64 2) ∧ w'.cell? ⟨T,1,none⟩ = some (.int .i64 0) ∧ w'.cell? ⟨T,2,none⟩ = some (.complex .f64 re8 im8) ∧ w'.cell? ⟨T,3,none⟩ = some (.string ⟨#[]⟩) ∧ w'.cell? ⟨T,4,none⟩ = some (.int .i64 0) ∧ w'.cell? ⟨T,5,none⟩ = some (.int .u32 0) ∧ w'.cell? ⟨T,6,none⟩ = some (.int .u64 0) ∧ w'.cell? ⟨T,7,none⟩ = some (nilV) ∧ w'.cell? ⟨T,8,none⟩ = some (nilV)) (go_keep) (fail)
    rename_i hHeld
    clear hHeld hT1 hT2 hT3 hT4 k0 k1 k2 k3 k4 t0 t1 t2 t3 t4 t5 t6 t7 t8 y0 y1 y2 y3 y4 z0 z1 z2 z3 z4 z5 z6 z7 z8 yf zf
    have hYa := five_set HY17.out (d0 := .slice ba bs.length bc) (d1 := .int .i64 (s2.i : Int)) (d2 := .int .i64 (s2.n : Int)) (d3 := .slice na s.names.length nc) (d4 := .int .i64 c5)
    have hTa := five_turn w17 Yb (.slice ba bs.length bc) (.int .i64 (s2.i : Int)) (.int .i64 (s2.n : Int)) (.slice na s.names.length nc) (.int .i64 c5)
    have hZa := (hTa.block _ (blk_lt HZ17.out) (by omega)).trans HZ17.out
    have HBa := hid (HB17.out.trans (hTa.below (bsz HN.out HB17.out) (fun i e => by omega)))
    simp only [set5] at hYa hTa hZa HBa
    generalize ((((w17.setCell ⟨Yb,0,none⟩ (.slice ba bs.length bc)).setCell ⟨Yb,1,none⟩ (.int .i64 (s2.i : Int))).setCell ⟨Yb,2,none⟩ (.int .i64 (s2.n : Int))).setCell ⟨Yb,3,none⟩ (.slice na s.names.length nc)).setCell ⟨Yb,4,none⟩ (.int .i64 c5) = wa at *
    have hZb := nine_set hZa (d0 := .int .i64 2) (d1 := .int .i64 0) (d2 := .complex .f64 re8 im8) (d3 := .string ⟨#[]⟩) (d4 := .int .i64 0) (d5 := .int .u32 0) (d6 := .int .u64 0) (d7 := nilV) (d8 := nilV)
    have hTb := nine_turn wa Zb (.int .i64 2) (.int .i64 0) (.complex .f64 re8 im8) (.string ⟨#[]⟩) (.int .i64 0) (.int .u32 0) (.int .u64 0) (nilV) (nilV)
    have HYb := hid ((hTb.block _ (blk_lt hYa) (by omega)).trans hYa)
    have HBb := hid (HBa.out.trans (hTb.below (bsz HN.out HBa.out) (fun i e => by omega)))
    have HTab := hid ((hTa.mono (S' := fun i => i = Yb ∨ i = Zb) fun i _ e => .inl e).trans (hTb.mono fun i _ e => .inr e))
    have HZb := hid hZb
    simp only [set9,set5] at HYb HBb HTab HZb
    clear hZb hTb hYa hTa hZa HBa
    generalize ((((((((wa.setCell ⟨Zb,0,none⟩ (.int .i64 2)).setCell ⟨Zb,1,none⟩ (.int .i64 0)).setCell ⟨Zb,2,none⟩ (.complex .f64 re8 im8)).setCell ⟨Zb,3,none⟩ (.string ⟨#[]⟩)).setCell ⟨Zb,4,none⟩ (.int .i64 0)).setCell ⟨Zb,5,none⟩ (.int .u32 0)).setCell ⟨Zb,6,none⟩ (.int .u64 0)).setCell ⟨Zb,7,none⟩ (nilV)).setCell ⟨Zb,8,none⟩ (nilV) = wb at *
    obtain ⟨y0,y1,y2,y3,y4⟩ := FiveAt.of_block HYb.out
    obtain ⟨z0,z1,z2,z3,z4,z5,z6,z7,z8⟩ := NineAt.of_block HZb.out
    go_wp2_with fail
    exact bodyPost_ret (v := .tuple #[.agg #[.slice ba bs.length bc,.int .i64 (s2.i : Int),.int .i64 (s2.n : Int),.slice na s.names.length nc,.int .i64 c5],.agg #[.int .i64 2,.int .i64 0,.complex .f64 re8 im8,.string ⟨#[]⟩,.int .i64 0,.int .u32 0,.int .u64 0,nilV,nilV]]) (by simp [results,Try.results32,go_sem,y0,y1,y2,y3,y4,z0,z1,z2,z3,z4,z5,z6,z7,z8]) rfl (rpt_back (HN.out ▸ HBb.out.drew) (HPost.out _ (HN.out ▸ HBb.out.drew)))
end Go.Proofs.Ytgadkiljnebicaa
namespace Go.Proofs.Ytgadkiljnebicaa
open Go.Lib (hid)
open Go.RowKit
set_option maxRecDepth 100000
theorem oneP_e72 {bs : List UInt8} {s : St} {x : Int} (h : oneP bs s = .error x) : x = 72 := by
 unfold oneP at h
 split at h
 ·cases h
 ·cases h; rfl
theorem someP_e72 {bs : List UInt8} {n : Nat} {s : St} {x : Int} (h : someP bs n s = .error x) : x = 72 := by
 unfold someP at h
 split at h
 ·cases h
 ·cases h; rfl
theorem nameP_e0 {bs : List UInt8} {s : St} {x : Int} (h : nameP bs s = .error x) : ¬ x = 0 := by
 unfold nameP at h
 cases hw : wideN bs s with
 | error e => rw [hw] at h; cases h; rcases wideN_err hw with h | h <;> omega
 | ok y =>
  obtain ⟨k,s1⟩ := y
  rw [hw] at h
  simp only at h
  split at h
  ·cases h; decide
  ·split at h
   ·cases h
   ·cases ho : oneP bs s1 with
    | error e => rw [ho] at h; cases h; have := oneP_e72 ho; omega
    | ok y =>
     obtain ⟨size,s2⟩ := y
     rw [ho] at h
     simp only at h
     split at h
     ·cases h; decide
     ·cases hs : someP bs size s2 with
      | error e => rw [hs] at h; cases h; have := someP_e72 hs; omega
      | ok y =>
       obtain ⟨l,s3⟩ := y
       rw [hs] at h
       simp only at h
       split at h
       ·cases h
       ·cases h; decide
theorem nameP_ile {bs : List UInt8} {s s' : St} {y : ByteArray} (h : nameP bs s = .ok (y,s')) : s'.i ≤ bs.length := by
 unfold nameP at h
 cases hw : wideN bs s with
 | error e => rw [hw] at h; cases h
 | ok y =>
  obtain ⟨k,s1⟩ := y
  rw [hw] at h
  simp only at h
  split at h
  ·cases h
  ·split at h
   ·cases h; exact wideN_ile hw
   ·cases ho : oneP bs s1 with
    | error e => rw [ho] at h; cases h
    | ok y =>
     obtain ⟨size,s2⟩ := y
     rw [ho] at h
     simp only at h
     split at h
     ·cases h
     ·cases hs : someP bs size s2 with
      | error e => rw [hs] at h; cases h
      | ok y =>
       obtain ⟨l,s3⟩ := y
       obtain ⟨e3,_,e4⟩ := some_st hs
       rw [hs] at h
       simp only at h
       split at h
       ·cases h; rw [e3]; exact e4
       ·cases h
theorem many_err0 {sub : Rd Tm} (hsub : ∀ s x,sub s = .error x → ¬ x = 0) : ∀ (k : Nat) (s : St) (x : Int),manyP sub k s = .error x → ¬ x = 0
 | 0,_,_,h => by cases h
 | k + 1,s,x,h => by
  simp only [manyP] at h
  cases hs : sub s with
  | error e => rw [hs] at h; cases h; exact hsub _ _ hs
  | ok y =>
   rw [hs] at h
   simp only at h
   cases hm : manyP sub k y.2 with
   | error e => rw [hm] at h; cases h; exact many_err0 hsub k _ _ hm
   | ok z => rw [hm] at h; cases h
theorem many_ile {bs : List UInt8} {sub : Rd Tm} (hsub : ∀ s t s',s.i ≤ bs.length → sub s = .ok (t,s') → s'.i ≤ bs.length) : ∀ (k : Nat) (s : St) (l : List Tm) (s' : St),s.i ≤ bs.length → manyP sub k s = .ok (l,s') → s'.i ≤ bs.length
 | 0,_,_,_,hi,h => by cases h; exact hi
 | k + 1,s,l,s',hi,h => by
  simp only [manyP] at h
  cases hs : sub s with
  | error e => rw [hs] at h; cases h
  | ok y =>
   rw [hs] at h
   simp only at h
   cases hm : manyP sub k y.2 with
   | error e => rw [hm] at h; cases h
   | ok z =>
    rw [hm] at h
    cases h
    exact many_ile hsub k _ z.1 z.2 (hsub s y.1 y.2 hi hs) hm
theorem kind_err {bs : List UInt8} {sub : Rd Tm} (hsub : ∀ s x,sub s = .error x → ¬ x = 0) {c : Nat} {s : St} {x : Int} (h : kindP bs sub c s = .error x) : ¬ x = 0 := by
 have w : ∀ s e,wideN bs s = .error e → ¬ e = 0 := fun s e h => by rcases wideN_err h with h | h <;> omega
 have o : ∀ s e,oneP bs s = .error e → ¬ e = 0 := fun s e h => by have := oneP_e72 h; omega
 have sm : ∀ n s e,someP bs n s = .error e → ¬ e = 0 := fun n s e h => by have := someP_e72 h; omega
 have m := many_err0 hsub
 unfold kindP at h
 repeat' (split at h)
 all_goals (try cases h)
 all_goals (first | decide | (apply w; assumption) | (apply o; assumption) | (apply sm; assumption) | (apply nameP_e0; assumption) | (apply m; assumption))
theorem part_err (bs : List UInt8) : ∀ (rest : Nat) (s : St) (x : Int),partP bs rest s = .error x → ¬ x = 0
 | 0,s,x,h => by cases h; decide
 | rest + 1,s,x,h => by
  unfold partP at h
  split at h
  ·cases h; decide
  ·cases ho : oneP bs { s with n := s.n + 1 } with
   | error e => rw [ho] at h; cases h; have := oneP_e72 ho; omega
   | ok y => rw [ho] at h; exact kind_err (part_err bs rest) h
theorem kind_ile {bs : List UInt8} {sub : Rd Tm} (hsub : ∀ s t s',s.i ≤ bs.length → sub s = .ok (t,s') → s'.i ≤ bs.length) {c : Nat} {s s' : St} {t : Tm} (_ : s.i ≤ bs.length) (h : kindP bs sub c s = .ok (t,s')) : s'.i ≤ bs.length := by
 have sm : ∀ n s l s',someP bs n s = .ok (l,s') → s'.i ≤ bs.length := fun n s l s' h => by obtain ⟨e,_,e2⟩ := some_st h; rw [e]; exact e2
 have m := many_ile hsub
 unfold kindP at h
 repeat' (split at h)
 all_goals (try cases h)
 all_goals (first | (apply wideN_ile; assumption) | (apply sm; assumption) | (apply nameP_ile; assumption) | (refine m _ _ _ _ (wideN_ile (by assumption)) (by assumption)))
theorem part_ile (bs : List UInt8) : ∀ (rest : Nat) (s : St) (t : Tm) (s' : St),s.i ≤ bs.length → partP bs rest s = .ok (t,s') → s'.i ≤ bs.length
 | 0,s,t,s',hi,h => by cases h
 | rest + 1,s,t,s',hi,h => by
  unfold partP at h
  split at h
  ·cases h
  ·cases ho : oneP bs { s with n := s.n + 1 } with
   | error e => rw [ho] at h; cases h
   | ok y =>
    obtain ⟨c,s1⟩ := y
    obtain ⟨_,o2,o3⟩ := oneP_ok ho
    rw [ho] at h
    exact kind_ile (part_ile bs rest) (by rw [o2]; exact o3) h
theorem refpart_any (ba : Option Addr) (bc : Nat) (bs : List UInt8) : ∀ (rest : Nat),rest ≤ 24 → ∀ (d : Int),d = 25 - (rest : Int) → ∀ (na : Option Addr) (nc : Nat) (s : St) (w : World),RfAt w ba bc bs s na nc → s.names.length ≤ s.n →
  Calls Try.prog 32 #[stV ba bs.length bc s.i s.n na s.names.length nc 0,.int .i64 d] w (RPT ba bs.length bc na s.names w (partP bs rest s)) := by
 intro rest
 induction rest with
 | zero =>
  intro _ d hd na nc s w h hn
  by_cases hb : 4096 < s.n + 1
  ·exact rq_deep1 ba bc bs s na nc d (by omega) w h hb
  ·exact rq_deep0 ba bc bs s na nc d (by omega) w h (by omega)
 | succ rest ih =>
  intro hr d hd na nc s w h hn
  have hd24 : d ≤ 24 := by omega
  unfold partP
  by_cases hb : 4096 < s.n + 1
  ·rw [if_pos hb]
   exact rq_big ba bc bs s na nc d hd24 w h hb
  ·rw [if_neg hb]
   have hn1 : s.n + 1 ≤ 4096 := by omega
   cases ho : oneP bs { s with n := s.n + 1 } with
   | error x =>
    obtain rfl := oneP_e72 ho
    exact rq_short ba bc bs s na nc d hd24 w h hn1 ho
   | ok y =>
    obtain ⟨c,s1⟩ := y
    obtain ⟨o1,o2,o3⟩ := oneP_ok ho
    have hse := part_err bs rest
    have hsn : ∀ s t s',s.i ≤ bs.length → s.n ≤ 4097 → s.names.length ≤ s.n → partP bs rest s = .ok (t,s') → s'.i ≤ bs.length ∧ s'.n ≤ 4097 ∧ s'.names.length ≤ s'.n := fun s t s' hi _ hn h =>
     ⟨part_ile bs rest s t s' hi h,by have := (part_read bs rest s t s' h).le; omega,(part_read bs rest s t s' h).nms (by omega)⟩
    have hsub : ∀ (na : Option Addr) (nc : Nat) (s : St) (w : World),RfAt w ba bc bs s na nc → s.names.length ≤ s.n → Calls Try.prog 32 #[stV ba bs.length bc s.i s.n na s.names.length nc 0,.int .i64 (d + 1)] w (RPT ba bs.length bc na s.names w (partP bs rest s)) :=
     fun na nc s w h hn => ih (by omega) _ (by omega) na nc s w h hn
    show Calls _ _ _ _ (RPT ba bs.length bc na s.names w (kindP bs (partP bs rest) c s1))
    by_cases c1 : c = 1
    ·subst c1
     cases hw : wideN bs s1 with
     | error x => exact rq1_err ba bc bs s s1 _ na nc d hd24 w h hn1 ho x hw
     | ok y => exact rq1_ok ba bc bs s s1 _ na nc d hd24 w h hn1 ho y.1 y.2 hw
    by_cases c2 : c = 2
    ·subst c2; exact rq2 ba bc bs s s1 _ na nc d hd24 w h hn1 ho hn
    by_cases c3 : c = 3
    ·subst c3
     cases hw : nameP bs s1 with
     | error x => exact rq3_err ba bc bs s s1 _ na nc d hd24 w h hn1 ho x hw (by omega)
     | ok y => exact rq3_ok ba bc bs s s1 _ na nc d hd24 w h hn1 ho y.1 y.2 hw (by omega)
    by_cases c4 : c = 4
    ·subst c4; exact rq4 ba bc bs s s1 _ na nc d hd24 w h hn1 ho hn
    by_cases c5 : c = 5
    ·subst c5; exact rq5 ba bc bs s s1 _ na nc d hd24 w h hn1 ho hn
    by_cases c6 : c = 6
    ·subst c6; exact rq6 ba bc bs s s1 _ na nc d hd24 w h hn1 ho hn (by omega) hse hsn hsub
    by_cases c7 : c = 7
    ·subst c7; exact rq7 ba bc bs s s1 _ na nc d hd24 w h hn1 ho hn (by omega) hse hsn hsub
    by_cases c8 : c = 8
    ·subst c8; exact rq8 ba bc bs s s1 _ na nc d hd24 w h hn1 ho hn
    ·exact rq_bad ba bc bs s s1 c _ na nc d hd24 w h hn1 ho o1 (by omega)
end Go.Proofs.Ytgadkiljnebicaa
