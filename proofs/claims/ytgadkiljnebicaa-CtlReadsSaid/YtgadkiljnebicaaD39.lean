/- Several texts in one. -/
import Derived.Test.YtgadkiljnebicaaD37
import Derived.Deep.RegionHeld3
namespace Go.Proofs.Ytgadkiljnebicaa
open Go.Lib (hid)
open Go.RowKit
set_option maxRecDepth 100000
attribute [local go_sem] run_store_complex
theorem rps_gen {ba : Option Addr} {bl bc : Nat} {na : Option Addr} {nl nc : Nat} {W w' : World} {bs : List UInt8} {k : Nat} {s : St} {e : Ending} (h : RPS ba bl bc na nl nc W (someP bs k s) e w') :
  ∃ (i n code : Int) (l : List UInt8) (a : Option Addr) (c : Nat),e = .returned (.tuple #[stV ba bl bc i n na nl nc code,.slice a l.length c]) ∧ w'.ownsRow W.heap.size 5 1 (.slice a l.length c) l.length (l.map cellB) ∧ Below W.heap.size W w' ∧
   ((¬ code = 0 ∧ someP bs k s = .error code) ∨ (code = 0 ∧ ∃ s',someP bs k s = .ok (l,s') ∧ i = s'.i ∧ n = s'.n ∧ (l.length = 0 → Value.slice a l.length c = nilV))) := by
 cases hr : someP bs k s with
 | error x =>
  rw [hr] at h
  obtain ⟨i,n,l,a,c,he,ho,_,hb⟩ := h
  have hx : x = 72 := by
   unfold someP at hr
   split at hr
   ·cases hr
   ·cases hr; rfl
  exact ⟨i,n,x,l,a,c,he,ho,hb,.inl ⟨by omega,rfl⟩⟩
 | ok y =>
  obtain ⟨l,s'⟩ := y
  rw [hr] at h
  obtain ⟨a,c,he,ho,hn,hb⟩ := h
  exact ⟨s'.i,s'.n,0,l,a,c,he,ho,hb,.inr ⟨rfl,s',rfl,rfl,rfl,hn⟩⟩
set_option maxHeartbeats 4000000 in
theorem rq8 (ba : Option Addr) (bc : Nat) (bs : List UInt8) (s s1 : St) (sub : Rd Tm) (na : Option Addr) (nc : Nat) (d : Int) (hd : d ≤ 24) (w : World) (h : RfAt w ba bc bs s na nc) (hn : s.n + 1 ≤ 4096) (ho : oneP bs { s with n := s.n + 1 } = .ok (8,s1)) (hnm : s.names.length ≤ s.n) :
  Calls Try.prog 32 #[stV ba bs.length bc s.i s.n na s.names.length nc 0,.int .i64 d] w (RPT ba bs.length bc na s.names w (kindP bs sub 8 s1)) := by
 have H := hid h
 have HO := hid ho
 have HS1 := hid (oneP_ok ho).2
 have HN1 := hid (show s1.n = s.n + 1 by rw [HS1.out.1])
 have HNM1 := hid (show s1.names = s.names by rw [HS1.out.1])
 have HI1 := hid (show s1.i ≤ bs.length by rw [HS1.out.1]; exact HS1.out.2)
 have hn' : (s.n : Int) + 1 ≤ 4096 := by omega
 have HNm := hid hnm
 have HN8 := hid hn
 clear h ho hnm
 go_enter Try.func32,Try.ntmps32
 go_wp2_with fail
 obtain ⟨hX1,hY1,hZ1,hB1⟩ := heap_new3 (w := w) (o1 := .cells #[.slice ba bs.length bc,.int .i64 (s.i : Int),.int .i64 ((s.n : Int) + 1),.slice na s.names.length nc,.int .i64 0] 80) (o2 := .cells #[nilV,.int .i64 0,.int .i64 0,nilV,.int .i64 0] 80) (o3 := .cells #[.int .i64 0,.int .i64 0,.complex .f64 0 0,.string ⟨#[]⟩,.int .i64 0,.int .u32 0,.int .u64 0,nilV,nilV] 31)
 have HX1 := hid hX1
 have HY1 := hid hY1
 have HZ1 := hid hZ1
 have HB1 := hid hB1
 clear hX1 hY1 hZ1 hB1
 generalize ((w.alloc (.cells #[.slice ba bs.length bc,.int .i64 (s.i : Int),.int .i64 ((s.n : Int) + 1),.slice na s.names.length nc,.int .i64 0] 80)).alloc (.cells #[nilV,.int .i64 0,.int .i64 0,nilV,.int .i64 0] 80)).alloc (.cells #[.int .i64 0,.int .i64 0,.complex .f64 0 0,.string ⟨#[]⟩,.int .i64 0,.int .u32 0,.int .u64 0,nilV,nilV] 31) = w1 at *
 have hXY : w.heap.size < w.heap.size + 1 := by omega
 have hYZ : w.heap.size + 1 < w.heap.size + 1 + 1 := by omega
 generalize w.heap.size + 1 + 1 = Zb at *
 generalize w.heap.size + 1 = Yb at *
 obtain ⟨Xb,hXb⟩ : ∃ X,w.heap.size = X := ⟨_,rfl⟩
 rw [hXb] at HX1 HB1 hXY ⊢
 have HN := hid hXb
 have HRf1 := hid (show RfAt w1 ba bc bs { s with n := s.n + 1 } na nc from ⟨H.out.src.below (HN.out ▸ HB1.out),H.out.nms.below (HN.out ▸ HB1.out),H.out.len,H.out.ile,by show s.n + 1 ≤ 4097; omega⟩)
 have H1 := rone_any ba bc bs { s with n := s.n + 1 } na nc w1 HRf1.out
 rw [HO.out] at H1
 clear hXb
 refine H1.mono ?_
 rintro e w2 ⟨rfl,hb⟩
 clear H1 HRf1
 have HX2 := hid ((hb.block _ (blk_lt HX1.out)).trans HX1.out)
 have HY2 := hid ((hb.block _ (blk_lt HY1.out)).trans HY1.out)
 have HZ2 := hid ((hb.block _ (blk_lt HZ1.out)).trans HZ1.out)
 have HB2 := hid (HB1.out.trans (hb.mono (bsz HN.out HB1.out)))
 clear hb HB1 HX1 HY1 HZ1
 obtain ⟨k0,k1,k2,k3,k4⟩ := FiveAt.of_block HX2.out
 have kf := blk_fz HX2.out
 go_upto_region 7 with fail
 clear k0 k1 k2 k3 k4 kf
 have HX3 := hid (five_set HX2.out (d0 := .slice ba bs.length bc) (d1 := .int .i64 (s1.i : Int)) (d2 := .int .i64 (s1.n : Int)) (d3 := .slice na s.names.length nc) (d4 := .int .i64 0))
 have hTs := five_turn w2 (Xb) (.slice ba bs.length bc) (.int .i64 (s1.i : Int)) (.int .i64 (s1.n : Int)) (.slice na s.names.length nc) (.int .i64 0)
 have HY3 := hid ((hTs.block (Yb) (blk_lt HY2.out) (by omega)).trans HY2.out)
 have HZ3 := hid ((hTs.block (Zb) (blk_lt HZ2.out) (by omega)).trans HZ2.out)
 have HB3 := hid (HB2.out.trans (hTs.below (bsz HN.out HB2.out) (fun i e => by omega)))
 clear hTs HB2 HX2 HY2 HZ2
 simp only [set5] at HX3 HY3 HZ3 HB3
 generalize ((((w2.setCell ⟨Xb,0,none⟩ (.slice ba bs.length bc)).setCell ⟨Xb,1,none⟩ (.int .i64 (s1.i : Int))).setCell ⟨Xb,2,none⟩ (.int .i64 (s1.n : Int))).setCell ⟨Xb,3,none⟩ (.slice na s.names.length nc)).setCell ⟨Xb,4,none⟩ (.int .i64 0) = w3 at *
 have hT := Below.heap_alloc w3 (.cells #[.int .i64 8,.int .i64 0,.complex .f64 0 0,.string ⟨#[]⟩,.int .i64 0,.int .u32 0,.int .u64 0,nilV,nilV] 31)
 have HX4 := hid ((hT _ (blk_lt HX3.out)).trans HX3.out)
 have HY4 := hid ((hT _ (blk_lt HY3.out)).trans HY3.out)
 have HZ4 := hid ((hT _ (blk_lt HZ3.out)).trans HZ3.out)
 have HT4 := hid (heap_new w3 (.cells #[.int .i64 8,.int .i64 0,.complex .f64 0 0,.string ⟨#[]⟩,.int .i64 0,.int .u32 0,.int .u64 0,nilV,nilV] 31))
 have HB4 := hid (HB3.out.alloc (bsz HN.out HB3.out) (.cells #[.int .i64 8,.int .i64 0,.complex .f64 0 0,.string ⟨#[]⟩,.int .i64 0,.int .u32 0,.int .u64 0,nilV,nilV] 31))
 have hTN : Zb < w3.heap.size := blk_lt HZ3.out
 obtain ⟨k0,k1,k2,k3,k4⟩ := FiveAt.of_block HX4.out
 go_wp2_with fail
 clear hT HX3 HY3 HZ3 HB3 k0 k1 k2 k3 k4
 generalize w3.alloc (.cells #[.int .i64 8,.int .i64 0,.complex .f64 0 0,.string ⟨#[]⟩,.int .i64 0,.int .u32 0,.int .u64 0,nilV,nilV] 31) = w4 at *
 generalize w3.heap.size = T at *
 have HRf := hid (show RfAt w4 ba bc bs s1 na nc from ⟨H.out.src.below (HN.out ▸ HB4.out),by rw [HNM1.out]; exact H.out.nms.below (HN.out ▸ HB4.out),H.out.len,HI1.out,by rw [HN1.out]; omega⟩)
 have H1 := rwide_any ba bc bs s1 na nc w4 HRf.out
 rw [HNM1.out] at H1
 have H1 := hid H1
 have HQ := hid (show QAt Xb Yb Zb T #[.slice ba bs.length bc,.int .i64 (s1.i : Int),.int .i64 (s1.n : Int),.slice na s.names.length nc,.int .i64 0] #[.int .i64 8,.int .i64 0,.complex .f64 0 0,.string ⟨#[]⟩,.int .i64 0,.int .u32 0,.int .u64 0,nilV,nilV] w w4 from ⟨HX4.out,HY4.out,HZ4.out,HT4.out,HB4.out,hXY,hYZ,hTN⟩)
 clear HRf HX4 HY4 HZ4 HT4 HB4
 refine H1.out.mono ?_
 rintro e w5 hr
 obtain ⟨i',n',code,q,rfl,hq64,hb,hO⟩ := rp1_gen hr (fun x hx => by rcases wideN_err hx with h | h <;> omega) (fun y hy => wideN_lt hy)
 have HO1 := hid hO
 have HQ5 := hid (HQ.out.call hb)
 clear hr hb hO HQ H1
 have HQ6 := hid (HQ5.out.alloc (.cells #[.slice ba bs.length bc,.int .i64 i',.int .i64 n',.slice na s.names.length nc,.int .i64 code] 80))
 have HV6 := hid (heap_new w5 (.cells #[.slice ba bs.length bc,.int .i64 i',.int .i64 n',.slice na s.names.length nc,.int .i64 code] 80))
 go_upto_region 48 with fail
 clear HQ5
 generalize w5.alloc (.cells #[.slice ba bs.length bc,.int .i64 i',.int .i64 n',.slice na s.names.length nc,.int .i64 code] 80) = w6 at *
 generalize w5.heap.size = V at *
 obtain ⟨k0,k1,k2,k3,k4⟩ := FiveAt.of_block HV6.out
 go_upto_region 49 with (refine wpList_store_row rfl 80 (.tmp 2) (.tmp 190) rfl Xb #[.slice ba bs.length bc,.int .i64 i',.int .i64 n',.slice na s.names.length nc,.int .i64 code] rfl rfl 80 #[.slice ba bs.length bc,.int .i64 (s1.i : Int),.int .i64 (s1.n : Int),.slice na s.names.length nc,.int .i64 0] HQ6.out.xb infoS rfl (by simp [Array.all,Value.oneCell']) ?_)
 have HQ7 := hid (HQ6.out.rowX #[.slice ba bs.length bc,.int .i64 i',.int .i64 n',.slice na s.names.length nc,.int .i64 code])
 clear HQ6 HV6 k0 k1 k2 k3 k4
 generalize w6.setRow Xb #[.slice ba bs.length bc,.int .i64 i',.int .i64 n',.slice na s.names.length nc,.int .i64 code] = w7 at *
 rcases HO1.out with ⟨hc,hk⟩ | ⟨rfl,s2,hk,rfl,rfl⟩
 ·have HC := hid hc
  have HK := hid (show kindP bs sub 8 s1 = .error code by simp [kindP,hk])
  have hcb : (code == 0) = false := beq_eq_false_iff_ne.2 hc
  clear HO1 hc hk
  have HX7 := hid HQ7.out.xb
  have HY7 := hid HQ7.out.yb
  have HZ7 := hid HQ7.out.zb
  have HT7 := hid HQ7.out.tb
  have HB7 := hid HQ7.out.below
  obtain ⟨k0,k1,k2,k3,k4⟩ := FiveAt.of_block HX7.out
  go_upto_region 54 with fail
  obtain ⟨k0,k1,k2,k3,k4⟩ := FiveAt.of_block HX7.out
  obtain ⟨t0,t1,t2,t3,t4,t5,t6,t7,t8⟩ := NineAt.of_block HT7.out
  obtain ⟨y0,y1,y2,y3,y4⟩ := FiveAt.of_block HY7.out
  obtain ⟨z0,z1,z2,z3,z4,z5,z6,z7,z8⟩ := NineAt.of_block HZ7.out
  have yf := blk_fz HY7.out
  have zf := blk_fz HZ7.out
  have hT1 : ¬ Yb = T := by omega
  have hT2 : ¬ Zb = T := by omega
  have hT3 : ¬ Yb = Xb := by omega
  have hT4 : ¬ Zb = Xb := by omega
  go_region_held3 (fun w' => w'.cell? ⟨Xb,0,none⟩ = some (.slice ba bs.length bc) ∧ w'.cell? ⟨Xb,1,none⟩ = some (.int .i64 i') ∧ w'.cell? ⟨Xb,2,none⟩ = some (.int .i64 n') ∧ w'.cell? ⟨Xb,3,none⟩ = some (.slice na s.names.length nc) ∧ w'.cell? ⟨Xb,4,none⟩ = some (.int .i64 code) ∧ w'.cell? ⟨T,0,none⟩ = some (.int .i64 8) ∧ w'.cell? ⟨T,1,none⟩ = some (.int .i64 0) ∧ w'.cell? ⟨T,2,none⟩ = some (.complex .f64 0 0) ∧ w'.cell? ⟨T,3,none⟩ = some (.string ⟨#[]⟩) ∧ w'.cell? ⟨T,4,none⟩ = some (.int .i64 0) ∧ w'.cell? ⟨T,5,none⟩ = some (.int .u32 0) ∧ w'.cell? ⟨T,6,none⟩ = some (.int .u64 0) ∧ w'.cell? ⟨T,7,none⟩ = some (nilV) ∧ w'.cell? ⟨T,8,none⟩ = some (nilV)) (go_keep) (fail)
  rename_i hHeld
  clear hHeld hT1 hT2 hT3 hT4 k0 k1 k2 k3 k4 t0 t1 t2 t3 t4 t5 t6 t7 t8 y0 y1 y2 y3 y4 z0 z1 z2 z3 z4 z5 z6 z7 z8 yf zf
  have hYa := five_set HY7.out (d0 := .slice ba bs.length bc) (d1 := .int .i64 i') (d2 := .int .i64 n') (d3 := .slice na s.names.length nc) (d4 := .int .i64 code)
  have hTa := five_turn w7 Yb (.slice ba bs.length bc) (.int .i64 i') (.int .i64 n') (.slice na s.names.length nc) (.int .i64 code)
  have hZa := (hTa.block _ (blk_lt HZ7.out) (by omega)).trans HZ7.out
  have HBa := hid (HB7.out.trans (hTa.below (bsz HN.out HB7.out) (fun i e => by omega)))
  simp only [set5] at hYa hTa hZa HBa
  generalize ((((w7.setCell ⟨Yb,0,none⟩ (.slice ba bs.length bc)).setCell ⟨Yb,1,none⟩ (.int .i64 i')).setCell ⟨Yb,2,none⟩ (.int .i64 n')).setCell ⟨Yb,3,none⟩ (.slice na s.names.length nc)).setCell ⟨Yb,4,none⟩ (.int .i64 code) = wa at *
  have hZb := nine_set hZa (d0 := .int .i64 8) (d1 := .int .i64 0) (d2 := .complex .f64 0 0) (d3 := .string ⟨#[]⟩) (d4 := .int .i64 0) (d5 := .int .u32 0) (d6 := .int .u64 0) (d7 := nilV) (d8 := nilV)
  have hTb := nine_turn wa Zb (.int .i64 8) (.int .i64 0) (.complex .f64 0 0) (.string ⟨#[]⟩) (.int .i64 0) (.int .u32 0) (.int .u64 0) (nilV) (nilV)
  have HYb := hid ((hTb.block _ (blk_lt hYa) (by omega)).trans hYa)
  have HBb := hid (HBa.out.trans (hTb.below (bsz HN.out HBa.out) (fun i e => by omega)))
  have HTab := hid ((hTa.mono (S' := fun i => i = Yb ∨ i = Zb) fun i _ e => .inl e).trans (hTb.mono fun i _ e => .inr e))
  have HZb := hid hZb
  simp only [set9,set5] at HYb HBb HTab HZb
  clear hZb hTb hYa hTa hZa HBa
  generalize ((((((((wa.setCell ⟨Zb,0,none⟩ (.int .i64 8)).setCell ⟨Zb,1,none⟩ (.int .i64 0)).setCell ⟨Zb,2,none⟩ (.complex .f64 0 0)).setCell ⟨Zb,3,none⟩ (.string ⟨#[]⟩)).setCell ⟨Zb,4,none⟩ (.int .i64 0)).setCell ⟨Zb,5,none⟩ (.int .u32 0)).setCell ⟨Zb,6,none⟩ (.int .u64 0)).setCell ⟨Zb,7,none⟩ (nilV)).setCell ⟨Zb,8,none⟩ (nilV) = wb at *
  obtain ⟨y0,y1,y2,y3,y4⟩ := FiveAt.of_block HYb.out
  obtain ⟨z0,z1,z2,z3,z4,z5,z6,z7,z8⟩ := NineAt.of_block HZb.out
  go_wp2_with fail
  exact bodyPost_ret (v := .tuple #[.agg #[.slice ba bs.length bc,.int .i64 i',.int .i64 n',.slice na s.names.length nc,.int .i64 code],.agg #[.int .i64 8,.int .i64 0,.complex .f64 0 0,.string ⟨#[]⟩,.int .i64 0,.int .u32 0,.int .u64 0,nilV,nilV]]) (by simp [results,Try.results32,go_sem,y0,y1,y2,y3,y4,z0,z1,z2,z3,z4,z5,z6,z7,z8]) rfl (rpt_back (HN.out ▸ HBb.out.drew) (.inl ⟨HC.out,HK.out⟩))
 ·have hs2 := wide_names _ _ _ _ _ _ hk
  have hn2 : s2.n = s.n + 1 := hs2.2.1.trans HN1.out
  have HNM2 := hid (show s2.names = s.names from hs2.1.trans HNM1.out)
  have HI2 := hid (wideN_ile hk)
  have HKw := hid hk
  have HN2 := hid hn2
  have hn3 : s2.n ≤ 4096 := by have := HN8.out; omega
  have hu : IntKind.u64.wrap (4096 - (s2.n : Int)) = 4096 - (s2.n : Int) := wraps_u64 _ (by omega) (by omega)
  clear HO1 hs2 hn2 hk
  by_cases hbig : 4096 < s2.n + q
  ·have HK := hid (show kindP bs sub 8 s1 = .error 21 by simp [kindP,HKw.out,hbig])
   have hb2 : 4096 - (s2.n : Int) < (q : Int) := by omega
   have hb3 : decide (4096 - (s2.n : Int) < (q : Int)) = true := decide_eq_true hb2
   clear hbig
   obtain ⟨k0,k1,k2,k3,k4⟩ := FiveAt.of_block HQ7.out.xb
   go_wp2_with fail
   clear k0 k1 k2 k3 k4 hb3 hu
   refine (rfail0 _ _ _ _ _ _ _ _ 21 _).mono ?_
   rintro e w8 ⟨rfl,hb⟩
   have HQ8 := hid (HQ7.out.call hb)
   clear hb HQ7
   go_upto_region 51 with (refine wpList_store_row rfl 80 (.tmp 2) (.tmp 203) rfl Xb #[.slice ba bs.length bc,.int .i64 (s2.i : Int),.int .i64 (s2.n : Int),.slice na s.names.length nc,.int .i64 21] rfl rfl 80 #[.slice ba bs.length bc,.int .i64 (s2.i : Int),.int .i64 (s2.n : Int),.slice na s.names.length nc,.int .i64 0] HQ8.out.xb infoS rfl (by simp [Array.all,Value.oneCell']) ?_)
   have HQ9 := hid (HQ8.out.rowX #[.slice ba bs.length bc,.int .i64 (s2.i : Int),.int .i64 (s2.n : Int),.slice na s.names.length nc,.int .i64 21])
   clear HQ8
   generalize w8.setRow Xb #[.slice ba bs.length bc,.int .i64 (s2.i : Int),.int .i64 (s2.n : Int),.slice na s.names.length nc,.int .i64 21] = w9 at *
   have HX9 := hid HQ9.out.xb
   have HY9 := hid HQ9.out.yb
   have HZ9 := hid HQ9.out.zb
   have HT9 := hid HQ9.out.tb
   have HB9 := hid HQ9.out.below
   obtain ⟨k0,k1,k2,k3,k4⟩ := FiveAt.of_block HX9.out
   go_upto_region 54 with fail
   obtain ⟨k0,k1,k2,k3,k4⟩ := FiveAt.of_block HX9.out
   obtain ⟨t0,t1,t2,t3,t4,t5,t6,t7,t8⟩ := NineAt.of_block HT9.out
   obtain ⟨y0,y1,y2,y3,y4⟩ := FiveAt.of_block HY9.out
   obtain ⟨z0,z1,z2,z3,z4,z5,z6,z7,z8⟩ := NineAt.of_block HZ9.out
   have yf := blk_fz HY9.out
   have zf := blk_fz HZ9.out
   have hT1 : ¬ Yb = T := by omega
   have hT2 : ¬ Zb = T := by omega
   have hT3 : ¬ Yb = Xb := by omega
   have hT4 : ¬ Zb = Xb := by omega
   go_region_held3 (fun w' => w'.cell? ⟨Xb,0,none⟩ = some (.slice ba bs.length bc) ∧ w'.cell? ⟨Xb,1,none⟩ = some (.int .i64 (s2.i : Int)) ∧ w'.cell? ⟨Xb,2,none⟩ = some (.int .i64 (s2.n : Int)) ∧ w'.cell? ⟨Xb,3,none⟩ = some (.slice na s.names.length nc) ∧ w'.cell? ⟨Xb,4,none⟩ = some (.int .i64 21) ∧ w'.cell? ⟨T,0,none⟩ = some (.int .i64 8) ∧ w'.cell? ⟨T,1,none⟩ = some (.int .i64 0) ∧ w'.cell? ⟨T,2,none⟩ = some (.complex .f64 0 0) ∧ w'.cell? ⟨T,3,none⟩ = some (.string ⟨#[]⟩) ∧ w'.cell? ⟨T,4,none⟩ = some (.int .i64 0) ∧ w'.cell? ⟨T,5,none⟩ = some (.int .u32 0) ∧ w'.cell? ⟨T,6,none⟩ = some (.int .u64 0) ∧ w'.cell? ⟨T,7,none⟩ = some (nilV) ∧ w'.cell? ⟨T,8,none⟩ = some (nilV)) (go_keep) (fail)
   rename_i hHeld
   clear hHeld hT1 hT2 hT3 hT4 k0 k1 k2 k3 k4 t0 t1 t2 t3 t4 t5 t6 t7 t8 y0 y1 y2 y3 y4 z0 z1 z2 z3 z4 z5 z6 z7 z8 yf zf
   have hYa := five_set HY9.out (d0 := .slice ba bs.length bc) (d1 := .int .i64 (s2.i : Int)) (d2 := .int .i64 (s2.n : Int)) (d3 := .slice na s.names.length nc) (d4 := .int .i64 21)
   have hTa := five_turn w9 Yb (.slice ba bs.length bc) (.int .i64 (s2.i : Int)) (.int .i64 (s2.n : Int)) (.slice na s.names.length nc) (.int .i64 21)
   have hZa := (hTa.block _ (blk_lt HZ9.out) (by omega)).trans HZ9.out
   have HBa := hid (HB9.out.trans (hTa.below (bsz HN.out HB9.out) (fun i e => by omega)))
   simp only [set5] at hYa hTa hZa HBa
   generalize ((((w9.setCell ⟨Yb,0,none⟩ (.slice ba bs.length bc)).setCell ⟨Yb,1,none⟩ (.int .i64 (s2.i : Int))).setCell ⟨Yb,2,none⟩ (.int .i64 (s2.n : Int))).setCell ⟨Yb,3,none⟩ (.slice na s.names.length nc)).setCell ⟨Yb,4,none⟩ (.int .i64 21) = wa at *
   have hZb := nine_set hZa (d0 := .int .i64 8) (d1 := .int .i64 0) (d2 := .complex .f64 0 0) (d3 := .string ⟨#[]⟩) (d4 := .int .i64 0) (d5 := .int .u32 0) (d6 := .int .u64 0) (d7 := nilV) (d8 := nilV)
   have hTb := nine_turn wa Zb (.int .i64 8) (.int .i64 0) (.complex .f64 0 0) (.string ⟨#[]⟩) (.int .i64 0) (.int .u32 0) (.int .u64 0) (nilV) (nilV)
   have HYb := hid ((hTb.block _ (blk_lt hYa) (by omega)).trans hYa)
   have HBb := hid (HBa.out.trans (hTb.below (bsz HN.out HBa.out) (fun i e => by omega)))
   have HTab := hid ((hTa.mono (S' := fun i => i = Yb ∨ i = Zb) fun i _ e => .inl e).trans (hTb.mono fun i _ e => .inr e))
   have HZb := hid hZb
   simp only [set9,set5] at HYb HBb HTab HZb
   clear hZb hTb hYa hTa hZa HBa
   generalize ((((((((wa.setCell ⟨Zb,0,none⟩ (.int .i64 8)).setCell ⟨Zb,1,none⟩ (.int .i64 0)).setCell ⟨Zb,2,none⟩ (.complex .f64 0 0)).setCell ⟨Zb,3,none⟩ (.string ⟨#[]⟩)).setCell ⟨Zb,4,none⟩ (.int .i64 0)).setCell ⟨Zb,5,none⟩ (.int .u32 0)).setCell ⟨Zb,6,none⟩ (.int .u64 0)).setCell ⟨Zb,7,none⟩ (nilV)).setCell ⟨Zb,8,none⟩ (nilV) = wb at *
   obtain ⟨y0,y1,y2,y3,y4⟩ := FiveAt.of_block HYb.out
   obtain ⟨z0,z1,z2,z3,z4,z5,z6,z7,z8⟩ := NineAt.of_block HZb.out
   go_wp2_with fail
   exact bodyPost_ret (v := .tuple #[.agg #[.slice ba bs.length bc,.int .i64 (s2.i : Int),.int .i64 (s2.n : Int),.slice na s.names.length nc,.int .i64 21],.agg #[.int .i64 8,.int .i64 0,.complex .f64 0 0,.string ⟨#[]⟩,.int .i64 0,.int .u32 0,.int .u64 0,nilV,nilV]]) (by simp [results,Try.results32,go_sem,y0,y1,y2,y3,y4,z0,z1,z2,z3,z4,z5,z6,z7,z8]) rfl (rpt_back (HN.out ▸ HBb.out.drew) (.inl ⟨by decide,HK.out⟩))
  ·have hb2 : ¬ 4096 - (s2.n : Int) < (q : Int) := by omega
   have hb3 : decide (4096 - (s2.n : Int) < (q : Int)) = false := decide_eq_false hb2
   have hq4 : q ≤ 4096 := by omega
   have hqi : IntKind.i64.wrap (q : Int) = q := IntWalk.i64_in _ (by omega)
   have HBg := hid hbig
   clear hbig
   obtain ⟨k0,k1,k2,k3,k4⟩ := FiveAt.of_block HQ7.out.xb
   have kf := blk_fz HQ7.out.xb 2
   go_upto_region 53 with fail
   clear k0 k1 k2 k3 k4 hb3 hu kf
   have HQ8 : Hid (QAt Xb Yb Zb T #[.slice ba bs.length bc,.int .i64 (s2.i : Int),.int .i64 ((s2.n : Int) + (q : Int)),.slice na s.names.length nc,.int .i64 0] #[.int .i64 8,.int .i64 0,.complex .f64 0 0,.string ⟨#[]⟩,.int .i64 0,.int .u32 0,.int .u64 0,nilV,nilV] w (w7.setCell ⟨Xb,2,none⟩ (.int .i64 ((s2.n : Int) + (q : Int))))) := hid (HQ7.out.cellX (o := 2) (.int .i64 ((s2.n : Int) + (q : Int))))
   clear HQ7
   generalize w7.setCell ⟨Xb,2,none⟩ (.int .i64 ((s2.n : Int) + (q : Int))) = w8 at *
   have H1 := rsome_any ba bc bs { s2 with n := s2.n + q } na nc q hq4 w8 ⟨H.out.src.below (HN.out ▸ HQ8.out.below),by show Strs w8 (.slice na s2.names.length nc) s2.names; rw [HNM2.out]; exact H.out.nms.below (HN.out ▸ HQ8.out.below),H.out.len,HI2.out,by show s2.n + q ≤ 4097; omega⟩
   have e1 : (({ s2 with n := s2.n + q } : St).names.length) = s.names.length := by show s2.names.length = _; rw [HNM2.out]
   have e2 : ((({ s2 with n := s2.n + q } : St).n : Nat) : Int) = (s2.n : Int) + (q : Int) := by show ((s2.n + q : Nat) : Int) = _; simp
   rw [e1,e2] at H1
   have H1 := hid H1
   clear e1 e2
   obtain ⟨k0,k1,k2,k3,k4⟩ := FiveAt.of_block HQ8.out.xb
   go_wp2_with fail
   clear k0 k1 k2 k3 k4
   refine H1.out.mono ?_
   rintro e w9 hr
   obtain ⟨i3,n3,code3,l,a,c,rfl,ho,hb,hO⟩ := rps_gen hr
   have HOw := hid ho
   have HO2 := hid hO
   have HQ9 := hid (HQ8.out.call hb)
   have HT8 := hid (show T < w8.heap.size from blk_lt HQ8.out.tb)
   clear hr ho hb hO H1 HQ8
   have HQ10 := hid (HQ9.out.rowX #[.slice ba bs.length bc,.int .i64 i3,.int .i64 n3,.slice na s.names.length nc,.int .i64 code3])
   have kf : (w9.setRow Xb #[.slice ba bs.length bc,.int .i64 i3,.int .i64 n3,.slice na s.names.length nc,.int .i64 code3]).frozen? ⟨T,7,none⟩ = false := blk_fz HQ10.out.tb 7
   have kc : (w9.setRow Xb #[.slice ba bs.length bc,.int .i64 i3,.int .i64 n3,.slice na s.names.length nc,.int .i64 code3]).cell? ⟨T,7,none⟩ = some nilV := (NineAt.of_block HQ10.out.tb).2.2.2.2.2.2.2.1
   go_upto_region 54 with (refine wpList_store_row rfl 80 (.tmp 2) (.tmp 218) rfl Xb #[.slice ba bs.length bc,.int .i64 i3,.int .i64 n3,.slice na s.names.length nc,.int .i64 code3] rfl rfl 80 #[.slice ba bs.length bc,.int .i64 (s2.i : Int),.int .i64 ((s2.n : Int) + (q : Int)),.slice na s.names.length nc,.int .i64 0] HQ9.out.xb infoS rfl (by simp [Array.all,Value.oneCell']) ?_)
   clear kf kc
   have HOw10 := hid (row_same (w' := w9.setRow Xb #[.slice ba bs.length bc,.int .i64 i3,.int .i64 n3,.slice na s.names.length nc,.int .i64 code3]) HOw.out (fun b e _ => setRow_other _ _ _ _ (by have := (HOw.out.lt b e).1; have := HT8.out; omega)))
   clear HQ9 HOw
   generalize w9.setRow Xb #[.slice ba bs.length bc,.int .i64 i3,.int .i64 n3,.slice na s.names.length nc,.int .i64 code3] = w10 at *
   have HQ11 : Hid (QAt Xb Yb Zb T #[.slice ba bs.length bc,.int .i64 i3,.int .i64 n3,.slice na s.names.length nc,.int .i64 code3] #[.int .i64 8,.int .i64 0,.complex .f64 0 0,.string ⟨#[]⟩,.int .i64 0,.int .u32 0,.int .u64 0,.slice a l.length c,nilV] w (w10.setCell ⟨T,7,none⟩ (.slice a l.length c))) := hid (HQ10.out.cellT (o := 7) (.slice a l.length c))
   have HOw11 := hid (row_same (w' := w10.setCell ⟨T,7,none⟩ (.slice a l.length c)) HOw10.out (fun b e _ => Below.heap_setCell _ ⟨T,7,none⟩ _ b (by have := (HOw10.out.lt b e).1; have := HT8.out; show ¬ b = T; omega)))
   clear HQ10 HOw10
   generalize w10.setCell ⟨T,7,none⟩ (.slice a l.length c) = w11 at *
   have HPost := hid (show ∀ wb,Turn (fun i => i = Yb ∨ i = Zb) w11 wb → PartOut w.heap.size na s.names (kindP bs sub 8 s1) i3 n3 na s.names.length nc code3 #[.int .i64 8,.int .i64 0,.complex .f64 0 0,.string ⟨#[]⟩,.int .i64 0,.int .u32 0,.int .u64 0,.slice a l.length c,nilV] wb.drew from by
    intro wb hT
    have hbg := HBg.out
    rcases HO2.out with ⟨h1,h2⟩ | ⟨h1,s3,h2,rfl,rfl,h3⟩
    ·exact .inl ⟨h1,by simp [kindP,HKw.out,h2,hbg]⟩
    ·have h4 : s3.names = s.names := by rw [(some_st h2).1]; exact HNM2.out
     refine .inr ⟨h1,.mk { kind := 8,b := l } [],s3,by simp [kindP,HKw.out,h2,hbg],rfl,rfl,by rw [h4],?_,?_,.inl ⟨rfl,h4⟩⟩
     ·rw [h4]
      exact Strs.drew ((H.out.nms.below (HN.out ▸ HQ11.out.below)).same' fun hp b e hb => hT.block b hb (by have := H.out.nms.lt hp e; have := HN.out; have := HQ11.out.xy; have := HQ11.out.yz; omega))
     ·refine Rep.keep (w := wb) (F := fun b => w.heap.size ≤ b) (fun b _ _ => rfl) (.mk { kind := 8,b := l } []) _ ⟨.slice a l.length c,nilV,rfl,⟨row_same (owns_mono HOw11.out (Nat.zero_le _)) (fun b e hb => hT.block b hb (by have := (HOw11.out.lt b e).1; have := HT8.out; have := HQ11.out.zt; have := HQ11.out.yz; omega)),fun b e => by have := (HOw11.out.lt b e).1; have := HT8.out; have := HQ11.out.zt; have := HQ11.out.yz; have := HQ11.out.xy; have := HN.out; omega,h3⟩,[],Row.nil _ _ _ _,rfl⟩)
   clear HO2 HOw11
   have HX11 := hid HQ11.out.xb
   have HY11 := hid HQ11.out.yb
   have HZ11 := hid HQ11.out.zb
   have HT11 := hid HQ11.out.tb
   have HB11 := hid HQ11.out.below
   obtain ⟨k0,k1,k2,k3,k4⟩ := FiveAt.of_block HX11.out
   skip
   obtain ⟨k0,k1,k2,k3,k4⟩ := FiveAt.of_block HX11.out
   obtain ⟨t0,t1,t2,t3,t4,t5,t6,t7,t8⟩ := NineAt.of_block HT11.out
   obtain ⟨y0,y1,y2,y3,y4⟩ := FiveAt.of_block HY11.out
   obtain ⟨z0,z1,z2,z3,z4,z5,z6,z7,z8⟩ := NineAt.of_block HZ11.out
   have yf := blk_fz HY11.out
   have zf := blk_fz HZ11.out
   have hT1 : ¬ Yb = T := by omega
   have hT2 : ¬ Zb = T := by omega
   have hT3 : ¬ Yb = Xb := by omega
   have hT4 : ¬ Zb = Xb := by omega
   go_region_held3 (fun w' => w'.cell? ⟨Xb,0,none⟩ = some (.slice ba bs.length bc) ∧ w'.cell? ⟨Xb,1,none⟩ = some (.int .i64 i3) ∧ w'.cell? ⟨Xb,2,none⟩ = some (.int .i64 n3) ∧ w'.cell? ⟨Xb,3,none⟩ = some (.slice na s.names.length nc) ∧ w'.cell? ⟨Xb,4,none⟩ = some (.int .i64 code3) ∧ w'.cell? ⟨T,0,none⟩ = some (.int .i64 8) ∧ w'.cell? ⟨T,1,none⟩ = some (.int .i64 0) ∧ w'.cell? ⟨T,2,none⟩ = some (.complex .f64 0 0) ∧ w'.cell? ⟨T,3,none⟩ = some (.string ⟨#[]⟩) ∧ w'.cell? ⟨T,4,none⟩ = some (.int .i64 0) ∧ w'.cell? ⟨T,5,none⟩ = some (.int .u32 0) ∧ w'.cell? ⟨T,6,none⟩ = some (.int .u64 0) ∧ w'.cell? ⟨T,7,none⟩ = some (.slice a l.length c) ∧ w'.cell? ⟨T,8,none⟩ = some (nilV)) (go_keep) (fail)
   rename_i hHeld
   clear hHeld hT1 hT2 hT3 hT4 k0 k1 k2 k3 k4 t0 t1 t2 t3 t4 t5 t6 t7 t8 y0 y1 y2 y3 y4 z0 z1 z2 z3 z4 z5 z6 z7 z8 yf zf
   have hYa := five_set HY11.out (d0 := .slice ba bs.length bc) (d1 := .int .i64 i3) (d2 := .int .i64 n3) (d3 := .slice na s.names.length nc) (d4 := .int .i64 code3)
   have hTa := five_turn w11 Yb (.slice ba bs.length bc) (.int .i64 i3) (.int .i64 n3) (.slice na s.names.length nc) (.int .i64 code3)
   have hZa := (hTa.block _ (blk_lt HZ11.out) (by omega)).trans HZ11.out
   have HBa := hid (HB11.out.trans (hTa.below (bsz HN.out HB11.out) (fun i e => by omega)))
   simp only [set5] at hYa hTa hZa HBa
   generalize ((((w11.setCell ⟨Yb,0,none⟩ (.slice ba bs.length bc)).setCell ⟨Yb,1,none⟩ (.int .i64 i3)).setCell ⟨Yb,2,none⟩ (.int .i64 n3)).setCell ⟨Yb,3,none⟩ (.slice na s.names.length nc)).setCell ⟨Yb,4,none⟩ (.int .i64 code3) = wa at *
   have hZb := nine_set hZa (d0 := .int .i64 8) (d1 := .int .i64 0) (d2 := .complex .f64 0 0) (d3 := .string ⟨#[]⟩) (d4 := .int .i64 0) (d5 := .int .u32 0) (d6 := .int .u64 0) (d7 := .slice a l.length c) (d8 := nilV)
   have hTb := nine_turn wa Zb (.int .i64 8) (.int .i64 0) (.complex .f64 0 0) (.string ⟨#[]⟩) (.int .i64 0) (.int .u32 0) (.int .u64 0) (.slice a l.length c) (nilV)
   have HYb := hid ((hTb.block _ (blk_lt hYa) (by omega)).trans hYa)
   have HBb := hid (HBa.out.trans (hTb.below (bsz HN.out HBa.out) (fun i e => by omega)))
   have HTab := hid ((hTa.mono (S' := fun i => i = Yb ∨ i = Zb) fun i _ e => .inl e).trans (hTb.mono fun i _ e => .inr e))
   have HZb := hid hZb
   simp only [set9,set5] at HYb HBb HTab HZb
   clear hZb hTb hYa hTa hZa HBa
   generalize ((((((((wa.setCell ⟨Zb,0,none⟩ (.int .i64 8)).setCell ⟨Zb,1,none⟩ (.int .i64 0)).setCell ⟨Zb,2,none⟩ (.complex .f64 0 0)).setCell ⟨Zb,3,none⟩ (.string ⟨#[]⟩)).setCell ⟨Zb,4,none⟩ (.int .i64 0)).setCell ⟨Zb,5,none⟩ (.int .u32 0)).setCell ⟨Zb,6,none⟩ (.int .u64 0)).setCell ⟨Zb,7,none⟩ (.slice a l.length c)).setCell ⟨Zb,8,none⟩ (nilV) = wb at *
   obtain ⟨y0,y1,y2,y3,y4⟩ := FiveAt.of_block HYb.out
   obtain ⟨z0,z1,z2,z3,z4,z5,z6,z7,z8⟩ := NineAt.of_block HZb.out
   go_wp2_with fail
   exact bodyPost_ret (v := .tuple #[.agg #[.slice ba bs.length bc,.int .i64 i3,.int .i64 n3,.slice na s.names.length nc,.int .i64 code3],.agg #[.int .i64 8,.int .i64 0,.complex .f64 0 0,.string ⟨#[]⟩,.int .i64 0,.int .u32 0,.int .u64 0,.slice a l.length c,nilV]]) (by simp [results,Try.results32,go_sem,y0,y1,y2,y3,y4,z0,z1,z2,z3,z4,z5,z6,z7,z8]) rfl (rpt_back (HN.out ▸ HBb.out.drew) (HPost.out _ HTab.out))
end Go.Proofs.Ytgadkiljnebicaa
