/- Several texts in one. -/
import Derived.Test.YtgadkiljnebicaaD33
import Derived.Deep.RegionHeld3
namespace Go.Proofs.Ytgadkiljnebicaa
open Go.Lib (hid)
open Go.RowKit
set_option maxRecDepth 100000
attribute [local go_sem] run_store_complex
set_option maxHeartbeats 4000000 in
theorem rq_bad (ba : Option Addr) (bc : Nat) (bs : List UInt8) (s s1 : St) (c : Nat) (sub : Rd Tm) (na : Option Addr) (nc : Nat) (d : Int) (hd : d ≤ 24) (w : World) (h : RfAt w ba bc bs s na nc) (hn : s.n + 1 ≤ 4096) (ho : oneP bs { s with n := s.n + 1 } = .ok (c,s1)) (hc : c < 256) (hb : c = 0 ∨ 8 < c) :
  Calls Try.prog 32 #[stV ba bs.length bc s.i s.n na s.names.length nc 0,.int .i64 d] w (RPT ba bs.length bc na s.names w (kindP bs sub c s1)) := by
 have H := hid h
 have HO := hid ho
 have HS1 := hid (oneP_ok ho).2
 have HN1 := hid (show s1.n = s.n + 1 by rw [HS1.out.1])
 have HNM1 := hid (show s1.names = s.names by rw [HS1.out.1])
 have HI1 := hid (show s1.i ≤ bs.length by rw [HS1.out.1]; exact HS1.out.2)
 have e0 : IntKind.i64.wrap (c : Int) = c := IntWalk.i64_in _ (by omega)
 have e1 : ((c : Int) == 1) = false := by rw [beq_eq_false_iff_ne]; omega
 have e2 : ((c : Int) == 2) = false := by rw [beq_eq_false_iff_ne]; omega
 have e3 : ((c : Int) == 3) = false := by rw [beq_eq_false_iff_ne]; omega
 have e4 : ((c : Int) == 4) = false := by rw [beq_eq_false_iff_ne]; omega
 have e5 : ((c : Int) == 5) = false := by rw [beq_eq_false_iff_ne]; omega
 have e6 : ((c : Int) == 6) = false := by rw [beq_eq_false_iff_ne]; omega
 have e7 : ((c : Int) == 7) = false := by rw [beq_eq_false_iff_ne]; omega
 have e8 : ((c : Int) == 8) = false := by rw [beq_eq_false_iff_ne]; omega
 have HK := hid (show kindP bs sub c s1 = .error 73 by unfold kindP; rw [if_neg (by omega),if_neg (by omega),if_neg (by omega),if_neg (by omega),if_neg (by omega),if_neg (by omega)])
 clear hb
 have hn' : (s.n : Int) + 1 ≤ 4096 := by omega
 clear h ho
 go_enter Try.func32,Try.ntmps32
 go_wp2_with fail
 obtain ⟨hX1,hY1,hZ1,hB1⟩ := heap_new3 (w := w) (o1 := .cells #[.slice ba bs.length bc,.int .i64 (s.i : Int),.int .i64 ((s.n : Int) + 1),.slice na s.names.length nc,.int .i64 0] 80) (o2 := .cells #[nilV,.int .i64 0,.int .i64 0,nilV,.int .i64 0] 80) (o3 := .cells #[.int .i64 0,.int .i64 0,.complex .f64 0 0,.string ⟨#[]⟩,.int .i64 0,.int .u32 0,.int .u64 0,nilV,nilV] 31)
 have HX1 := hid hX1
 have HY1 := hid hY1
 have HZ1 := hid hZ1
 have HB1 := hid hB1
 clear hX1 hY1 hZ1 hB1
 generalize ((w.alloc (.cells #[.slice ba bs.length bc,.int .i64 (s.i : Int),.int .i64 ((s.n : Int) + 1),.slice na s.names.length nc,.int .i64 0] 80)).alloc (.cells #[nilV,.int .i64 0,.int .i64 0,nilV,.int .i64 0] 80)).alloc (.cells #[.int .i64 0,.int .i64 0,.complex .f64 0 0,.string ⟨#[]⟩,.int .i64 0,.int .u32 0,.int .u64 0,nilV,nilV] 31) = w1 at *
 have hXY : w.heap.size < w.heap.size + 1 := by omega
 have hYZ : w.heap.size + 1 < w.heap.size + 1 + 1 := by omega
 generalize w.heap.size + 1 + 1 = Zb at *
 generalize w.heap.size + 1 = Yb at *
 obtain ⟨Xb,hXb⟩ : ∃ X,w.heap.size = X := ⟨_,rfl⟩
 rw [hXb] at HX1 HB1 hXY ⊢
 have HN := hid hXb
 have HRf1 := hid (show RfAt w1 ba bc bs { s with n := s.n + 1 } na nc from ⟨H.out.src.below (HN.out ▸ HB1.out),H.out.nms.below (HN.out ▸ HB1.out),H.out.len,H.out.ile,by show s.n + 1 ≤ 4097; omega⟩)
 have H1 := rone_any ba bc bs { s with n := s.n + 1 } na nc w1 HRf1.out
 rw [HO.out] at H1
 clear hXb
 refine H1.mono ?_
 rintro e w2 ⟨rfl,hb⟩
 clear H1 HRf1
 have HX2 := hid ((hb.block _ (blk_lt HX1.out)).trans HX1.out)
 have HY2 := hid ((hb.block _ (blk_lt HY1.out)).trans HY1.out)
 have HZ2 := hid ((hb.block _ (blk_lt HZ1.out)).trans HZ1.out)
 have HB2 := hid (HB1.out.trans (hb.mono (bsz HN.out HB1.out)))
 clear hb HB1 HX1 HY1 HZ1
 obtain ⟨k0,k1,k2,k3,k4⟩ := FiveAt.of_block HX2.out
 have kf := blk_fz HX2.out
 go_upto_region 7 with fail
 clear k0 k1 k2 k3 k4 kf
 have HX3 := hid (five_set HX2.out (d0 := .slice ba bs.length bc) (d1 := .int .i64 (s1.i : Int)) (d2 := .int .i64 (s1.n : Int)) (d3 := .slice na s.names.length nc) (d4 := .int .i64 0))
 have hTs := five_turn w2 (Xb) (.slice ba bs.length bc) (.int .i64 (s1.i : Int)) (.int .i64 (s1.n : Int)) (.slice na s.names.length nc) (.int .i64 0)
 have HY3 := hid ((hTs.block (Yb) (blk_lt HY2.out) (by omega)).trans HY2.out)
 have HZ3 := hid ((hTs.block (Zb) (blk_lt HZ2.out) (by omega)).trans HZ2.out)
 have HB3 := hid (HB2.out.trans (hTs.below (bsz HN.out HB2.out) (fun i e => by omega)))
 clear hTs HB2 HX2 HY2 HZ2
 simp only [set5] at HX3 HY3 HZ3 HB3
 generalize ((((w2.setCell ⟨Xb,0,none⟩ (.slice ba bs.length bc)).setCell ⟨Xb,1,none⟩ (.int .i64 (s1.i : Int))).setCell ⟨Xb,2,none⟩ (.int .i64 (s1.n : Int))).setCell ⟨Xb,3,none⟩ (.slice na s.names.length nc)).setCell ⟨Xb,4,none⟩ (.int .i64 0) = w3 at *
 have hT := Below.heap_alloc w3 (.cells #[.int .i64 (c : Int),.int .i64 0,.complex .f64 0 0,.string ⟨#[]⟩,.int .i64 0,.int .u32 0,.int .u64 0,nilV,nilV] 31)
 have HX4 := hid ((hT _ (blk_lt HX3.out)).trans HX3.out)
 have HY4 := hid ((hT _ (blk_lt HY3.out)).trans HY3.out)
 have HZ4 := hid ((hT _ (blk_lt HZ3.out)).trans HZ3.out)
 have HT4 := hid (heap_new w3 (.cells #[.int .i64 (c : Int),.int .i64 0,.complex .f64 0 0,.string ⟨#[]⟩,.int .i64 0,.int .u32 0,.int .u64 0,nilV,nilV] 31))
 have HB4 := hid (HB3.out.alloc (bsz HN.out HB3.out) (.cells #[.int .i64 (c : Int),.int .i64 0,.complex .f64 0 0,.string ⟨#[]⟩,.int .i64 0,.int .u32 0,.int .u64 0,nilV,nilV] 31))
 have hTN : Zb < w3.heap.size := blk_lt HZ3.out
 obtain ⟨k0,k1,k2,k3,k4⟩ := FiveAt.of_block HX4.out
 go_wp2_with fail
 clear hT HX3 HY3 HZ3 HB3 k0 k1 k2 k3 k4
 generalize w3.alloc (.cells #[.int .i64 (c : Int),.int .i64 0,.complex .f64 0 0,.string ⟨#[]⟩,.int .i64 0,.int .u32 0,.int .u64 0,nilV,nilV] 31) = w4 at *
 generalize w3.heap.size = T at *
 refine (rfail0 _ _ _ _ _ _ _ _ 73 _).mono ?_
 rintro e w5 ⟨rfl,hb⟩
 have HX5 := hid ((hb.block _ (blk_lt HX4.out)).trans HX4.out)
 have HY5 := hid ((hb.block _ (blk_lt HY4.out)).trans HY4.out)
 have HZ5 := hid ((hb.block _ (blk_lt HZ4.out)).trans HZ4.out)
 have HT5 := hid ((hb.block _ (blk_lt HT4.out)).trans HT4.out)
 have HB5 := hid (HB4.out.trans (hb.mono (bsz HN.out HB4.out)))
 clear hb HB4 HX4 HY4 HZ4 HT4
 go_upto_region 54 with (refine wpList_store_row rfl 80 (.tmp 2) (.tmp 56) rfl (Xb) #[.slice ba bs.length bc,.int .i64 (s1.i : Int),.int .i64 (s1.n : Int),.slice na s.names.length nc,.int .i64 73] rfl rfl 80 #[.slice ba bs.length bc,.int .i64 (s1.i : Int),.int .i64 (s1.n : Int),.slice na s.names.length nc,.int .i64 0] HX5.out infoS rfl (by simp [Array.all,Value.oneCell']) ?_)
 have HX6 := hid (setRow_heap w5 (Xb) #[.slice ba bs.length bc,.int .i64 (s1.i : Int),.int .i64 (s1.n : Int),.slice na s.names.length nc,.int .i64 0] #[.slice ba bs.length bc,.int .i64 (s1.i : Int),.int .i64 (s1.n : Int),.slice na s.names.length nc,.int .i64 73] 80 (0,0) HX5.out)
 have HY6 := hid ((setRow_other w5 (Xb) (Yb) #[.slice ba bs.length bc,.int .i64 (s1.i : Int),.int .i64 (s1.n : Int),.slice na s.names.length nc,.int .i64 73] (by omega)).trans HY5.out)
 have HZ6 := hid ((setRow_other w5 (Xb) (Zb) #[.slice ba bs.length bc,.int .i64 (s1.i : Int),.int .i64 (s1.n : Int),.slice na s.names.length nc,.int .i64 73] (by omega)).trans HZ5.out)
 have HT6 := hid ((setRow_other w5 (Xb) (T) #[.slice ba bs.length bc,.int .i64 (s1.i : Int),.int .i64 (s1.n : Int),.slice na s.names.length nc,.int .i64 73] (by omega)).trans HT5.out)
 have HB6 := hid (HB5.out.trans ((setRow_turn w5 (Xb) #[.slice ba bs.length bc,.int .i64 (s1.i : Int),.int .i64 (s1.n : Int),.slice na s.names.length nc,.int .i64 73]).below (bsz HN.out HB5.out) (fun i e => by omega)))
 clear HB5 HX5 HY5 HZ5 HT5
 generalize w5.setRow (Xb) #[.slice ba bs.length bc,.int .i64 (s1.i : Int),.int .i64 (s1.n : Int),.slice na s.names.length nc,.int .i64 73] = w6 at *
 obtain ⟨k0,k1,k2,k3,k4⟩ := FiveAt.of_block HX6.out
 obtain ⟨t0,t1,t2,t3,t4,t5,t6,t7,t8⟩ := NineAt.of_block HT6.out
 obtain ⟨y0,y1,y2,y3,y4⟩ := FiveAt.of_block HY6.out
 obtain ⟨z0,z1,z2,z3,z4,z5,z6,z7,z8⟩ := NineAt.of_block HZ6.out
 have yf := blk_fz HY6.out
 have zf := blk_fz HZ6.out
 have hT1 : ¬ Yb = T := by omega
 have hT2 : ¬ Zb = T := by omega
 have hT3 : ¬ Yb = Xb := by omega
 have hT4 : ¬ Zb = Xb := by omega
 go_region_held3 (fun w' => w'.cell? ⟨Xb,0,none⟩ = some (.slice ba bs.length bc) ∧ w'.cell? ⟨Xb,1,none⟩ = some (.int .i64 (s1.i : Int)) ∧ w'.cell? ⟨Xb,2,none⟩ = some (.int .i64 (s1.n : Int)) ∧ w'.cell? ⟨Xb,3,none⟩ = some (.slice na s.names.length nc) ∧ w'.cell? ⟨Xb,4,none⟩ = some (.int .i64 73) ∧ w'.cell? ⟨T,0,none⟩ = some (.int .i64 (c : Int)) ∧ w'.cell? ⟨T,1,none⟩ = some (.int .i64 0) ∧ w'.cell? ⟨T,2,none⟩ = some (.complex .f64 0 0) ∧ w'.cell? ⟨T,3,none⟩ = some (.string ⟨#[]⟩) ∧ w'.cell? ⟨T,4,none⟩ = some (.int .i64 0) ∧ w'.cell? ⟨T,5,none⟩ = some (.int .u32 0) ∧ w'.cell? ⟨T,6,none⟩ = some (.int .u64 0) ∧ w'.cell? ⟨T,7,none⟩ = some (nilV) ∧ w'.cell? ⟨T,8,none⟩ = some (nilV)) (go_keep) (fail)
 rename_i hHeld
 clear hHeld hT1 hT2 hT3 hT4 k0 k1 k2 k3 k4 t0 t1 t2 t3 t4 t5 t6 t7 t8 y0 y1 y2 y3 y4 z0 z1 z2 z3 z4 z5 z6 z7 z8 yf zf
 have hYa := five_set HY6.out (d0 := .slice ba bs.length bc) (d1 := .int .i64 (s1.i : Int)) (d2 := .int .i64 (s1.n : Int)) (d3 := .slice na s.names.length nc) (d4 := .int .i64 73)
 have hTa := five_turn w6 Yb (.slice ba bs.length bc) (.int .i64 (s1.i : Int)) (.int .i64 (s1.n : Int)) (.slice na s.names.length nc) (.int .i64 73)
 have hZa := (hTa.block _ (blk_lt HZ6.out) (by omega)).trans HZ6.out
 have HBa := hid (HB6.out.trans (hTa.below (bsz HN.out HB6.out) (fun i e => by omega)))
 simp only [set5] at hYa hTa hZa HBa
 generalize ((((w6.setCell ⟨Yb,0,none⟩ (.slice ba bs.length bc)).setCell ⟨Yb,1,none⟩ (.int .i64 (s1.i : Int))).setCell ⟨Yb,2,none⟩ (.int .i64 (s1.n : Int))).setCell ⟨Yb,3,none⟩ (.slice na s.names.length nc)).setCell ⟨Yb,4,none⟩ (.int .i64 73) = wa at *
 have hZb := nine_set hZa (d0 := .int .i64 (c : Int)) (d1 := .int .i64 0) (d2 := .complex .f64 0 0) (d3 := .string ⟨#[]⟩) (d4 := .int .i64 0) (d5 := .int .u32 0) (d6 := .int .u64 0) (d7 := nilV) (d8 := nilV)
 have hTb := nine_turn wa Zb (.int .i64 (c : Int)) (.int .i64 0) (.complex .f64 0 0) (.string ⟨#[]⟩) (.int .i64 0) (.int .u32 0) (.int .u64 0) (nilV) (nilV)
 have HYb := hid ((hTb.block _ (blk_lt hYa) (by omega)).trans hYa)
 have HBb := hid (HBa.out.trans (hTb.below (bsz HN.out HBa.out) (fun i e => by omega)))
 have HTab := hid ((hTa.mono (S' := fun i => i = Yb ∨ i = Zb) fun i _ e => .inl e).trans (hTb.mono fun i _ e => .inr e))
 have HZb := hid hZb
 simp only [set9,set5] at HYb HBb HTab HZb
 clear hZb hTb hYa hTa hZa HBa
 generalize ((((((((wa.setCell ⟨Zb,0,none⟩ (.int .i64 (c : Int))).setCell ⟨Zb,1,none⟩ (.int .i64 0)).setCell ⟨Zb,2,none⟩ (.complex .f64 0 0)).setCell ⟨Zb,3,none⟩ (.string ⟨#[]⟩)).setCell ⟨Zb,4,none⟩ (.int .i64 0)).setCell ⟨Zb,5,none⟩ (.int .u32 0)).setCell ⟨Zb,6,none⟩ (.int .u64 0)).setCell ⟨Zb,7,none⟩ (nilV)).setCell ⟨Zb,8,none⟩ (nilV) = wb at *
 obtain ⟨y0,y1,y2,y3,y4⟩ := FiveAt.of_block HYb.out
 obtain ⟨z0,z1,z2,z3,z4,z5,z6,z7,z8⟩ := NineAt.of_block HZb.out
 go_wp2_with fail
 exact bodyPost_ret (v := .tuple #[.agg #[.slice ba bs.length bc,.int .i64 (s1.i : Int),.int .i64 (s1.n : Int),.slice na s.names.length nc,.int .i64 73],.agg #[.int .i64 (c : Int),.int .i64 0,.complex .f64 0 0,.string ⟨#[]⟩,.int .i64 0,.int .u32 0,.int .u64 0,nilV,nilV]]) (by simp [results,Try.results32,go_sem,y0,y1,y2,y3,y4,z0,z1,z2,z3,z4,z5,z6,z7,z8]) rfl (by rw [HK.out]; exact ⟨_,_,_,_,_,_,_,_,_,_,_,_,_,none,0,0,none,0,0,rfl,HN.out ▸ HBb.out.drew⟩)
end Go.Proofs.Ytgadkiljnebicaa
