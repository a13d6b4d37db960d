/- Several texts in one. -/
import Derived.Test.YtgadkiljnebicaaD33
import Derived.Deep.RegionHeld3
namespace Go.Proofs.Ytgadkiljnebicaa
open Go.Lib (hid)
open Go.RowKit
set_option maxRecDepth 100000
attribute [local go_sem] run_store_complex
set_option maxHeartbeats 4000000 in
theorem rq_short (ba : Option Addr) (bc : Nat) (bs : List UInt8) (s : St) (na : Option Addr) (nc : Nat) (d : Int) (hd : d ≤ 24) (w : World) (h : RfAt w ba bc bs s na nc) (hn : s.n + 1 ≤ 4096) (ho : oneP bs { s with n := s.n + 1 } = .error 72) :
  Calls Try.prog 32 #[stV ba bs.length bc s.i s.n na s.names.length nc 0,.int .i64 d] w (RPT ba bs.length bc na s.names w (.error 72)) := by
 have H := hid h
 have HO := hid ho
 have hn' : (s.n : Int) + 1 ≤ 4096 := by omega
 clear h ho
 go_enter Try.func32,Try.ntmps32
 go_wp2_with fail
 obtain ⟨hX1,hY1,hZ1,hB1⟩ := heap_new3 (w := w) (o1 := .cells #[.slice ba bs.length bc,.int .i64 (s.i : Int),.int .i64 ((s.n : Int) + 1),.slice na s.names.length nc,.int .i64 0] 80) (o2 := .cells #[nilV,.int .i64 0,.int .i64 0,nilV,.int .i64 0] 80) (o3 := .cells #[.int .i64 0,.int .i64 0,.complex .f64 0 0,.string ⟨#[]⟩,.int .i64 0,.int .u32 0,.int .u64 0,nilV,nilV] 31)
 have HX1 := hid hX1
 have HY1 := hid hY1
 have HZ1 := hid hZ1
 have HB1 := hid hB1
 clear hX1 hY1 hZ1 hB1
 generalize ((w.alloc (.cells #[.slice ba bs.length bc,.int .i64 (s.i : Int),.int .i64 ((s.n : Int) + 1),.slice na s.names.length nc,.int .i64 0] 80)).alloc (.cells #[nilV,.int .i64 0,.int .i64 0,nilV,.int .i64 0] 80)).alloc (.cells #[.int .i64 0,.int .i64 0,.complex .f64 0 0,.string ⟨#[]⟩,.int .i64 0,.int .u32 0,.int .u64 0,nilV,nilV] 31) = w1 at *
 have hXY : w.heap.size < w.heap.size + 1 := by omega
 have hYZ : w.heap.size + 1 < w.heap.size + 1 + 1 := by omega
 generalize w.heap.size + 1 + 1 = Zb at *
 generalize w.heap.size + 1 = Yb at *
 obtain ⟨Xb,hXb⟩ : ∃ X,w.heap.size = X := ⟨_,rfl⟩
 rw [hXb] at HX1 HB1 hXY ⊢
 have HN := hid hXb
 have HRf1 := hid (show RfAt w1 ba bc bs { s with n := s.n + 1 } na nc from ⟨H.out.src.below (HN.out ▸ HB1.out),H.out.nms.below (HN.out ▸ HB1.out),H.out.len,H.out.ile,by show s.n + 1 ≤ 4097; omega⟩)
 have H1 := rone_any ba bc bs { s with n := s.n + 1 } na nc w1 HRf1.out
 rw [HO.out] at H1
 clear hXb
 refine H1.mono ?_
 rintro e w2 ⟨i',n',u',rfl,rfl,hb⟩
 clear H1 HRf1
 have HX2 := hid ((hb.block _ (blk_lt HX1.out)).trans HX1.out)
 have HY2 := hid ((hb.block _ (blk_lt HY1.out)).trans HY1.out)
 have HZ2 := hid ((hb.block _ (blk_lt HZ1.out)).trans HZ1.out)
 have HB2 := hid (HB1.out.trans (hb.mono (bsz HN.out HB1.out)))
 clear hb HB1 HX1 HY1 HZ1
 obtain ⟨k0,k1,k2,k3,k4⟩ := FiveAt.of_block HX2.out
 have kf := blk_fz HX2.out
 go_upto_region 7 with fail
 clear k0 k1 k2 k3 k4 kf
 have HX3 := hid (five_set HX2.out (d0 := .slice ba bs.length bc) (d1 := .int .i64 i') (d2 := .int .i64 n') (d3 := .slice na s.names.length nc) (d4 := .int .i64 72))
 have hTs := five_turn w2 (Xb) (.slice ba bs.length bc) (.int .i64 i') (.int .i64 n') (.slice na s.names.length nc) (.int .i64 72)
 have HY3 := hid ((hTs.block (Yb) (blk_lt HY2.out) (by omega)).trans HY2.out)
 have HZ3 := hid ((hTs.block (Zb) (blk_lt HZ2.out) (by omega)).trans HZ2.out)
 have HB3 := hid (HB2.out.trans (hTs.below (bsz HN.out HB2.out) (fun i e => by omega)))
 clear hTs HB2 HX2 HY2 HZ2
 simp only [set5] at HX3 HY3 HZ3 HB3
 generalize ((((w2.setCell ⟨Xb,0,none⟩ (.slice ba bs.length bc)).setCell ⟨Xb,1,none⟩ (.int .i64 i')).setCell ⟨Xb,2,none⟩ (.int .i64 n')).setCell ⟨Xb,3,none⟩ (.slice na s.names.length nc)).setCell ⟨Xb,4,none⟩ (.int .i64 72) = w3 at *
 have hT := Below.heap_alloc w3 (.cells #[.int .i64 0,.int .i64 0,.complex .f64 0 0,.string ⟨#[]⟩,.int .i64 0,.int .u32 0,.int .u64 0,nilV,nilV] 31)
 have HX4 := hid ((hT _ (blk_lt HX3.out)).trans HX3.out)
 have HY4 := hid ((hT _ (blk_lt HY3.out)).trans HY3.out)
 have HZ4 := hid ((hT _ (blk_lt HZ3.out)).trans HZ3.out)
 have HT4 := hid (heap_new w3 (.cells #[.int .i64 0,.int .i64 0,.complex .f64 0 0,.string ⟨#[]⟩,.int .i64 0,.int .u32 0,.int .u64 0,nilV,nilV] 31))
 have HB4 := hid (HB3.out.alloc (bsz HN.out HB3.out) (.cells #[.int .i64 0,.int .i64 0,.complex .f64 0 0,.string ⟨#[]⟩,.int .i64 0,.int .u32 0,.int .u64 0,nilV,nilV] 31))
 have hTN : Zb < w3.heap.size := blk_lt HZ3.out
 obtain ⟨k0,k1,k2,k3,k4⟩ := FiveAt.of_block HX4.out
 go_wp2_with fail
 clear hT HX3 HY3 HZ3 HB3 k0 k1 k2 k3 k4
 generalize w3.alloc (.cells #[.int .i64 0,.int .i64 0,.complex .f64 0 0,.string ⟨#[]⟩,.int .i64 0,.int .u32 0,.int .u64 0,nilV,nilV] 31) = w4 at *
 generalize w3.heap.size = T at *
 obtain ⟨k0,k1,k2,k3,k4⟩ := FiveAt.of_block HX4.out
 obtain ⟨t0,t1,t2,t3,t4,t5,t6,t7,t8⟩ := NineAt.of_block HT4.out
 obtain ⟨y0,y1,y2,y3,y4⟩ := FiveAt.of_block HY4.out
 obtain ⟨z0,z1,z2,z3,z4,z5,z6,z7,z8⟩ := NineAt.of_block HZ4.out
 have yf := blk_fz HY4.out
 have zf := blk_fz HZ4.out
 have hT1 : ¬ Yb = T := by omega
 have hT2 : ¬ Zb = T := by omega
 have hT3 : ¬ Yb = Xb := by omega
 have hT4 : ¬ Zb = Xb := by omega
 go_region_held3 (fun w' => w'.cell? ⟨Xb,0,none⟩ = some (.slice ba bs.length bc) ∧ w'.cell? ⟨Xb,1,none⟩ = some (.int .i64 i') ∧ w'.cell? ⟨Xb,2,none⟩ = some (.int .i64 n') ∧ w'.cell? ⟨Xb,3,none⟩ = some (.slice na s.names.length nc) ∧ w'.cell? ⟨Xb,4,none⟩ = some (.int .i64 72) ∧ w'.cell? ⟨T,0,none⟩ = some (.int .i64 0) ∧ w'.cell? ⟨T,1,none⟩ = some (.int .i64 0) ∧ w'.cell? ⟨T,2,none⟩ = some (.complex .f64 0 0) ∧ w'.cell? ⟨T,3,none⟩ = some (.string ⟨#[]⟩) ∧ w'.cell? ⟨T,4,none⟩ = some (.int .i64 0) ∧ w'.cell? ⟨T,5,none⟩ = some (.int .u32 0) ∧ w'.cell? ⟨T,6,none⟩ = some (.int .u64 0) ∧ w'.cell? ⟨T,7,none⟩ = some (nilV) ∧ w'.cell? ⟨T,8,none⟩ = some (nilV)) (go_keep) (fail)
 rename_i hHeld
 clear hHeld hT1 hT2 hT3 hT4 k0 k1 k2 k3 k4 t0 t1 t2 t3 t4 t5 t6 t7 t8 y0 y1 y2 y3 y4 z0 z1 z2 z3 z4 z5 z6 z7 z8 yf zf
 have hYa := five_set HY4.out (d0 := .slice ba bs.length bc) (d1 := .int .i64 i') (d2 := .int .i64 n') (d3 := .slice na s.names.length nc) (d4 := .int .i64 72)
 have hTa := five_turn w4 Yb (.slice ba bs.length bc) (.int .i64 i') (.int .i64 n') (.slice na s.names.length nc) (.int .i64 72)
 have hZa := (hTa.block _ (blk_lt HZ4.out) (by omega)).trans HZ4.out
 have HBa := hid (HB4.out.trans (hTa.below (bsz HN.out HB4.out) (fun i e => by omega)))
 simp only [set5] at hYa hTa hZa HBa
 generalize ((((w4.setCell ⟨Yb,0,none⟩ (.slice ba bs.length bc)).setCell ⟨Yb,1,none⟩ (.int .i64 i')).setCell ⟨Yb,2,none⟩ (.int .i64 n')).setCell ⟨Yb,3,none⟩ (.slice na s.names.length nc)).setCell ⟨Yb,4,none⟩ (.int .i64 72) = wa at *
 have hZb := nine_set hZa (d0 := .int .i64 0) (d1 := .int .i64 0) (d2 := .complex .f64 0 0) (d3 := .string ⟨#[]⟩) (d4 := .int .i64 0) (d5 := .int .u32 0) (d6 := .int .u64 0) (d7 := nilV) (d8 := nilV)
 have hTb := nine_turn wa Zb (.int .i64 0) (.int .i64 0) (.complex .f64 0 0) (.string ⟨#[]⟩) (.int .i64 0) (.int .u32 0) (.int .u64 0) (nilV) (nilV)
 have HYb := hid ((hTb.block _ (blk_lt hYa) (by omega)).trans hYa)
 have HBb := hid (HBa.out.trans (hTb.below (bsz HN.out HBa.out) (fun i e => by omega)))
 have HTab := hid ((hTa.mono (S' := fun i => i = Yb ∨ i = Zb) fun i _ e => .inl e).trans (hTb.mono fun i _ e => .inr e))
 have HZb := hid hZb
 simp only [set9,set5] at HYb HBb HTab HZb
 clear hZb hTb hYa hTa hZa HBa
 generalize ((((((((wa.setCell ⟨Zb,0,none⟩ (.int .i64 0)).setCell ⟨Zb,1,none⟩ (.int .i64 0)).setCell ⟨Zb,2,none⟩ (.complex .f64 0 0)).setCell ⟨Zb,3,none⟩ (.string ⟨#[]⟩)).setCell ⟨Zb,4,none⟩ (.int .i64 0)).setCell ⟨Zb,5,none⟩ (.int .u32 0)).setCell ⟨Zb,6,none⟩ (.int .u64 0)).setCell ⟨Zb,7,none⟩ (nilV)).setCell ⟨Zb,8,none⟩ (nilV) = wb at *
 obtain ⟨y0,y1,y2,y3,y4⟩ := FiveAt.of_block HYb.out
 obtain ⟨z0,z1,z2,z3,z4,z5,z6,z7,z8⟩ := NineAt.of_block HZb.out
 go_wp2_with fail
 exact bodyPost_ret (v := .tuple #[.agg #[.slice ba bs.length bc,.int .i64 i',.int .i64 n',.slice na s.names.length nc,.int .i64 72],.agg #[.int .i64 0,.int .i64 0,.complex .f64 0 0,.string ⟨#[]⟩,.int .i64 0,.int .u32 0,.int .u64 0,nilV,nilV]]) (by simp [results,Try.results32,go_sem,y0,y1,y2,y3,y4,z0,z1,z2,z3,z4,z5,z6,z7,z8]) rfl ⟨_,_,_,_,_,_,_,_,_,_,_,_,_,none,0,0,none,0,0,rfl,HN.out ▸ HBb.out.drew⟩
set_option maxHeartbeats 4000000 in
theorem rq_deep0 (ba : Option Addr) (bc : Nat) (bs : List UInt8) (s : St) (na : Option Addr) (nc : Nat) (d : Int) (hd : 24 < d) (w : World) (h : RfAt w ba bc bs s na nc) (hn : s.n + 1 ≤ 4096) :
  Calls Try.prog 32 #[stV ba bs.length bc s.i s.n na s.names.length nc 0,.int .i64 d] w (RPT ba bs.length bc na s.names w (.error 20)) := by
 have hn' : (s.n : Int) + 1 ≤ 4096 := by omega
 have hnl : (s.n : Int) ≤ 4097 := by have := h.nle; omega
 clear h
 go_enter Try.func32,Try.ntmps32
 go_wp2_with fail
 obtain ⟨hX1,hY1,hZ1,hB1⟩ := heap_new3 (w := w) (o1 := .cells #[.slice ba bs.length bc,.int .i64 (s.i : Int),.int .i64 (s.n : Int),.slice na s.names.length nc,.int .i64 0] 80) (o2 := .cells #[nilV,.int .i64 0,.int .i64 0,nilV,.int .i64 0] 80) (o3 := .cells #[.int .i64 0,.int .i64 0,.complex .f64 0 0,.string ⟨#[]⟩,.int .i64 0,.int .u32 0,.int .u64 0,nilV,nilV] 31)
 have HX1 := hid hX1
 have HY1 := hid hY1
 have HZ1 := hid hZ1
 have HB1 := hid hB1
 clear hX1 hY1 hZ1 hB1
 generalize ((w.alloc (.cells #[.slice ba bs.length bc,.int .i64 (s.i : Int),.int .i64 (s.n : Int),.slice na s.names.length nc,.int .i64 0] 80)).alloc (.cells #[nilV,.int .i64 0,.int .i64 0,nilV,.int .i64 0] 80)).alloc (.cells #[.int .i64 0,.int .i64 0,.complex .f64 0 0,.string ⟨#[]⟩,.int .i64 0,.int .u32 0,.int .u64 0,nilV,nilV] 31) = w1 at *
 have hXY : w.heap.size < w.heap.size + 1 := by omega
 have hYZ : w.heap.size + 1 < w.heap.size + 1 + 1 := by omega
 generalize w.heap.size + 1 + 1 = Zb at *
 generalize w.heap.size + 1 = Yb at *
 obtain ⟨Xb,hXb⟩ : ∃ X,w.heap.size = X := ⟨_,rfl⟩
 rw [hXb] at HX1 HB1 hXY ⊢
 have HN := hid hXb
 clear hXb
 refine (rfail0 _ _ _ _ _ _ _ _ 20 _).mono ?_
 rintro e w2 ⟨rfl,hb⟩
 have HX2 := hid ((hb.block _ (blk_lt HX1.out)).trans HX1.out)
 have HY2 := hid ((hb.block _ (blk_lt HY1.out)).trans HY1.out)
 have HZ2 := hid ((hb.block _ (blk_lt HZ1.out)).trans HZ1.out)
 have HB2 := hid (HB1.out.trans (hb.mono (bsz HN.out HB1.out)))
 clear hb HB1 HX1 HY1 HZ1
 go_upto_region 3 with (refine wpList_store_row rfl 80 (.tmp 2) (.tmp 31) rfl (Xb) #[.slice ba bs.length bc,.int .i64 (s.i : Int),.int .i64 (s.n : Int),.slice na s.names.length nc,.int .i64 20] rfl rfl 80 #[.slice ba bs.length bc,.int .i64 (s.i : Int),.int .i64 (s.n : Int),.slice na s.names.length nc,.int .i64 0] HX2.out infoS rfl (by simp [Array.all,Value.oneCell']) ?_)
 have HX3 := hid (setRow_heap w2 (Xb) #[.slice ba bs.length bc,.int .i64 (s.i : Int),.int .i64 (s.n : Int),.slice na s.names.length nc,.int .i64 0] #[.slice ba bs.length bc,.int .i64 (s.i : Int),.int .i64 (s.n : Int),.slice na s.names.length nc,.int .i64 20] 80 (0,0) HX2.out)
 have HY3 := hid ((setRow_other w2 (Xb) (Yb) #[.slice ba bs.length bc,.int .i64 (s.i : Int),.int .i64 (s.n : Int),.slice na s.names.length nc,.int .i64 20] (by omega)).trans HY2.out)
 have HZ3 := hid ((setRow_other w2 (Xb) (Zb) #[.slice ba bs.length bc,.int .i64 (s.i : Int),.int .i64 (s.n : Int),.slice na s.names.length nc,.int .i64 20] (by omega)).trans HZ2.out)
 have HB3 := hid (HB2.out.trans ((setRow_turn w2 (Xb) #[.slice ba bs.length bc,.int .i64 (s.i : Int),.int .i64 (s.n : Int),.slice na s.names.length nc,.int .i64 20]).below (bsz HN.out HB2.out) (fun i e => by omega)))
 clear HB2 HX2 HY2 HZ2
 generalize w2.setRow (Xb) #[.slice ba bs.length bc,.int .i64 (s.i : Int),.int .i64 (s.n : Int),.slice na s.names.length nc,.int .i64 20] = w3 at *
 obtain ⟨k0,k1,k2,k3,k4⟩ := FiveAt.of_block HX3.out
 have kf := blk_fz HX3.out
 go_upto_region 4 with fail
 clear k0 k1 k2 k3 k4 kf
 have HX4 : Hid ((w3.setCell ⟨Xb,2,none⟩ (.int .i64 ((s.n : Int) + 1))).heap[Xb]? = some (.cells #[.slice ba bs.length bc,.int .i64 (s.i : Int),.int .i64 ((s.n : Int) + 1),.slice na s.names.length nc,.int .i64 20] 80 (0,0))) := heap_setCell_at HX3.out
 have HY4 := hid ((Below.heap_setCell w3 ⟨Xb,2,none⟩ (.int .i64 ((s.n : Int) + 1)) Yb (by show ¬ Yb = Xb; omega)).trans HY3.out)
 have HZ4 := hid ((Below.heap_setCell w3 ⟨Xb,2,none⟩ (.int .i64 ((s.n : Int) + 1)) Zb (by show ¬ Zb = Xb; omega)).trans HZ3.out)
 have HB4 := hid (HB3.out.setCell (p := ⟨Xb,2,none⟩) (Nat.le_refl _) (.int .i64 ((s.n : Int) + 1)))
 clear HX3 HY3 HZ3 HB3
 generalize w3.setCell ⟨Xb,2,none⟩ (.int .i64 ((s.n : Int) + 1)) = w4 at *
 obtain ⟨k0,k1,k2,k3,k4⟩ := FiveAt.of_block HX4.out
 go_wp2_with fail
 refine (rone_e _ _ _ _ _ _ _ _ 20 (by decide) _).mono ?_
 rintro e w5 ⟨rfl,hb⟩
 clear k0 k1 k2 k3 k4
 have HX5 := hid ((hb.block _ (blk_lt HX4.out)).trans HX4.out)
 have HY5 := hid ((hb.block _ (blk_lt HY4.out)).trans HY4.out)
 have HZ5 := hid ((hb.block _ (blk_lt HZ4.out)).trans HZ4.out)
 have HB5 := hid (HB4.out.trans (hb.mono (bsz HN.out HB4.out)))
 clear hb HB4 HX4 HY4 HZ4
 obtain ⟨k0,k1,k2,k3,k4⟩ := FiveAt.of_block HX5.out
 have kf := blk_fz HX5.out
 go_upto_region 7 with fail
 clear k0 k1 k2 k3 k4 kf
 have HX6 := hid (five_set HX5.out (d0 := .slice ba bs.length bc) (d1 := .int .i64 (s.i : Int)) (d2 := .int .i64 ((s.n : Int) + 1)) (d3 := .slice na s.names.length nc) (d4 := .int .i64 20))
 have hTs := five_turn w5 (Xb) (.slice ba bs.length bc) (.int .i64 (s.i : Int)) (.int .i64 ((s.n : Int) + 1)) (.slice na s.names.length nc) (.int .i64 20)
 have HY6 := hid ((hTs.block (Yb) (blk_lt HY5.out) (by omega)).trans HY5.out)
 have HZ6 := hid ((hTs.block (Zb) (blk_lt HZ5.out) (by omega)).trans HZ5.out)
 have HB6 := hid (HB5.out.trans (hTs.below (bsz HN.out HB5.out) (fun i e => by omega)))
 clear hTs HB5 HX5 HY5 HZ5
 simp only [set5] at HX6 HY6 HZ6 HB6
 generalize ((((w5.setCell ⟨Xb,0,none⟩ (.slice ba bs.length bc)).setCell ⟨Xb,1,none⟩ (.int .i64 (s.i : Int))).setCell ⟨Xb,2,none⟩ (.int .i64 ((s.n : Int) + 1))).setCell ⟨Xb,3,none⟩ (.slice na s.names.length nc)).setCell ⟨Xb,4,none⟩ (.int .i64 20) = w6 at *
 have hT := Below.heap_alloc w6 (.cells #[.int .i64 0,.int .i64 0,.complex .f64 0 0,.string ⟨#[]⟩,.int .i64 0,.int .u32 0,.int .u64 0,nilV,nilV] 31)
 have HX7 := hid ((hT _ (blk_lt HX6.out)).trans HX6.out)
 have HY7 := hid ((hT _ (blk_lt HY6.out)).trans HY6.out)
 have HZ7 := hid ((hT _ (blk_lt HZ6.out)).trans HZ6.out)
 have HT7 := hid (heap_new w6 (.cells #[.int .i64 0,.int .i64 0,.complex .f64 0 0,.string ⟨#[]⟩,.int .i64 0,.int .u32 0,.int .u64 0,nilV,nilV] 31))
 have HB7 := hid (HB6.out.alloc (bsz HN.out HB6.out) (.cells #[.int .i64 0,.int .i64 0,.complex .f64 0 0,.string ⟨#[]⟩,.int .i64 0,.int .u32 0,.int .u64 0,nilV,nilV] 31))
 have hTN : Zb < w6.heap.size := blk_lt HZ6.out
 obtain ⟨k0,k1,k2,k3,k4⟩ := FiveAt.of_block HX7.out
 go_wp2_with fail
 clear hT HX6 HY6 HZ6 HB6 k0 k1 k2 k3 k4
 generalize w6.alloc (.cells #[.int .i64 0,.int .i64 0,.complex .f64 0 0,.string ⟨#[]⟩,.int .i64 0,.int .u32 0,.int .u64 0,nilV,nilV] 31) = w7 at *
 generalize w6.heap.size = T at *
 obtain ⟨k0,k1,k2,k3,k4⟩ := FiveAt.of_block HX7.out
 obtain ⟨t0,t1,t2,t3,t4,t5,t6,t7,t8⟩ := NineAt.of_block HT7.out
 obtain ⟨y0,y1,y2,y3,y4⟩ := FiveAt.of_block HY7.out
 obtain ⟨z0,z1,z2,z3,z4,z5,z6,z7,z8⟩ := NineAt.of_block HZ7.out
 have yf := blk_fz HY7.out
 have zf := blk_fz HZ7.out
 have hT1 : ¬ Yb = T := by omega
 have hT2 : ¬ Zb = T := by omega
 have hT3 : ¬ Yb = Xb := by omega
 have hT4 : ¬ Zb = Xb := by omega
 go_region_held3 (fun w' => w'.cell? ⟨Xb,0,none⟩ = some (.slice ba bs.length bc) ∧ w'.cell? ⟨Xb,1,none⟩ = some (.int .i64 (s.i : Int)) ∧ w'.cell? ⟨Xb,2,none⟩ = some (.int .i64 ((s.n : Int) + 1)) ∧ w'.cell? ⟨Xb,3,none⟩ = some (.slice na s.names.length nc) ∧ w'.cell? ⟨Xb,4,none⟩ = some (.int .i64 20) ∧ w'.cell? ⟨T,0,none⟩ = some (.int .i64 0) ∧ w'.cell? ⟨T,1,none⟩ = some (.int .i64 0) ∧ w'.cell? ⟨T,2,none⟩ = some (.complex .f64 0 0) ∧ w'.cell? ⟨T,3,none⟩ = some (.string ⟨#[]⟩) ∧ w'.cell? ⟨T,4,none⟩ = some (.int .i64 0) ∧ w'.cell? ⟨T,5,none⟩ = some (.int .u32 0) ∧ w'.cell? ⟨T,6,none⟩ = some (.int .u64 0) ∧ w'.cell? ⟨T,7,none⟩ = some (nilV) ∧ w'.cell? ⟨T,8,none⟩ = some (nilV)) (go_keep) (fail)
 rename_i hHeld
 clear hHeld hT1 hT2 hT3 hT4 k0 k1 k2 k3 k4 t0 t1 t2 t3 t4 t5 t6 t7 t8 y0 y1 y2 y3 y4 z0 z1 z2 z3 z4 z5 z6 z7 z8 yf zf
 have hYa := five_set HY7.out (d0 := .slice ba bs.length bc) (d1 := .int .i64 (s.i : Int)) (d2 := .int .i64 ((s.n : Int) + 1)) (d3 := .slice na s.names.length nc) (d4 := .int .i64 20)
 have hTa := five_turn w7 Yb (.slice ba bs.length bc) (.int .i64 (s.i : Int)) (.int .i64 ((s.n : Int) + 1)) (.slice na s.names.length nc) (.int .i64 20)
 have hZa := (hTa.block _ (blk_lt HZ7.out) (by omega)).trans HZ7.out
 have HBa := hid (HB7.out.trans (hTa.below (bsz HN.out HB7.out) (fun i e => by omega)))
 simp only [set5] at hYa hTa hZa HBa
 generalize ((((w7.setCell ⟨Yb,0,none⟩ (.slice ba bs.length bc)).setCell ⟨Yb,1,none⟩ (.int .i64 (s.i : Int))).setCell ⟨Yb,2,none⟩ (.int .i64 ((s.n : Int) + 1))).setCell ⟨Yb,3,none⟩ (.slice na s.names.length nc)).setCell ⟨Yb,4,none⟩ (.int .i64 20) = wa at *
 have hZb := nine_set hZa (d0 := .int .i64 0) (d1 := .int .i64 0) (d2 := .complex .f64 0 0) (d3 := .string ⟨#[]⟩) (d4 := .int .i64 0) (d5 := .int .u32 0) (d6 := .int .u64 0) (d7 := nilV) (d8 := nilV)
 have hTb := nine_turn wa Zb (.int .i64 0) (.int .i64 0) (.complex .f64 0 0) (.string ⟨#[]⟩) (.int .i64 0) (.int .u32 0) (.int .u64 0) (nilV) (nilV)
 have HYb := hid ((hTb.block _ (blk_lt hYa) (by omega)).trans hYa)
 have HBb := hid (HBa.out.trans (hTb.below (bsz HN.out HBa.out) (fun i e => by omega)))
 have HTab := hid ((hTa.mono (S' := fun i => i = Yb ∨ i = Zb) fun i _ e => .inl e).trans (hTb.mono fun i _ e => .inr e))
 have HZb := hid hZb
 simp only [set9,set5] at HYb HBb HTab HZb
 clear hZb hTb hYa hTa hZa HBa
 generalize ((((((((wa.setCell ⟨Zb,0,none⟩ (.int .i64 0)).setCell ⟨Zb,1,none⟩ (.int .i64 0)).setCell ⟨Zb,2,none⟩ (.complex .f64 0 0)).setCell ⟨Zb,3,none⟩ (.string ⟨#[]⟩)).setCell ⟨Zb,4,none⟩ (.int .i64 0)).setCell ⟨Zb,5,none⟩ (.int .u32 0)).setCell ⟨Zb,6,none⟩ (.int .u64 0)).setCell ⟨Zb,7,none⟩ (nilV)).setCell ⟨Zb,8,none⟩ (nilV) = wb at *
 obtain ⟨y0,y1,y2,y3,y4⟩ := FiveAt.of_block HYb.out
 obtain ⟨z0,z1,z2,z3,z4,z5,z6,z7,z8⟩ := NineAt.of_block HZb.out
 go_wp2_with fail
 exact bodyPost_ret (v := .tuple #[.agg #[.slice ba bs.length bc,.int .i64 (s.i : Int),.int .i64 ((s.n : Int) + 1),.slice na s.names.length nc,.int .i64 20],.agg #[.int .i64 0,.int .i64 0,.complex .f64 0 0,.string ⟨#[]⟩,.int .i64 0,.int .u32 0,.int .u64 0,nilV,nilV]]) (by simp [results,Try.results32,go_sem,y0,y1,y2,y3,y4,z0,z1,z2,z3,z4,z5,z6,z7,z8]) rfl ⟨_,_,_,_,_,_,_,_,_,_,_,_,_,none,0,0,none,0,0,rfl,HN.out ▸ HBb.out.drew⟩
set_option maxHeartbeats 4000000 in
theorem rq_deep1 (ba : Option Addr) (bc : Nat) (bs : List UInt8) (s : St) (na : Option Addr) (nc : Nat) (d : Int) (hd : 24 < d) (w : World) (h : RfAt w ba bc bs s na nc) (hn : 4096 < s.n + 1) :
  Calls Try.prog 32 #[stV ba bs.length bc s.i s.n na s.names.length nc 0,.int .i64 d] w (RPT ba bs.length bc na s.names w (.error 20)) := by
 have hn' : (4096 : Int) < (s.n : Int) + 1 := by omega
 have hnl : (s.n : Int) ≤ 4097 := by have := h.nle; omega
 clear h
 go_enter Try.func32,Try.ntmps32
 go_wp2_with fail
 obtain ⟨hX1,hY1,hZ1,hB1⟩ := heap_new3 (w := w) (o1 := .cells #[.slice ba bs.length bc,.int .i64 (s.i : Int),.int .i64 (s.n : Int),.slice na s.names.length nc,.int .i64 0] 80) (o2 := .cells #[nilV,.int .i64 0,.int .i64 0,nilV,.int .i64 0] 80) (o3 := .cells #[.int .i64 0,.int .i64 0,.complex .f64 0 0,.string ⟨#[]⟩,.int .i64 0,.int .u32 0,.int .u64 0,nilV,nilV] 31)
 have HX1 := hid hX1
 have HY1 := hid hY1
 have HZ1 := hid hZ1
 have HB1 := hid hB1
 clear hX1 hY1 hZ1 hB1
 generalize ((w.alloc (.cells #[.slice ba bs.length bc,.int .i64 (s.i : Int),.int .i64 (s.n : Int),.slice na s.names.length nc,.int .i64 0] 80)).alloc (.cells #[nilV,.int .i64 0,.int .i64 0,nilV,.int .i64 0] 80)).alloc (.cells #[.int .i64 0,.int .i64 0,.complex .f64 0 0,.string ⟨#[]⟩,.int .i64 0,.int .u32 0,.int .u64 0,nilV,nilV] 31) = w1 at *
 have hXY : w.heap.size < w.heap.size + 1 := by omega
 have hYZ : w.heap.size + 1 < w.heap.size + 1 + 1 := by omega
 generalize w.heap.size + 1 + 1 = Zb at *
 generalize w.heap.size + 1 = Yb at *
 obtain ⟨Xb,hXb⟩ : ∃ X,w.heap.size = X := ⟨_,rfl⟩
 rw [hXb] at HX1 HB1 hXY ⊢
 have HN := hid hXb
 clear hXb
 refine (rfail0 _ _ _ _ _ _ _ _ 20 _).mono ?_
 rintro e w2 ⟨rfl,hb⟩
 have HX2 := hid ((hb.block _ (blk_lt HX1.out)).trans HX1.out)
 have HY2 := hid ((hb.block _ (blk_lt HY1.out)).trans HY1.out)
 have HZ2 := hid ((hb.block _ (blk_lt HZ1.out)).trans HZ1.out)
 have HB2 := hid (HB1.out.trans (hb.mono (bsz HN.out HB1.out)))
 clear hb HB1 HX1 HY1 HZ1
 go_upto_region 3 with (refine wpList_store_row rfl 80 (.tmp 2) (.tmp 31) rfl (Xb) #[.slice ba bs.length bc,.int .i64 (s.i : Int),.int .i64 (s.n : Int),.slice na s.names.length nc,.int .i64 20] rfl rfl 80 #[.slice ba bs.length bc,.int .i64 (s.i : Int),.int .i64 (s.n : Int),.slice na s.names.length nc,.int .i64 0] HX2.out infoS rfl (by simp [Array.all,Value.oneCell']) ?_)
 have HX3 := hid (setRow_heap w2 (Xb) #[.slice ba bs.length bc,.int .i64 (s.i : Int),.int .i64 (s.n : Int),.slice na s.names.length nc,.int .i64 0] #[.slice ba bs.length bc,.int .i64 (s.i : Int),.int .i64 (s.n : Int),.slice na s.names.length nc,.int .i64 20] 80 (0,0) HX2.out)
 have HY3 := hid ((setRow_other w2 (Xb) (Yb) #[.slice ba bs.length bc,.int .i64 (s.i : Int),.int .i64 (s.n : Int),.slice na s.names.length nc,.int .i64 20] (by omega)).trans HY2.out)
 have HZ3 := hid ((setRow_other w2 (Xb) (Zb) #[.slice ba bs.length bc,.int .i64 (s.i : Int),.int .i64 (s.n : Int),.slice na s.names.length nc,.int .i64 20] (by omega)).trans HZ2.out)
 have HB3 := hid (HB2.out.trans ((setRow_turn w2 (Xb) #[.slice ba bs.length bc,.int .i64 (s.i : Int),.int .i64 (s.n : Int),.slice na s.names.length nc,.int .i64 20]).below (bsz HN.out HB2.out) (fun i e => by omega)))
 clear HB2 HX2 HY2 HZ2
 generalize w2.setRow (Xb) #[.slice ba bs.length bc,.int .i64 (s.i : Int),.int .i64 (s.n : Int),.slice na s.names.length nc,.int .i64 20] = w3 at *
 obtain ⟨k0,k1,k2,k3,k4⟩ := FiveAt.of_block HX3.out
 have kf := blk_fz HX3.out
 go_upto_region 4 with fail
 clear k0 k1 k2 k3 k4 kf
 have HX4 : Hid ((w3.setCell ⟨Xb,2,none⟩ (.int .i64 ((s.n : Int) + 1))).heap[Xb]? = some (.cells #[.slice ba bs.length bc,.int .i64 (s.i : Int),.int .i64 ((s.n : Int) + 1),.slice na s.names.length nc,.int .i64 20] 80 (0,0))) := heap_setCell_at HX3.out
 have HY4 := hid ((Below.heap_setCell w3 ⟨Xb,2,none⟩ (.int .i64 ((s.n : Int) + 1)) Yb (by show ¬ Yb = Xb; omega)).trans HY3.out)
 have HZ4 := hid ((Below.heap_setCell w3 ⟨Xb,2,none⟩ (.int .i64 ((s.n : Int) + 1)) Zb (by show ¬ Zb = Xb; omega)).trans HZ3.out)
 have HB4 := hid (HB3.out.setCell (p := ⟨Xb,2,none⟩) (Nat.le_refl _) (.int .i64 ((s.n : Int) + 1)))
 clear HX3 HY3 HZ3 HB3
 generalize w3.setCell ⟨Xb,2,none⟩ (.int .i64 ((s.n : Int) + 1)) = w4 at *
 obtain ⟨k0,k1,k2,k3,k4⟩ := FiveAt.of_block HX4.out
 go_wp2_with fail
 refine (rfail1 _ _ _ _ _ _ _ _ 20 21 (by decide) _).mono ?_
 rintro e w5 ⟨rfl,hb⟩
 clear k0 k1 k2 k3 k4
 have HX5 := hid ((hb.block _ (blk_lt HX4.out)).trans HX4.out)
 have HY5 := hid ((hb.block _ (blk_lt HY4.out)).trans HY4.out)
 have HZ5 := hid ((hb.block _ (blk_lt HZ4.out)).trans HZ4.out)
 have HB5 := hid (HB4.out.trans (hb.mono (bsz HN.out HB4.out)))
 clear hb HB4 HX4 HY4 HZ4
 go_upto_region 6 with (refine wpList_store_row rfl 80 (.tmp 2) (.tmp 40) rfl (Xb) #[.slice ba bs.length bc,.int .i64 (s.i : Int),.int .i64 ((s.n : Int) + 1),.slice na s.names.length nc,.int .i64 20] rfl rfl 80 #[.slice ba bs.length bc,.int .i64 (s.i : Int),.int .i64 ((s.n : Int) + 1),.slice na s.names.length nc,.int .i64 20] HX5.out infoS rfl (by simp [Array.all,Value.oneCell']) ?_)
 have HX6 := hid (setRow_heap w5 (Xb) #[.slice ba bs.length bc,.int .i64 (s.i : Int),.int .i64 ((s.n : Int) + 1),.slice na s.names.length nc,.int .i64 20] #[.slice ba bs.length bc,.int .i64 (s.i : Int),.int .i64 ((s.n : Int) + 1),.slice na s.names.length nc,.int .i64 20] 80 (0,0) HX5.out)
 have HY6 := hid ((setRow_other w5 (Xb) (Yb) #[.slice ba bs.length bc,.int .i64 (s.i : Int),.int .i64 ((s.n : Int) + 1),.slice na s.names.length nc,.int .i64 20] (by omega)).trans HY5.out)
 have HZ6 := hid ((setRow_other w5 (Xb) (Zb) #[.slice ba bs.length bc,.int .i64 (s.i : Int),.int .i64 ((s.n : Int) + 1),.slice na s.names.length nc,.int .i64 20] (by omega)).trans HZ5.out)
 have HB6 := hid (HB5.out.trans ((setRow_turn w5 (Xb) #[.slice ba bs.length bc,.int .i64 (s.i : Int),.int .i64 ((s.n : Int) + 1),.slice na s.names.length nc,.int .i64 20]).below (bsz HN.out HB5.out) (fun i e => by omega)))
 clear HB5 HX5 HY5 HZ5
 generalize w5.setRow (Xb) #[.slice ba bs.length bc,.int .i64 (s.i : Int),.int .i64 ((s.n : Int) + 1),.slice na s.names.length nc,.int .i64 20] = w6 at *
 obtain ⟨k0,k1,k2,k3,k4⟩ := FiveAt.of_block HX6.out
 go_wp2_with fail
 refine (rone_e _ _ _ _ _ _ _ _ 20 (by decide) _).mono ?_
 rintro e w7 ⟨rfl,hb⟩
 clear k0 k1 k2 k3 k4
 have HX7 := hid ((hb.block _ (blk_lt HX6.out)).trans HX6.out)
 have HY7 := hid ((hb.block _ (blk_lt HY6.out)).trans HY6.out)
 have HZ7 := hid ((hb.block _ (blk_lt HZ6.out)).trans HZ6.out)
 have HB7 := hid (HB6.out.trans (hb.mono (bsz HN.out HB6.out)))
 clear hb HB6 HX6 HY6 HZ6
 obtain ⟨k0,k1,k2,k3,k4⟩ := FiveAt.of_block HX7.out
 have kf := blk_fz HX7.out
 go_upto_region 7 with fail
 clear k0 k1 k2 k3 k4 kf
 have HX8 := hid (five_set HX7.out (d0 := .slice ba bs.length bc) (d1 := .int .i64 (s.i : Int)) (d2 := .int .i64 ((s.n : Int) + 1)) (d3 := .slice na s.names.length nc) (d4 := .int .i64 20))
 have hTs := five_turn w7 (Xb) (.slice ba bs.length bc) (.int .i64 (s.i : Int)) (.int .i64 ((s.n : Int) + 1)) (.slice na s.names.length nc) (.int .i64 20)
 have HY8 := hid ((hTs.block (Yb) (blk_lt HY7.out) (by omega)).trans HY7.out)
 have HZ8 := hid ((hTs.block (Zb) (blk_lt HZ7.out) (by omega)).trans HZ7.out)
 have HB8 := hid (HB7.out.trans (hTs.below (bsz HN.out HB7.out) (fun i e => by omega)))
 clear hTs HB7 HX7 HY7 HZ7
 simp only [set5] at HX8 HY8 HZ8 HB8
 generalize ((((w7.setCell ⟨Xb,0,none⟩ (.slice ba bs.length bc)).setCell ⟨Xb,1,none⟩ (.int .i64 (s.i : Int))).setCell ⟨Xb,2,none⟩ (.int .i64 ((s.n : Int) + 1))).setCell ⟨Xb,3,none⟩ (.slice na s.names.length nc)).setCell ⟨Xb,4,none⟩ (.int .i64 20) = w8 at *
 have hT := Below.heap_alloc w8 (.cells #[.int .i64 0,.int .i64 0,.complex .f64 0 0,.string ⟨#[]⟩,.int .i64 0,.int .u32 0,.int .u64 0,nilV,nilV] 31)
 have HX9 := hid ((hT _ (blk_lt HX8.out)).trans HX8.out)
 have HY9 := hid ((hT _ (blk_lt HY8.out)).trans HY8.out)
 have HZ9 := hid ((hT _ (blk_lt HZ8.out)).trans HZ8.out)
 have HT9 := hid (heap_new w8 (.cells #[.int .i64 0,.int .i64 0,.complex .f64 0 0,.string ⟨#[]⟩,.int .i64 0,.int .u32 0,.int .u64 0,nilV,nilV] 31))
 have HB9 := hid (HB8.out.alloc (bsz HN.out HB8.out) (.cells #[.int .i64 0,.int .i64 0,.complex .f64 0 0,.string ⟨#[]⟩,.int .i64 0,.int .u32 0,.int .u64 0,nilV,nilV] 31))
 have hTN : Zb < w8.heap.size := blk_lt HZ8.out
 obtain ⟨k0,k1,k2,k3,k4⟩ := FiveAt.of_block HX9.out
 go_wp2_with fail
 clear hT HX8 HY8 HZ8 HB8 k0 k1 k2 k3 k4
 generalize w8.alloc (.cells #[.int .i64 0,.int .i64 0,.complex .f64 0 0,.string ⟨#[]⟩,.int .i64 0,.int .u32 0,.int .u64 0,nilV,nilV] 31) = w9 at *
 generalize w8.heap.size = T at *
 obtain ⟨k0,k1,k2,k3,k4⟩ := FiveAt.of_block HX9.out
 obtain ⟨t0,t1,t2,t3,t4,t5,t6,t7,t8⟩ := NineAt.of_block HT9.out
 obtain ⟨y0,y1,y2,y3,y4⟩ := FiveAt.of_block HY9.out
 obtain ⟨z0,z1,z2,z3,z4,z5,z6,z7,z8⟩ := NineAt.of_block HZ9.out
 have yf := blk_fz HY9.out
 have zf := blk_fz HZ9.out
 have hT1 : ¬ Yb = T := by omega
 have hT2 : ¬ Zb = T := by omega
 have hT3 : ¬ Yb = Xb := by omega
 have hT4 : ¬ Zb = Xb := by omega
 go_region_held3 (fun w' => w'.cell? ⟨Xb,0,none⟩ = some (.slice ba bs.length bc) ∧ w'.cell? ⟨Xb,1,none⟩ = some (.int .i64 (s.i : Int)) ∧ w'.cell? ⟨Xb,2,none⟩ = some (.int .i64 ((s.n : Int) + 1)) ∧ w'.cell? ⟨Xb,3,none⟩ = some (.slice na s.names.length nc) ∧ w'.cell? ⟨Xb,4,none⟩ = some (.int .i64 20) ∧ w'.cell? ⟨T,0,none⟩ = some (.int .i64 0) ∧ w'.cell? ⟨T,1,none⟩ = some (.int .i64 0) ∧ w'.cell? ⟨T,2,none⟩ = some (.complex .f64 0 0) ∧ w'.cell? ⟨T,3,none⟩ = some (.string ⟨#[]⟩) ∧ w'.cell? ⟨T,4,none⟩ = some (.int .i64 0) ∧ w'.cell? ⟨T,5,none⟩ = some (.int .u32 0) ∧ w'.cell? ⟨T,6,none⟩ = some (.int .u64 0) ∧ w'.cell? ⟨T,7,none⟩ = some (nilV) ∧ w'.cell? ⟨T,8,none⟩ = some (nilV)) (go_keep) (fail)
 rename_i hHeld
 clear hHeld hT1 hT2 hT3 hT4 k0 k1 k2 k3 k4 t0 t1 t2 t3 t4 t5 t6 t7 t8 y0 y1 y2 y3 y4 z0 z1 z2 z3 z4 z5 z6 z7 z8 yf zf
 have hYa := five_set HY9.out (d0 := .slice ba bs.length bc) (d1 := .int .i64 (s.i : Int)) (d2 := .int .i64 ((s.n : Int) + 1)) (d3 := .slice na s.names.length nc) (d4 := .int .i64 20)
 have hTa := five_turn w9 Yb (.slice ba bs.length bc) (.int .i64 (s.i : Int)) (.int .i64 ((s.n : Int) + 1)) (.slice na s.names.length nc) (.int .i64 20)
 have hZa := (hTa.block _ (blk_lt HZ9.out) (by omega)).trans HZ9.out
 have HBa := hid (HB9.out.trans (hTa.below (bsz HN.out HB9.out) (fun i e => by omega)))
 simp only [set5] at hYa hTa hZa HBa
 generalize ((((w9.setCell ⟨Yb,0,none⟩ (.slice ba bs.length bc)).setCell ⟨Yb,1,none⟩ (.int .i64 (s.i : Int))).setCell ⟨Yb,2,none⟩ (.int .i64 ((s.n : Int) + 1))).setCell ⟨Yb,3,none⟩ (.slice na s.names.length nc)).setCell ⟨Yb,4,none⟩ (.int .i64 20) = wa at *
 have hZb := nine_set hZa (d0 := .int .i64 0) (d1 := .int .i64 0) (d2 := .complex .f64 0 0) (d3 := .string ⟨#[]⟩) (d4 := .int .i64 0) (d5 := .int .u32 0) (d6 := .int .u64 0) (d7 := nilV) (d8 := nilV)
 have hTb := nine_turn wa Zb (.int .i64 0) (.int .i64 0) (.complex .f64 0 0) (.string ⟨#[]⟩) (.int .i64 0) (.int .u32 0) (.int .u64 0) (nilV) (nilV)
 have HYb := hid ((hTb.block _ (blk_lt hYa) (by omega)).trans hYa)
 have HBb := hid (HBa.out.trans (hTb.below (bsz HN.out HBa.out) (fun i e => by omega)))
 have HTab := hid ((hTa.mono (S' := fun i => i = Yb ∨ i = Zb) fun i _ e => .inl e).trans (hTb.mono fun i _ e => .inr e))
 have HZb := hid hZb
 simp only [set9,set5] at HYb HBb HTab HZb
 clear hZb hTb hYa hTa hZa HBa
 generalize ((((((((wa.setCell ⟨Zb,0,none⟩ (.int .i64 0)).setCell ⟨Zb,1,none⟩ (.int .i64 0)).setCell ⟨Zb,2,none⟩ (.complex .f64 0 0)).setCell ⟨Zb,3,none⟩ (.string ⟨#[]⟩)).setCell ⟨Zb,4,none⟩ (.int .i64 0)).setCell ⟨Zb,5,none⟩ (.int .u32 0)).setCell ⟨Zb,6,none⟩ (.int .u64 0)).setCell ⟨Zb,7,none⟩ (nilV)).setCell ⟨Zb,8,none⟩ (nilV) = wb at *
 obtain ⟨y0,y1,y2,y3,y4⟩ := FiveAt.of_block HYb.out
 obtain ⟨z0,z1,z2,z3,z4,z5,z6,z7,z8⟩ := NineAt.of_block HZb.out
 go_wp2_with fail
 exact bodyPost_ret (v := .tuple #[.agg #[.slice ba bs.length bc,.int .i64 (s.i : Int),.int .i64 ((s.n : Int) + 1),.slice na s.names.length nc,.int .i64 20],.agg #[.int .i64 0,.int .i64 0,.complex .f64 0 0,.string ⟨#[]⟩,.int .i64 0,.int .u32 0,.int .u64 0,nilV,nilV]]) (by simp [results,Try.results32,go_sem,y0,y1,y2,y3,y4,z0,z1,z2,z3,z4,z5,z6,z7,z8]) rfl ⟨_,_,_,_,_,_,_,_,_,_,_,_,_,none,0,0,none,0,0,rfl,HN.out ▸ HBb.out.drew⟩
set_option maxHeartbeats 4000000 in
theorem rq_big (ba : Option Addr) (bc : Nat) (bs : List UInt8) (s : St) (na : Option Addr) (nc : Nat) (d : Int) (hd : d ≤ 24) (w : World) (h : RfAt w ba bc bs s na nc) (hn : 4096 < s.n + 1) :
  Calls Try.prog 32 #[stV ba bs.length bc s.i s.n na s.names.length nc 0,.int .i64 d] w (RPT ba bs.length bc na s.names w (.error 21)) := by
 have hn' : (4096 : Int) < (s.n : Int) + 1 := by omega
 have hnl : (s.n : Int) ≤ 4097 := by have := h.nle; omega
 clear h
 go_enter Try.func32,Try.ntmps32
 go_wp2_with fail
 obtain ⟨hX1,hY1,hZ1,hB1⟩ := heap_new3 (w := w) (o1 := .cells #[.slice ba bs.length bc,.int .i64 (s.i : Int),.int .i64 ((s.n : Int) + 1),.slice na s.names.length nc,.int .i64 0] 80) (o2 := .cells #[nilV,.int .i64 0,.int .i64 0,nilV,.int .i64 0] 80) (o3 := .cells #[.int .i64 0,.int .i64 0,.complex .f64 0 0,.string ⟨#[]⟩,.int .i64 0,.int .u32 0,.int .u64 0,nilV,nilV] 31)
 have HX1 := hid hX1
 have HY1 := hid hY1
 have HZ1 := hid hZ1
 have HB1 := hid hB1
 clear hX1 hY1 hZ1 hB1
 generalize ((w.alloc (.cells #[.slice ba bs.length bc,.int .i64 (s.i : Int),.int .i64 ((s.n : Int) + 1),.slice na s.names.length nc,.int .i64 0] 80)).alloc (.cells #[nilV,.int .i64 0,.int .i64 0,nilV,.int .i64 0] 80)).alloc (.cells #[.int .i64 0,.int .i64 0,.complex .f64 0 0,.string ⟨#[]⟩,.int .i64 0,.int .u32 0,.int .u64 0,nilV,nilV] 31) = w1 at *
 have hXY : w.heap.size < w.heap.size + 1 := by omega
 have hYZ : w.heap.size + 1 < w.heap.size + 1 + 1 := by omega
 generalize w.heap.size + 1 + 1 = Zb at *
 generalize w.heap.size + 1 = Yb at *
 obtain ⟨Xb,hXb⟩ : ∃ X,w.heap.size = X := ⟨_,rfl⟩
 rw [hXb] at HX1 HB1 hXY ⊢
 have HN := hid hXb
 clear hXb
 refine (rfail0 _ _ _ _ _ _ _ _ 21 _).mono ?_
 rintro e w2 ⟨rfl,hb⟩
 have HX2 := hid ((hb.block _ (blk_lt HX1.out)).trans HX1.out)
 have HY2 := hid ((hb.block _ (blk_lt HY1.out)).trans HY1.out)
 have HZ2 := hid ((hb.block _ (blk_lt HZ1.out)).trans HZ1.out)
 have HB2 := hid (HB1.out.trans (hb.mono (bsz HN.out HB1.out)))
 clear hb HB1 HX1 HY1 HZ1
 go_upto_region 6 with (refine wpList_store_row rfl 80 (.tmp 2) (.tmp 40) rfl (Xb) #[.slice ba bs.length bc,.int .i64 (s.i : Int),.int .i64 ((s.n : Int) + 1),.slice na s.names.length nc,.int .i64 21] rfl rfl 80 #[.slice ba bs.length bc,.int .i64 (s.i : Int),.int .i64 ((s.n : Int) + 1),.slice na s.names.length nc,.int .i64 0] HX2.out infoS rfl (by simp [Array.all,Value.oneCell']) ?_)
 have HX3 := hid (setRow_heap w2 (Xb) #[.slice ba bs.length bc,.int .i64 (s.i : Int),.int .i64 ((s.n : Int) + 1),.slice na s.names.length nc,.int .i64 0] #[.slice ba bs.length bc,.int .i64 (s.i : Int),.int .i64 ((s.n : Int) + 1),.slice na s.names.length nc,.int .i64 21] 80 (0,0) HX2.out)
 have HY3 := hid ((setRow_other w2 (Xb) (Yb) #[.slice ba bs.length bc,.int .i64 (s.i : Int),.int .i64 ((s.n : Int) + 1),.slice na s.names.length nc,.int .i64 21] (by omega)).trans HY2.out)
 have HZ3 := hid ((setRow_other w2 (Xb) (Zb) #[.slice ba bs.length bc,.int .i64 (s.i : Int),.int .i64 ((s.n : Int) + 1),.slice na s.names.length nc,.int .i64 21] (by omega)).trans HZ2.out)
 have HB3 := hid (HB2.out.trans ((setRow_turn w2 (Xb) #[.slice ba bs.length bc,.int .i64 (s.i : Int),.int .i64 ((s.n : Int) + 1),.slice na s.names.length nc,.int .i64 21]).below (bsz HN.out HB2.out) (fun i e => by omega)))
 clear HB2 HX2 HY2 HZ2
 generalize w2.setRow (Xb) #[.slice ba bs.length bc,.int .i64 (s.i : Int),.int .i64 ((s.n : Int) + 1),.slice na s.names.length nc,.int .i64 21] = w3 at *
 obtain ⟨k0,k1,k2,k3,k4⟩ := FiveAt.of_block HX3.out
 go_wp2_with fail
 refine (rone_e _ _ _ _ _ _ _ _ 21 (by decide) _).mono ?_
 rintro e w4 ⟨rfl,hb⟩
 clear k0 k1 k2 k3 k4
 have HX4 := hid ((hb.block _ (blk_lt HX3.out)).trans HX3.out)
 have HY4 := hid ((hb.block _ (blk_lt HY3.out)).trans HY3.out)
 have HZ4 := hid ((hb.block _ (blk_lt HZ3.out)).trans HZ3.out)
 have HB4 := hid (HB3.out.trans (hb.mono (bsz HN.out HB3.out)))
 clear hb HB3 HX3 HY3 HZ3
 obtain ⟨k0,k1,k2,k3,k4⟩ := FiveAt.of_block HX4.out
 have kf := blk_fz HX4.out
 go_upto_region 7 with fail
 clear k0 k1 k2 k3 k4 kf
 have HX5 := hid (five_set HX4.out (d0 := .slice ba bs.length bc) (d1 := .int .i64 (s.i : Int)) (d2 := .int .i64 ((s.n : Int) + 1)) (d3 := .slice na s.names.length nc) (d4 := .int .i64 21))
 have hTs := five_turn w4 (Xb) (.slice ba bs.length bc) (.int .i64 (s.i : Int)) (.int .i64 ((s.n : Int) + 1)) (.slice na s.names.length nc) (.int .i64 21)
 have HY5 := hid ((hTs.block (Yb) (blk_lt HY4.out) (by omega)).trans HY4.out)
 have HZ5 := hid ((hTs.block (Zb) (blk_lt HZ4.out) (by omega)).trans HZ4.out)
 have HB5 := hid (HB4.out.trans (hTs.below (bsz HN.out HB4.out) (fun i e => by omega)))
 clear hTs HB4 HX4 HY4 HZ4
 simp only [set5] at HX5 HY5 HZ5 HB5
 generalize ((((w4.setCell ⟨Xb,0,none⟩ (.slice ba bs.length bc)).setCell ⟨Xb,1,none⟩ (.int .i64 (s.i : Int))).setCell ⟨Xb,2,none⟩ (.int .i64 ((s.n : Int) + 1))).setCell ⟨Xb,3,none⟩ (.slice na s.names.length nc)).setCell ⟨Xb,4,none⟩ (.int .i64 21) = w5 at *
 have hT := Below.heap_alloc w5 (.cells #[.int .i64 0,.int .i64 0,.complex .f64 0 0,.string ⟨#[]⟩,.int .i64 0,.int .u32 0,.int .u64 0,nilV,nilV] 31)
 have HX6 := hid ((hT _ (blk_lt HX5.out)).trans HX5.out)
 have HY6 := hid ((hT _ (blk_lt HY5.out)).trans HY5.out)
 have HZ6 := hid ((hT _ (blk_lt HZ5.out)).trans HZ5.out)
 have HT6 := hid (heap_new w5 (.cells #[.int .i64 0,.int .i64 0,.complex .f64 0 0,.string ⟨#[]⟩,.int .i64 0,.int .u32 0,.int .u64 0,nilV,nilV] 31))
 have HB6 := hid (HB5.out.alloc (bsz HN.out HB5.out) (.cells #[.int .i64 0,.int .i64 0,.complex .f64 0 0,.string ⟨#[]⟩,.int .i64 0,.int .u32 0,.int .u64 0,nilV,nilV] 31))
 have hTN : Zb < w5.heap.size := blk_lt HZ5.out
 obtain ⟨k0,k1,k2,k3,k4⟩ := FiveAt.of_block HX6.out
 go_wp2_with fail
 clear hT HX5 HY5 HZ5 HB5 k0 k1 k2 k3 k4
 generalize w5.alloc (.cells #[.int .i64 0,.int .i64 0,.complex .f64 0 0,.string ⟨#[]⟩,.int .i64 0,.int .u32 0,.int .u64 0,nilV,nilV] 31) = w6 at *
 generalize w5.heap.size = T at *
 obtain ⟨k0,k1,k2,k3,k4⟩ := FiveAt.of_block HX6.out
 obtain ⟨t0,t1,t2,t3,t4,t5,t6,t7,t8⟩ := NineAt.of_block HT6.out
 obtain ⟨y0,y1,y2,y3,y4⟩ := FiveAt.of_block HY6.out
 obtain ⟨z0,z1,z2,z3,z4,z5,z6,z7,z8⟩ := NineAt.of_block HZ6.out
 have yf := blk_fz HY6.out
 have zf := blk_fz HZ6.out
 have hT1 : ¬ Yb = T := by omega
 have hT2 : ¬ Zb = T := by omega
 have hT3 : ¬ Yb = Xb := by omega
 have hT4 : ¬ Zb = Xb := by omega
 go_region_held3 (fun w' => w'.cell? ⟨Xb,0,none⟩ = some (.slice ba bs.length bc) ∧ w'.cell? ⟨Xb,1,none⟩ = some (.int .i64 (s.i : Int)) ∧ w'.cell? ⟨Xb,2,none⟩ = some (.int .i64 ((s.n : Int) + 1)) ∧ w'.cell? ⟨Xb,3,none⟩ = some (.slice na s.names.length nc) ∧ w'.cell? ⟨Xb,4,none⟩ = some (.int .i64 21) ∧ w'.cell? ⟨T,0,none⟩ = some (.int .i64 0) ∧ w'.cell? ⟨T,1,none⟩ = some (.int .i64 0) ∧ w'.cell? ⟨T,2,none⟩ = some (.complex .f64 0 0) ∧ w'.cell? ⟨T,3,none⟩ = some (.string ⟨#[]⟩) ∧ w'.cell? ⟨T,4,none⟩ = some (.int .i64 0) ∧ w'.cell? ⟨T,5,none⟩ = some (.int .u32 0) ∧ w'.cell? ⟨T,6,none⟩ = some (.int .u64 0) ∧ w'.cell? ⟨T,7,none⟩ = some (nilV) ∧ w'.cell? ⟨T,8,none⟩ = some (nilV)) (go_keep) (fail)
 rename_i hHeld
 clear hHeld hT1 hT2 hT3 hT4 k0 k1 k2 k3 k4 t0 t1 t2 t3 t4 t5 t6 t7 t8 y0 y1 y2 y3 y4 z0 z1 z2 z3 z4 z5 z6 z7 z8 yf zf
 have hYa := five_set HY6.out (d0 := .slice ba bs.length bc) (d1 := .int .i64 (s.i : Int)) (d2 := .int .i64 ((s.n : Int) + 1)) (d3 := .slice na s.names.length nc) (d4 := .int .i64 21)
 have hTa := five_turn w6 Yb (.slice ba bs.length bc) (.int .i64 (s.i : Int)) (.int .i64 ((s.n : Int) + 1)) (.slice na s.names.length nc) (.int .i64 21)
 have hZa := (hTa.block _ (blk_lt HZ6.out) (by omega)).trans HZ6.out
 have HBa := hid (HB6.out.trans (hTa.below (bsz HN.out HB6.out) (fun i e => by omega)))
 simp only [set5] at hYa hTa hZa HBa
 generalize ((((w6.setCell ⟨Yb,0,none⟩ (.slice ba bs.length bc)).setCell ⟨Yb,1,none⟩ (.int .i64 (s.i : Int))).setCell ⟨Yb,2,none⟩ (.int .i64 ((s.n : Int) + 1))).setCell ⟨Yb,3,none⟩ (.slice na s.names.length nc)).setCell ⟨Yb,4,none⟩ (.int .i64 21) = wa at *
 have hZb := nine_set hZa (d0 := .int .i64 0) (d1 := .int .i64 0) (d2 := .complex .f64 0 0) (d3 := .string ⟨#[]⟩) (d4 := .int .i64 0) (d5 := .int .u32 0) (d6 := .int .u64 0) (d7 := nilV) (d8 := nilV)
 have hTb := nine_turn wa Zb (.int .i64 0) (.int .i64 0) (.complex .f64 0 0) (.string ⟨#[]⟩) (.int .i64 0) (.int .u32 0) (.int .u64 0) (nilV) (nilV)
 have HYb := hid ((hTb.block _ (blk_lt hYa) (by omega)).trans hYa)
 have HBb := hid (HBa.out.trans (hTb.below (bsz HN.out HBa.out) (fun i e => by omega)))
 have HTab := hid ((hTa.mono (S' := fun i => i = Yb ∨ i = Zb) fun i _ e => .inl e).trans (hTb.mono fun i _ e => .inr e))
 have HZb := hid hZb
 simp only [set9,set5] at HYb HBb HTab HZb
 clear hZb hTb hYa hTa hZa HBa
 generalize ((((((((wa.setCell ⟨Zb,0,none⟩ (.int .i64 0)).setCell ⟨Zb,1,none⟩ (.int .i64 0)).setCell ⟨Zb,2,none⟩ (.complex .f64 0 0)).setCell ⟨Zb,3,none⟩ (.string ⟨#[]⟩)).setCell ⟨Zb,4,none⟩ (.int .i64 0)).setCell ⟨Zb,5,none⟩ (.int .u32 0)).setCell ⟨Zb,6,none⟩ (.int .u64 0)).setCell ⟨Zb,7,none⟩ (nilV)).setCell ⟨Zb,8,none⟩ (nilV) = wb at *
 obtain ⟨y0,y1,y2,y3,y4⟩ := FiveAt.of_block HYb.out
 obtain ⟨z0,z1,z2,z3,z4,z5,z6,z7,z8⟩ := NineAt.of_block HZb.out
 go_wp2_with fail
 exact bodyPost_ret (v := .tuple #[.agg #[.slice ba bs.length bc,.int .i64 (s.i : Int),.int .i64 ((s.n : Int) + 1),.slice na s.names.length nc,.int .i64 21],.agg #[.int .i64 0,.int .i64 0,.complex .f64 0 0,.string ⟨#[]⟩,.int .i64 0,.int .u32 0,.int .u64 0,nilV,nilV]]) (by simp [results,Try.results32,go_sem,y0,y1,y2,y3,y4,z0,z1,z2,z3,z4,z5,z6,z7,z8]) rfl ⟨_,_,_,_,_,_,_,_,_,_,_,_,_,none,0,0,none,0,0,rfl,HN.out ▸ HBb.out.drew⟩
end Go.Proofs.Ytgadkiljnebicaa
