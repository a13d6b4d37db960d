/- Several texts in one. -/
import Derived.Test.YtgadkiljnebicaaD46
import Derived.Deep.CutRange
set_option linter.unusedVariables false
set_option linter.unusedSimpArgs false
namespace Go.Proofs.Ytgadkiljnebicaa
open Go.Lib (hid)
open Go.RowKit
set_option maxRecDepth 100000
attribute [local go_sem] run_store_complex
set_option maxHeartbeats 8000000 in
theorem ctl_ok (aa : Option Addr) (ac : Nat) (bs : List UInt8) (w : World) (h : Sl w (.slice aa bs.length ac) (bs.map cellB)) (hl : ¬ 1000 < bs.length) (t : Tm) (hd : decodeP bs = .ok t) : Calls Try.prog 5 #[.slice aa bs.length ac] w (CtlPost w (ctlP bs)) := by
 have HKK := hid (ctl_of hl hd)
 obtain ⟨hg,hsz⟩ := dec_read hd
 have hlI : ¬ (1000 : Int) < (bs.length : Int) := by omega
 have hd2 : decide ((1000 : Int) < (bs.length : Int)) = false := decide_eq_false hlI
 have HR := hid (heap_new w (.cells sgZ 33))
 have HB := hid ((Below.refl w.heap.size w).alloc (Nat.le_refl _) (.cells sgZ 33))
 have HD := hid (decode_any _ bs (w.alloc (.cells sgZ 33)) (h.alloc _))
 rw [hd] at HD
 have hRlt : w.heap.size < (w.alloc (.cells sgZ 33)).heap.size := blk_lt HR.out
 clear hl hd h
 obtain ⟨hd,l⟩ := t
 obtain ⟨i0,hi,hz0,hz1,hz2⟩ := info_parts infoTm
 clear hi hz0 hz1 hz2 i0
 go_enter Try.func5,Try.ntmps5
 go_wp2_with fail
 refine HD.out.mono ?_
 rintro e w1 ⟨cs,rfl,hrep,hb⟩
 obtain ⟨bv,lv,rfl,hbv,vs,hlv,hreps⟩ := hrep
 obtain ⟨b1,d1,rfl⟩ := row_slice_q hbv
 obtain ⟨b2,d2,rfl⟩ := row_slice_q hlv
 have hb2 := (Below.refl w1.heap.size w1).alloc (Nat.le_refl _) (.cells (hdC hd (.slice b1 hd.b.length d1) (.slice b2 l.length d2)) 31)
 have HB2 := hid ((HB.out.trans (hb.mono HB.out.size)).trans (hb2.mono (Nat.le_trans HB.out.size hb.size)))
 have HR2 := hid ((hb2.block _ (Nat.lt_of_lt_of_le hRlt hb.size)).trans ((hb.block _ hRlt).trans HR.out))
 have HT2 := hid (heap_new w1 (.cells (hdC hd (.slice b1 hd.b.length d1) (.slice b2 l.length d2)) 31))
 have HRow := hid (hlv.keep (w' := w1.alloc (.cells (hdC hd (.slice b1 hd.b.length d1) (.slice b2 l.length d2)) 31)) (fun b _ hb => hb2.block b hb))
 have HReps := hid (Reps.keep (w' := w1.alloc (.cells (hdC hd (.slice b1 hd.b.length d1) (.slice b2 l.length d2)) 31)) (fun b _ hb => hb2.block b hb) _ _ hreps)
 have HFb := hid (fun b (e : b2 = some ⟨b,0,none⟩) => (⟨hlv.2.1 b (by rw [e]; rfl),(hlv.1.lt b (by rw [e]; rfl)).2⟩ : _ ∧ _))
 have hT1 : w.heap.size < w1.heap.size := Nat.lt_of_lt_of_le hRlt hb.size
 have hT1a : (w.alloc (.cells sgZ 33)).heap.size = w.heap.size + 1 := by simp
 rw [hT1a] at HRow HReps HFb
 clear hb hb2 HD HR HB hbv hlv hreps hRlt hT1a
 go_upto_region 4 with fail
 obtain ⟨R,hR⟩ : ∃ b,w.heap.size = b := ⟨_,rfl⟩
 have hRl : w.heap.size ≤ R := Nat.le_of_eq hR
 rw [hR] at HB2 HR2 HRow HReps HFb hT1 hRl ⊢
 have HN := hid hR
 have HRl := hid (Nat.le_refl R)
 clear hR hRl
 generalize w1.alloc (.cells (hdC hd (.slice b1 hd.b.length d1) (.slice b2 l.length d2)) 31) = w2 at *
 have hT2 := blk_lt HT2.out
 generalize w1.heap.size = T at *
 obtain ⟨t0,t1,t2,t3,t4,t5,t6,t7,t8⟩ := NineAt.of_block HT2.out
 by_cases h6 : hd.kind = 6
 case neg =>
  have HK := hid (show ctlP bs = .error 230 from HKK.out.trans (by rw [sig_kind (t := .mk hd l) h6]; rfl))
  have g6 : (hd.kind != 6) = true := bne_iff_ne.2 h6
  go_wp2_with (refine wpList_store_row rfl 33 (.tmp 2) (.tmp 59) rfl R sgZ rfl rfl 33 sgZ HR2.out infoSg rfl (by simp [Array.all,Value.oneCell']) ?_)
  have hE := sg_end sgZ HB2.out HRl.out HR2.out
  exact bodyPost_ret (results_cell2 rfl _ _ R 33 sgZ (0,0) _ (.int .i64 230) rfl rfl hE.1 Try.underlying33 rfl infoSg) rfl (by rw [HK.out]; exact ⟨rfl,HN.out ▸ hE.2⟩)
 have g6 : (hd.kind != 6) = false := by rw [h6]; rfl
 match l with
 | [] =>
  have HK := hid (show ctlP bs = .error 230 from HKK.out.trans (by rw [sig_nil (t := .mk hd []) rfl]; rfl))
  go_wp2_with (refine wpList_store_row rfl 33 (.tmp 2) (.tmp 59) rfl R sgZ rfl rfl 33 sgZ HR2.out infoSg rfl (by simp [Array.all,Value.oneCell']) ?_)
  have hE := sg_end sgZ HB2.out HRl.out HR2.out
  exact bodyPost_ret (results_cell2 rfl _ _ R 33 sgZ (0,0) _ (.int .i64 230) rfl rfl hE.1 Try.underlying33 rfl infoSg) rfl (by rw [HK.out]; exact ⟨rfl,HN.out ▸ hE.2⟩)
 | a :: rest =>
 have hlen : (a :: rest).length = rest.length + 1 := rfl
 have g0 : (((a :: rest).length : Int) == 0) = false := by rw [beq_eq_false_iff_ne]; simp; omega
 obtain ⟨g,cap,hgs,hFg,ha,bva,pva,hrepa,⟨la,ea⟩,na⟩ := HRow.out.nine HReps.out (i := 0) (by simp)
 injection hgs with e1 e2 e3
 subst e1 e3
 obtain ⟨hgR,hgT⟩ := HFb.out g rfl
 have hgR : R + 1 ≤ g := hgR
 obtain ⟨m0,m1,_⟩ := na
 rw [Nat.zero_mul] at m0 m1
 have hah : a.hd = ha := by rw [show a = .mk ha la from ea]; rfl
 have hfirst := sig_first (t := .mk hd (a :: rest)) (a := a) (rest := rest) rfl
 have hrest := sig_rest (t := .mk hd (a :: rest)) (a := a) (rest := rest) rfl h6
 rw [hah] at hfirst hrest
 clear ea hrepa e2
 by_cases hk1 : ha.kind = 1
 case neg =>
  have HK := hid (show ctlP bs = .error 230 from HKK.out.trans (by rw [hfirst fun e => hk1 e.1]; rfl))
  have g1 : (ha.kind != 1) = true := bne_iff_ne.2 hk1
  go_wp2_with (refine wpList_store_row rfl 33 (.tmp 2) (.tmp 59) rfl R sgZ rfl rfl 33 sgZ HR2.out infoSg rfl (by simp [Array.all,Value.oneCell']) ?_)
  have hE := sg_end sgZ HB2.out HRl.out HR2.out
  exact bodyPost_ret (results_cell2 rfl _ _ R 33 sgZ (0,0) _ (.int .i64 230) rfl rfl hE.1 Try.underlying33 rfl infoSg) rfl (by rw [HK.out]; exact ⟨rfl,HN.out ▸ hE.2⟩)
 have g1 : (ha.kind != 1) = false := by rw [hk1]; rfl
 by_cases hn1 : 1 ≤ ha.n
 case neg =>
  have HK := hid (show ctlP bs = .error 230 from HKK.out.trans (by rw [hfirst fun e => hn1 e.2.1]; rfl))
  have g2 : decide (ha.n < 1) = true := decide_eq_true (by omega)
  have g2' : ha.n < 1 := by omega
  go_wp2_with (refine wpList_store_row rfl 33 (.tmp 2) (.tmp 59) rfl R sgZ rfl rfl 33 sgZ HR2.out infoSg rfl (by simp [Array.all,Value.oneCell']) ?_)
  have hE := sg_end sgZ HB2.out HRl.out HR2.out
  exact bodyPost_ret (results_cell2 rfl _ _ R 33 sgZ (0,0) _ (.int .i64 230) rfl rfl hE.1 Try.underlying33 rfl infoSg) rfl (by rw [HK.out]; exact ⟨rfl,HN.out ▸ hE.2⟩)
 have g2 : decide (ha.n < 1) = false := decide_eq_false (by omega)
 by_cases hn2 : ha.n ≤ 11
 case neg =>
  have HK := hid (show ctlP bs = .error 230 from HKK.out.trans (by rw [hfirst fun e => hn2 e.2.2]; rfl))
  have g3 : decide (11 < ha.n) = true := decide_eq_true (by omega)
  have g3' : 11 < ha.n := by omega
  go_wp2_with (refine wpList_store_row rfl 33 (.tmp 2) (.tmp 59) rfl R sgZ rfl rfl 33 sgZ HR2.out infoSg rfl (by simp [Array.all,Value.oneCell']) ?_)
  have hE := sg_end sgZ HB2.out HRl.out HR2.out
  exact bodyPost_ret (results_cell2 rfl _ _ R 33 sgZ (0,0) _ (.int .i64 230) rfl rfl hE.1 Try.underlying33 rfl infoSg) rfl (by rw [HK.out]; exact ⟨rfl,HN.out ▸ hE.2⟩)
 have g3 : decide (11 < ha.n) = false := decide_eq_false (by omega)
 have hctl := hrest hk1 hn1 hn2
 rw [hctl] at HKK
 clear hctl hfirst hrest
 go_upto_region 8 with fail
 have hP2 := PartsAt.of HRow.out HReps.out
 clear g0 g1 g2 g3 g6 m0
 clear t0 t1 t2 t3 t4 t5 t6 t7
 have HGd := hid (fun p (hp : p ∈ rest) => part_good hg hsz (List.mem_cons_of_mem a hp))
 clear hg hsz
 have hcap : rest.length + 1 ≤ d2 := by
  rcases HRow.out.1.2 with ⟨e,_⟩ | ⟨g2,cp2,cur,hv,_,_,hnc,_⟩
  ·cases e
  ·cases hv
   exact hnc
 obtain ⟨ad,had,hsl⟩ := slice1 g 0 (rest.length + 1) d2 (by omega) hcap
 have hb3 := (Below.refl w2.heap.size w2).alloc (Nat.le_refl _) (.cells sgZ 33)
 have HZ3 := hid (heap_new w2 (.cells sgZ 33))
 go_upto_region 9 with (refine wpList_store_row rfl 33 (.tmp 6) (.tmp 65) rfl w2.heap.size (sgC ha.n I3.zero I3.zero I3.zero {} nilV nilV 0) rfl rfl 33 sgZ HZ3.out infoSg rfl (by simp [Array.all,Value.oneCell']) ?_)
 have hc3 := hb3.trans ((setRow_turn _ w2.heap.size (sgC ha.n I3.zero I3.zero I3.zero {} nilV nilV 0)).below hb3.size fun i e => by omega)
 obtain ⟨S,hS⟩ : ∃ b,w2.heap.size = b := ⟨_,rfl⟩
 rw [hS] at hc3 hT2 HZ3 ⊢
 have HS3 := hid (setRow_heap _ S _ (sgC ha.n I3.zero I3.zero I3.zero {} nilV nilV 0) _ _ HZ3.out)
 have HB3 := hid (HB2.out.trans (hc3.mono (show R ≤ S by omega)))
 have hk3 : ∀ b,b < S → ((w2.alloc (.cells sgZ 33)).setRow S (sgC ha.n I3.zero I3.zero I3.zero {} nilV nilV 0)).heap[b]? = w2.heap[b]? := fun b hb => hc3.block b hb
 have HR3 := hid ((hk3 R (by omega)).trans HR2.out)
 have ht8 := (NineAt.of_block ((hk3 T hT2).trans HT2.out)).2.2.2.2.2.2.2.2
 simp only [hS] at hP2
 have HP3 := hid (hP2.keep (fun b e _ => hk3 b e.2))
 clear hb3 hc3 hk3 hP2 HZ3 HR2 HB2 HT2 HRow HReps HFb
 generalize (w2.alloc (.cells sgZ 33)).setRow S (sgC ha.n I3.zero I3.zero I3.zero {} nilV nilV 0) = w3 at *
 clear t8
 go_wp2_with fail
 refine (ids_any ha.n hn1 hn2 S w3 (sg_cells HS3.out).1).mono ?_
 rintro e w4 ⟨ia,ic,rfl,hrow,hb⟩
 have hS3l := blk_lt HS3.out
 have hRS : R < S := by omega
 have HIds := hid hrow
 have HB4 := hid (HB3.out.trans (hb.mono (show R ≤ w3.heap.size by omega)))
 have HR4 := hid ((hb.block _ (blk_lt HR3.out)).trans HR3.out)
 have HS4 := hid ((hb.block _ hS3l).trans HS3.out)
 have HP4 := hid (HP3.out.keep (fun b _ hb2 => hb.block b hb2))
 have HS3l := hid hS3l
 clear hrow hb HB3 HR3 HS3 HP3 ht8 hS3l
 have HRS := hid hRS
 have HST := hid (show g < S by omega)
 clear hT1 hT2 hgT hgR hRS
 have hal : (hasK ha.n).all.length ≤ 3 := upto_le (hasK ha.n) 3
 have HHn := hid (show a.hd.n = ha.n by rw [hah])
 have had0 : 0 < rest.length → ad = ⟨g,(0 + 1) * 9,none⟩ := fun h => had (by omega)
 have hcc0 : rest.length ≤ d2 - 1 := by omega
 clear had hsl hcap
 generalize ha.n = k at *
 have HD0 := hid (show DcAt S k rest 0 w4 w4 from ⟨HS4.out,Turn.refl _ _,fun i _ _ h => absurd h (Nat.not_lt_zero i)⟩)
 have HK0 := hid had0
 clear had0
 go_wp2_with fail
 go_loopw [7,71] (fun t7 t71 wr => ∃ (j : Nat) (ad : Addr) (cc : Nat),j ≤ (hasK k).all.length ∧ t71 = .int .i64 j ∧ j ≤ rest.length ∧ t7 = .slice (some ad) (rest.length - j) cc ∧ rest.length - j ≤ cc ∧ (j < rest.length → ad = ⟨g,(j + 1) * 9,none⟩) ∧ DcAt S k rest j w4 wr) (fun _ t71 _ => (hasK k).all.length - (intOf t71).toNat)
 case atStart => exact ⟨0,ad,d2 - 1,by omega,rfl,by omega,rfl,hcc0,HK0.out,HD0.out⟩
 case round =>
  obtain ⟨j,ad,cc,hj,rfl,hjr,rfl,hcc,had,hD⟩ := hrel
  have HDr := hid hD
  clear hD HD0 HK0
  have HBr := hid (HDr.out.below HB4.out HRS.out (Nat.le_of_lt (blk_lt HR4.out)))
  have HRr := hid ((HDr.out.old (Nat.ne_of_lt HRS.out) (blk_lt HR4.out)).trans HR4.out)
  by_cases hlt : j < (hasK k).all.length
  ·obtain ⟨ig,rfl,hig,kc0,kc1⟩ := ids_cell HIds.out hlt
   have higl := cell_lt kc0
   have higk : wr.heap[ig]? = w4.heap[ig]? := HDr.out.old (by have := HS3l.out; omega) higl
   rw [← World.cell?_of_block (w := w4) (w' := wr) higk] at kc0 kc1
   have hji : (j : Int) < ((hasK k).all.length : Int) := by omega
   have hji0 : (0 : Int) ≤ (j : Int) := by omega
   obtain ⟨hfl,hfe⟩ := flds_id hn1 hn2 hlt
   have hfr := fresh (hasK k) j hlt
   by_cases hr : j < rest.length
   case neg =>
    have e0 : rest.length - j = 0 := by omega
    have HK := hid (show ctlP bs = .error 230 from HKK.out.trans (by rw [fits_short (by omega)]; rfl))
    rw [e0]
    have HR9 := hid ((Below.heap_alloc wr (.cells #[.pointer (some ⟨S,(hasK k).all[j].1,none⟩),.int .i64 (hasK k).all[j].2] tPair) _ (blk_lt HRr.out)).trans HRr.out)
    have HB9 := hid (HBr.out.alloc (Nat.le_of_lt (blk_lt HRr.out)) (.cells #[.pointer (some ⟨S,(hasK k).all[j].1,none⟩),.int .i64 (hasK k).all[j].2] tPair))
    go_upto_region 13 with fail
    generalize wr.alloc (.cells #[.pointer (some ⟨S,(hasK k).all[j].1,none⟩),.int .i64 (hasK k).all[j].2] tPair) = w9 at *
    go_quiet (fail)
    have HR10 : Hid ((w9.drewN nq).heap[R]? = some (.cells sgZ 33 (0,0))) := HR9.out
    have HB10 : Hid (Below R w (w9.drewN nq)) := below_drewN HB9.out nq
    clear HR9 HB9
    generalize w9.drewN nq = w10 at *
    go_wp2_with (refine wpList_store_row rfl 33 (.tmp 2) (.tmp 87) rfl R sgZ rfl rfl 33 sgZ HR10.out infoSg rfl (by simp [Array.all,Value.oneCell']) ?_)
    have hE := sg_end sgZ HB10.out HRl.out HR10.out
    exact bodyPost_ret (results_cell2 rfl _ _ R 33 sgZ (0,0) _ (.int .i64 230) rfl rfl hE.1 Try.underlying33 rfl infoSg) rfl (by rw [HK.out]; exact ⟨rfl,HN.out ▸ hE.2⟩)
   have hpos : 0 < rest.length - j := by omega
   have hposI : (0 : Int) < ((rest.length - j : Nat) : Int) := by omega
   have hne0 : (((rest.length - j : Nat) : Int) == 0) = false := by rw [beq_eq_false_iff_ne]; omega
   obtain rfl := had hr
   obtain ⟨a1,m1,c1,a2,m2,c2,hrepj,hnine⟩ := (HDr.out.parts HP4.out (fun b e => e.2)).2 j hr
   have HPm := hid (List.getElem_mem hr)
   generalize hpe : rest[j] = p at *
   have HPe := hid hpe
   clear hpe had
   have hfit : ∀ kd : Int,(hasK k).all[j].2 = kd → ((hasK k).all[j].1 = 1 ∧ kd = 5 ∨ (hasK k).all[j].1 = 4 ∧ kd = 5 ∨ (hasK k).all[j].1 = 7 ∧ kd = 4) → fitB k (flds k)[j] p = decide (p.hd.kind = kd) := by
    intro kd h2 h3
    rw [hfe]
    rcases h3 with ⟨e1,rfl⟩ | ⟨e1,rfl⟩ | ⟨e1,rfl⟩ <;> simp [fldOf,e1,fitB]
   rcases hfr with ⟨ho,hk,_⟩ | ⟨ho,hk,_⟩ | ⟨ho,hk,_⟩
   ·rw [ho] at kc0
    rw [hk] at kc1
    have hft := hfit 5 hk (by rw [ho]; decide)
    have HR9 := hid ((Below.heap_alloc wr (.cells #[.pointer (some ⟨S,1,none⟩),.int .i64 5] tPair) _ (blk_lt HRr.out)).trans HRr.out)
    have HB9 := hid (HBr.out.alloc (Nat.le_of_lt (blk_lt HRr.out)) (.cells #[.pointer (some ⟨S,1,none⟩),.int .i64 5] tPair))
    have HD9 := hid (HDr.out.call ((Below.refl _ _).alloc (Nat.le_refl _) (.cells #[.pointer (some ⟨S,1,none⟩),.int .i64 5] tPair)))
    have hn9 := hnine.block (Below.heap_alloc wr (.cells #[.pointer (some ⟨S,1,none⟩),.int .i64 5] tPair) g (cell_lt hnine.1))
    have hx9 := heap_new wr (.cells #[.pointer (some ⟨S,1,none⟩),.int .i64 5] tPair)
    go_upto_region 13 with fail
    generalize wr.heap.size = X9 at *
    generalize wr.alloc (.cells #[.pointer (some ⟨S,1,none⟩),.int .i64 5] tPair) = w9 at *
    have d0 : w9.cell? ⟨X9,0,none⟩ = some (.pointer (some ⟨S,1,none⟩)) := by rw [cell_of_row _ _ _ _ _ _ hx9]; rfl
    have d1 : w9.cell? ⟨X9,1,none⟩ = some (.int .i64 5) := by rw [cell_of_row _ _ _ _ _ _ hx9]; rfl
    obtain ⟨n0,n1,n2,n3,n4,n5,n6,n7,n8⟩ := hn9
    by_cases hkd : p.hd.kind = 5
    case neg =>
     have HK := hid (show ctlP bs = .error 230 from HKK.out.trans (by rw [fits_at hfl hr (by rw [HPe.out,hft]; exact decide_eq_false hkd)]; rfl))
     have gk : (p.hd.kind != 5) = true := bne_iff_ne.2 hkd
     go_quiet (fail)
     have HR10 : Hid ((w9.drewN nq).heap[R]? = some (.cells sgZ 33 (0,0))) := HR9.out
     have HB10 : Hid (Below R w (w9.drewN nq)) := below_drewN HB9.out nq
     clear HR9 HB9 n0 n1 n2 n3 n4 n5 n6 n7 n8 d0 d1
     generalize w9.drewN nq = w10 at *
     go_wp2_with (refine wpList_store_row rfl 33 (.tmp 2) (.tmp 87) rfl R sgZ rfl rfl 33 sgZ HR10.out infoSg rfl (by simp [Array.all,Value.oneCell']) ?_)
     have hE := sg_end sgZ HB10.out HRl.out HR10.out
     exact bodyPost_ret (results_cell2 rfl _ _ R 33 sgZ (0,0) _ (.int .i64 230) rfl rfl hE.1 Try.underlying33 rfl infoSg) rfl (by rw [HK.out]; exact ⟨rfl,HN.out ▸ hE.2⟩)
    have gk : (p.hd.kind != 5) = false := by rw [hkd]; rfl
    have HFt := hid (show fitB k (flds k)[j] rest[j] = true by rw [HPe.out,hft]; exact decide_eq_true hkd)
    have HPut := hid (show (sqTo k rest j).put (flds k)[j] rest[j] = { (sqTo k rest j) with f := id3 p } by rw [hfe,HPe.out]; simp [fldOf,ho,Sq.put])
    obtain ⟨ad2,had2,hsl⟩ := slice1 g ((j + 1) * 9) (rest.length - j) cc hpos hcc
    go_quiet (fail)
    go_upto_region 15 with fail
    have HD10 := hid (HD9.out.call (below_drewN (Below.refl _ w9) nq))
    have d0 : (w9.drewN nq).cell? ⟨X9,0,none⟩ = some (.pointer (some ⟨S,1,none⟩)) := d0
    have n4 : (w9.drewN nq).cell? ⟨g,(j + 1) * 9 + 4,none⟩ = some (.int .i64 p.hd.node) := n4
    have n5 : (w9.drewN nq).cell? ⟨g,(j + 1) * 9 + 5,none⟩ = some (.int .u32 p.hd.boot) := n5
    have n6 : (w9.drewN nq).cell? ⟨g,(j + 1) * 9 + 6,none⟩ = some (.int .u64 p.hd.idn) := n6
    clear d1 n0 n1 n2 n3 n7 n8 HR9 HB9 HD9 hx9 kc0 kc1
    generalize w9.drewN nq = w10 at *
    obtain ⟨b0,b1,b2,b3,b4,b5,b6,b7,b8,b9,_⟩ := sg_cells HD10.out.sb
    have hfz := fz_of HD10.out.sb
    have HD11 := hid (HD10.out.next (w' := (set3 w10 S 1 (.int .i64 p.hd.node) (.int .u32 p.hd.boot) (.int .u64 p.hd.idn)).drew) hfl hr HFt.out HPut.out (set3_turn w10 S 1 _ _ _).drew (set3_at HD10.out.sb (by simp [id3])))
    go_region
    clear d0 n4 n5 n6 b0 b1 b2 b3 b4 b5 b6 b7 b8 b9 hfz HD10
    generalize (set3 w10 S 1 (.int .i64 p.hd.node) (.int .u32 p.hd.boot) (.int .u64 p.hd.idn)).drew = w11 at *
    trace_state
    go_wp2_with fail
    go_round
    case rel => exact ⟨j + 1,ad2,cc - 1,by omega,by go_num,by omega,by rw [Nat.sub_sub],by omega,fun h => by rw [had2 (by omega)]; congr 1; omega,HD11.out⟩
    case measure => simp [intOf]; omega
   ·rw [ho] at kc0
    rw [hk] at kc1
    have hft := hfit 5 hk (by rw [ho]; decide)
    have HR9 := hid ((Below.heap_alloc wr (.cells #[.pointer (some ⟨S,4,none⟩),.int .i64 5] tPair) _ (blk_lt HRr.out)).trans HRr.out)
    have HB9 := hid (HBr.out.alloc (Nat.le_of_lt (blk_lt HRr.out)) (.cells #[.pointer (some ⟨S,4,none⟩),.int .i64 5] tPair))
    have HD9 := hid (HDr.out.call ((Below.refl _ _).alloc (Nat.le_refl _) (.cells #[.pointer (some ⟨S,4,none⟩),.int .i64 5] tPair)))
    have hn9 := hnine.block (Below.heap_alloc wr (.cells #[.pointer (some ⟨S,4,none⟩),.int .i64 5] tPair) g (cell_lt hnine.1))
    have hx9 := heap_new wr (.cells #[.pointer (some ⟨S,4,none⟩),.int .i64 5] tPair)
    go_upto_region 13 with fail
    generalize wr.heap.size = X9 at *
    generalize wr.alloc (.cells #[.pointer (some ⟨S,4,none⟩),.int .i64 5] tPair) = w9 at *
    have d0 : w9.cell? ⟨X9,0,none⟩ = some (.pointer (some ⟨S,4,none⟩)) := by rw [cell_of_row _ _ _ _ _ _ hx9]; rfl
    have d1 : w9.cell? ⟨X9,1,none⟩ = some (.int .i64 5) := by rw [cell_of_row _ _ _ _ _ _ hx9]; rfl
    obtain ⟨n0,n1,n2,n3,n4,n5,n6,n7,n8⟩ := hn9
    by_cases hkd : p.hd.kind = 5
    case neg =>
     have HK := hid (show ctlP bs = .error 230 from HKK.out.trans (by rw [fits_at hfl hr (by rw [HPe.out,hft]; exact decide_eq_false hkd)]; rfl))
     have gk : (p.hd.kind != 5) = true := bne_iff_ne.2 hkd
     go_quiet (fail)
     have HR10 : Hid ((w9.drewN nq).heap[R]? = some (.cells sgZ 33 (0,0))) := HR9.out
     have HB10 : Hid (Below R w (w9.drewN nq)) := below_drewN HB9.out nq
     clear HR9 HB9 n0 n1 n2 n3 n4 n5 n6 n7 n8 d0 d1
     generalize w9.drewN nq = w10 at *
     go_wp2_with (refine wpList_store_row rfl 33 (.tmp 2) (.tmp 87) rfl R sgZ rfl rfl 33 sgZ HR10.out infoSg rfl (by simp [Array.all,Value.oneCell']) ?_)
     have hE := sg_end sgZ HB10.out HRl.out HR10.out
     exact bodyPost_ret (results_cell2 rfl _ _ R 33 sgZ (0,0) _ (.int .i64 230) rfl rfl hE.1 Try.underlying33 rfl infoSg) rfl (by rw [HK.out]; exact ⟨rfl,HN.out ▸ hE.2⟩)
    have gk : (p.hd.kind != 5) = false := by rw [hkd]; rfl
    have HFt := hid (show fitB k (flds k)[j] rest[j] = true by rw [HPe.out,hft]; exact decide_eq_true hkd)
    have HPut := hid (show (sqTo k rest j).put (flds k)[j] rest[j] = { (sqTo k rest j) with t := id3 p } by rw [hfe,HPe.out]; simp [fldOf,ho,Sq.put])
    obtain ⟨ad2,had2,hsl⟩ := slice1 g ((j + 1) * 9) (rest.length - j) cc hpos hcc
    go_quiet (fail)
    go_upto_region 15 with fail
    have HD10 := hid (HD9.out.call (below_drewN (Below.refl _ w9) nq))
    have d0 : (w9.drewN nq).cell? ⟨X9,0,none⟩ = some (.pointer (some ⟨S,4,none⟩)) := d0
    have n4 : (w9.drewN nq).cell? ⟨g,(j + 1) * 9 + 4,none⟩ = some (.int .i64 p.hd.node) := n4
    have n5 : (w9.drewN nq).cell? ⟨g,(j + 1) * 9 + 5,none⟩ = some (.int .u32 p.hd.boot) := n5
    have n6 : (w9.drewN nq).cell? ⟨g,(j + 1) * 9 + 6,none⟩ = some (.int .u64 p.hd.idn) := n6
    clear d1 n0 n1 n2 n3 n7 n8 HR9 HB9 HD9 hx9 kc0 kc1
    generalize w9.drewN nq = w10 at *
    obtain ⟨b0,b1,b2,b3,b4,b5,b6,b7,b8,b9,_⟩ := sg_cells HD10.out.sb
    have hfz := fz_of HD10.out.sb
    have HD11 := hid (HD10.out.next (w' := (set3 w10 S 4 (.int .i64 p.hd.node) (.int .u32 p.hd.boot) (.int .u64 p.hd.idn)).drew) hfl hr HFt.out HPut.out (set3_turn w10 S 4 _ _ _).drew (set3_at HD10.out.sb (by simp [id3])))
    go_region
    clear d0 n4 n5 n6 b0 b1 b2 b3 b4 b5 b6 b7 b8 b9 hfz HD10
    generalize (set3 w10 S 4 (.int .i64 p.hd.node) (.int .u32 p.hd.boot) (.int .u64 p.hd.idn)).drew = w11 at *
    trace_state
    go_wp2_with fail
    go_round
    case rel => exact ⟨j + 1,ad2,cc - 1,by omega,by go_num,by omega,by rw [Nat.sub_sub],by omega,fun h => by rw [had2 (by omega)]; congr 1; omega,HD11.out⟩
    case measure => simp [intOf]; omega
   ·rw [ho] at kc0
    rw [hk] at kc1
    have hft := hfit 4 hk (by rw [ho]; decide)
    have HR9 := hid ((Below.heap_alloc wr (.cells #[.pointer (some ⟨S,7,none⟩),.int .i64 4] tPair) _ (blk_lt HRr.out)).trans HRr.out)
    have HB9 := hid (HBr.out.alloc (Nat.le_of_lt (blk_lt HRr.out)) (.cells #[.pointer (some ⟨S,7,none⟩),.int .i64 4] tPair))
    have HD9 := hid (HDr.out.call ((Below.refl _ _).alloc (Nat.le_refl _) (.cells #[.pointer (some ⟨S,7,none⟩),.int .i64 4] tPair)))
    have hn9 := hnine.block (Below.heap_alloc wr (.cells #[.pointer (some ⟨S,7,none⟩),.int .i64 4] tPair) g (cell_lt hnine.1))
    have hx9 := heap_new wr (.cells #[.pointer (some ⟨S,7,none⟩),.int .i64 4] tPair)
    go_upto_region 13 with fail
    generalize wr.heap.size = X9 at *
    generalize wr.alloc (.cells #[.pointer (some ⟨S,7,none⟩),.int .i64 4] tPair) = w9 at *
    have d0 : w9.cell? ⟨X9,0,none⟩ = some (.pointer (some ⟨S,7,none⟩)) := by rw [cell_of_row _ _ _ _ _ _ hx9]; rfl
    have d1 : w9.cell? ⟨X9,1,none⟩ = some (.int .i64 4) := by rw [cell_of_row _ _ _ _ _ _ hx9]; rfl
    obtain ⟨n0,n1,n2,n3,n4,n5,n6,n7,n8⟩ := hn9
    by_cases hkd : p.hd.kind = 4
    case neg =>
     have HK := hid (show ctlP bs = .error 230 from HKK.out.trans (by rw [fits_at hfl hr (by rw [HPe.out,hft]; exact decide_eq_false hkd)]; rfl))
     have gk : (p.hd.kind != 4) = true := bne_iff_ne.2 hkd
     go_quiet (fail)
     have HR10 : Hid ((w9.drewN nq).heap[R]? = some (.cells sgZ 33 (0,0))) := HR9.out
     have HB10 : Hid (Below R w (w9.drewN nq)) := below_drewN HB9.out nq
     clear HR9 HB9 n0 n1 n2 n3 n4 n5 n6 n7 n8 d0 d1
     generalize w9.drewN nq = w10 at *
     go_wp2_with (refine wpList_store_row rfl 33 (.tmp 2) (.tmp 87) rfl R sgZ rfl rfl 33 sgZ HR10.out infoSg rfl (by simp [Array.all,Value.oneCell']) ?_)
     have hE := sg_end sgZ HB10.out HRl.out HR10.out
     exact bodyPost_ret (results_cell2 rfl _ _ R 33 sgZ (0,0) _ (.int .i64 230) rfl rfl hE.1 Try.underlying33 rfl infoSg) rfl (by rw [HK.out]; exact ⟨rfl,HN.out ▸ hE.2⟩)
    have gk : (p.hd.kind != 4) = false := by rw [hkd]; rfl
    have HFt := hid (show fitB k (flds k)[j] rest[j] = true by rw [HPe.out,hft]; exact decide_eq_true hkd)
    have HPut := hid (show (sqTo k rest j).put (flds k)[j] rest[j] = { (sqTo k rest j) with r := id3 p } by rw [hfe,HPe.out]; simp [fldOf,ho,Sq.put])
    obtain ⟨ad2,had2,hsl⟩ := slice1 g ((j + 1) * 9) (rest.length - j) cc hpos hcc
    go_quiet (fail)
    go_upto_region 15 with fail
    have HD10 := hid (HD9.out.call (below_drewN (Below.refl _ w9) nq))
    have d0 : (w9.drewN nq).cell? ⟨X9,0,none⟩ = some (.pointer (some ⟨S,7,none⟩)) := d0
    have n4 : (w9.drewN nq).cell? ⟨g,(j + 1) * 9 + 4,none⟩ = some (.int .i64 p.hd.node) := n4
    have n5 : (w9.drewN nq).cell? ⟨g,(j + 1) * 9 + 5,none⟩ = some (.int .u32 p.hd.boot) := n5
    have n6 : (w9.drewN nq).cell? ⟨g,(j + 1) * 9 + 6,none⟩ = some (.int .u64 p.hd.idn) := n6
    clear d1 n0 n1 n2 n3 n7 n8 HR9 HB9 HD9 hx9 kc0 kc1
    generalize w9.drewN nq = w10 at *
    obtain ⟨b0,b1,b2,b3,b4,b5,b6,b7,b8,b9,_⟩ := sg_cells HD10.out.sb
    have hfz := fz_of HD10.out.sb
    have HD11 := hid (HD10.out.next (w' := (set3 w10 S 7 (.int .i64 p.hd.node) (.int .u32 p.hd.boot) (.int .u64 p.hd.idn)).drew) hfl hr HFt.out HPut.out (set3_turn w10 S 7 _ _ _).drew (set3_at HD10.out.sb (by simp [id3])))
    go_region
    clear d0 n4 n5 n6 b0 b1 b2 b3 b4 b5 b6 b7 b8 b9 hfz HD10
    generalize (set3 w10 S 7 (.int .i64 p.hd.node) (.int .u32 p.hd.boot) (.int .u64 p.hd.idn)).drew = w11 at *
    trace_state
    go_wp2_with fail
    go_round
    case rel => exact ⟨j + 1,ad2,cc - 1,by omega,by go_num,by omega,by rw [Nat.sub_sub],by omega,fun h => by rw [had2 (by omega)]; congr 1; omega,HD11.out⟩
    case measure => simp [intOf]; omega
  ·obtain rfl : j = (hasK k).all.length := by omega
   have hks := (sg_cells HDr.out.sb).1
   obtain ⟨_,q8,q16⟩ := marks2 k hn1 hn2
   go_wp2_with fail
   refine (fields_any k hn1 hn2 _).mono ?_
   rintro e w5 ⟨rfl,hb⟩
   have HD5 := hid (HDr.out.call hb)
   clear hb HDr HBr HRr hks HIds
   have HR4l := hid (Nat.le_of_lt (blk_lt HR4.out))
   go_upto_if 103 with fail
   go_cut [7] from 101 to 129 (fun t7 wx => ∃ (ad : Addr) (cc : Nat),mN k ≤ rest.length ∧ t7 = .slice (some ad) (rest.length - mN k) cc ∧ rest.length - mN k ≤ cc ∧ (mN k < rest.length → ad = ⟨g,(mN k + 1) * 9,none⟩) ∧ DcN S k rest (mN k) w4 wx)
   case first =>
    cases hN : hasN k
    ·rw [hN] at q8
     have em : mN k = (hasK k).all.length := by simp [mN,hN]
     have HN5 := hid (HD5.out.toN hn1 hn2 hN)
     go_wp2_with fail
     go_meet
     exact ⟨ad,cc,by omega,by rw [em],by omega,fun h => by rw [em]; exact had (by omega),HN5.out⟩
    ·rw [hN] at q8
     have em : mN k = (hasK k).all.length + 1 := by simp [mN,hN]
     obtain ⟨hfl,hfe⟩ := flds_n hn1 hn2 hN
     have HB5 := hid (HD5.out.below HB4.out HRS.out HR4l.out)
     have HR5 := hid ((HD5.out.old (Nat.ne_of_lt HRS.out) (blk_lt HR4.out)).trans HR4.out)
     by_cases hr : (hasK k).all.length < rest.length
     case neg =>
      have e0 : rest.length - (hasK k).all.length = 0 := by omega
      have HK := hid (show ctlP bs = .error 230 from HKK.out.trans (by rw [fits_short (by omega)]; rfl))
      rw [e0]
      go_wp2_with (refine wpList_store_row rfl 33 (.tmp 2) (.tmp 121) rfl R sgZ rfl rfl 33 sgZ HR5.out infoSg rfl (by simp [Array.all,Value.oneCell']) ?_)
      have hE := sg_end sgZ HB5.out HRl.out HR5.out
      exact bodyPost_ret (results_cell2 rfl _ _ R 33 sgZ (0,0) _ (.int .i64 230) rfl rfl hE.1 Try.underlying33 rfl infoSg) rfl (by rw [HK.out]; exact ⟨rfl,HN.out ▸ hE.2⟩)
     have hpos : 0 < rest.length - (hasK k).all.length := by omega
     have hposI : (0 : Int) < ((rest.length - (hasK k).all.length : Nat) : Int) := by omega
     have hne0 : (((rest.length - (hasK k).all.length : Nat) : Int) == 0) = false := by rw [beq_eq_false_iff_ne]; omega
     obtain rfl := had hr
     obtain ⟨a1,m1,c1,a2,m2,c2,hrepj,hnine⟩ := (HD5.out.parts HP4.out (fun b e => e.2)).2 _ hr
     generalize hpe : rest[(hasK k).all.length] = p at *
     have HPe := hid hpe
     clear hpe had
     obtain ⟨n0,n1,n2,n3,n4,n5,n6,n7,n8⟩ := hnine
     by_cases hkd : p.hd.kind = 1
     case neg =>
      have HK := hid (show ctlP bs = .error 230 from HKK.out.trans (by rw [fits_at hfl hr (by rw [HPe.out,hfe]; exact decide_eq_false fun e => hkd e.1)]; rfl))
      have gk : (p.hd.kind != 1) = true := bne_iff_ne.2 hkd
      go_wp2_with (refine wpList_store_row rfl 33 (.tmp 2) (.tmp 121) rfl R sgZ rfl rfl 33 sgZ HR5.out infoSg rfl (by simp [Array.all,Value.oneCell']) ?_)
      have hE := sg_end sgZ HB5.out HRl.out HR5.out
      exact bodyPost_ret (results_cell2 rfl _ _ R 33 sgZ (0,0) _ (.int .i64 230) rfl rfl hE.1 Try.underlying33 rfl infoSg) rfl (by rw [HK.out]; exact ⟨rfl,HN.out ▸ hE.2⟩)
     have gk : (p.hd.kind != 1) = false := by rw [hkd]; rfl
     by_cases hng : 0 ≤ p.hd.n
     case neg =>
      have HK := hid (show ctlP bs = .error 230 from HKK.out.trans (by rw [fits_at hfl hr (by rw [HPe.out,hfe]; exact decide_eq_false fun e => by omega)]; rfl))
      have gn : decide (p.hd.n < 0) = true := decide_eq_true (by omega)
      have gn' : p.hd.n < 0 := by omega
      go_wp2_with (refine wpList_store_row rfl 33 (.tmp 2) (.tmp 121) rfl R sgZ rfl rfl 33 sgZ HR5.out infoSg rfl (by simp [Array.all,Value.oneCell']) ?_)
      have hE := sg_end sgZ HB5.out HRl.out HR5.out
      exact bodyPost_ret (results_cell2 rfl _ _ R 33 sgZ (0,0) _ (.int .i64 230) rfl rfl hE.1 Try.underlying33 rfl infoSg) rfl (by rw [HK.out]; exact ⟨rfl,HN.out ▸ hE.2⟩)
     have gn : decide (p.hd.n < 0) = false := decide_eq_false (by omega)
     have hnw := part_wf (HGd.out p (HPe.out ▸ List.getElem_mem hr)).1
     have hwr : IntKind.u64.wrap p.hd.n = p.hd.n := wraps_u64 _ hng (by omega)
     obtain ⟨ad2,had2,hsl⟩ := slice1 g (((hasK k).all.length + 1) * 9) (rest.length - (hasK k).all.length) cc hpos hcc
     obtain ⟨b0,b1,b2,b3,b4,b5,b6,b7,b8,b9,b10,b11,b12,b13,b14,b15,b16,b17,b18,b19⟩ := sg_cells HD5.out.sb
     have hfz := fz_of HD5.out.sb
     have HN6 := hid (HD5.out.nextN hn1 hn2 hN hr (by rw [HPe.out]; exact hkd) (by rw [HPe.out]; exact hng))
     rw [HPe.out] at HN6
     clear b0 b1 b2 b3 b4 b5 b6 b7 b8 b9 b10 b11 b12 b13 b14 b15 b16 b17 b18 n2 n3 n4 n5 n6 n7 n8
     go_wp2_with fail
     go_meet
     exact ⟨ad2,cc - 1,by omega,by rw [em,Nat.sub_sub],by omega,fun h => by rw [had2 (by omega),em]; congr 1; omega,HN6.out⟩
   case rest =>
    obtain ⟨ad,cc,hmr,rfl,hcc,had,hD⟩ := hcut
    have HD6 := hid hD
    clear hD HD5
    go_upto_if 132 with fail
    go_cut [7] from 130 to 142 (fun t7 wx => ∃ (ad : Addr) (cc : Nat) (a1 : Option Addr) (m1 c1 : Nat) (a2 : Option Addr) (m2 c2 : Nat),(flds k).length ≤ rest.length ∧ t7 = .slice (some ad) (rest.length - (flds k).length) cc ∧ DcX S k rest (fun b => R + 1 ≤ b ∧ b < S) a1 m1 c1 a2 m2 c2 w4 wx)
    case first =>
     cases hX : hasX k
     ·rw [hX] at q16
      have em : (flds k).length = mN k := by rw [flds_length hn1 hn2]; simp [hX]
      have HX6 := hid (HD6.out.toX (F := fun b => R + 1 ≤ b ∧ b < S) hn1 hn2 hX)
      go_wp2_with fail
      go_meet
      exact ⟨ad,cc,none,0,0,none,0,0,by omega,by rw [em],HX6.out⟩
     ·rw [hX] at q16
      have em : (flds k).length = mN k + 1 := by rw [flds_length hn1 hn2]; simp [hX]
      have HB5 := hid (HD6.out.below HB4.out HRS.out HR4l.out)
      have HR5 := hid ((HD6.out.old (Nat.ne_of_lt HRS.out) (blk_lt HR4.out)).trans HR4.out)
      by_cases hr : mN k < rest.length
      case neg =>
       have e0 : rest.length - mN k = 0 := by omega
       have HK := hid (show ctlP bs = .error 230 from HKK.out.trans (by rw [fits_short (by omega)]; rfl))
       rw [e0]
       go_wp2_with (refine wpList_store_row rfl 33 (.tmp 2) (.tmp 136) rfl R sgZ rfl rfl 33 sgZ HR5.out infoSg rfl (by simp [Array.all,Value.oneCell']) ?_)
       have hE := sg_end sgZ HB5.out HRl.out HR5.out
       exact bodyPost_ret (results_cell2 rfl _ _ R 33 sgZ (0,0) _ (.int .i64 230) rfl rfl hE.1 Try.underlying33 rfl infoSg) rfl (by rw [HK.out]; exact ⟨rfl,HN.out ▸ hE.2⟩)
      have hpos : 0 < rest.length - mN k := by omega
      have hposI : (0 : Int) < ((rest.length - mN k : Nat) : Int) := by omega
      have hne0 : (((rest.length - mN k : Nat) : Int) == 0) = false := by rw [beq_eq_false_iff_ne]; omega
      obtain rfl := had hr
      obtain ⟨a1,m1,c1,a2,m2,c2,hrepj,hnine⟩ := (HD6.out.parts HP4.out (fun b e => e.2)).2 _ hr
      obtain ⟨n0,n1,n2,n3,n4,n5,n6,n7,n8⟩ := hnine
      obtain ⟨ad2,had2,hsl⟩ := slice1 g ((mN k + 1) * 9) (rest.length - mN k) cc hpos hcc
      obtain ⟨b0,b1,b2,b3,b4,b5,b6,b7,b8,b9,b10,b11,b12,b13,b14,b15,b16,b17,b18,b19⟩ := sg_cells HD6.out.sb
      have hfz := fz_of HD6.out.sb
      have HX7 := hid (HD6.out.nextX hn1 hn2 hX hr hrepj (fun b e => e.2))
      generalize hpe : rest[mN k] = p at *
      clear hrepj hpe
      go_wp2_with fail
      go_meet
      exact ⟨ad2,cc - 1,a1,m1,c1,a2,m2,c2,by omega,by rw [em,Nat.sub_sub],HX7.out⟩
    case rest =>
     obtain ⟨ad,cc,a1,m1,c1,a2,m2,c2,hfr,rfl,hD⟩ := hcut
     have HDX := hid hD
     clear hD HD6
     go_upto_region 29 with fail
     have hpre := sq_pre hn1 hn2 hfr HGd.out HDX.out.kn
     have hSl := blk_lt HDX.out.sb
     have HRepw := hid (Rep.mono (F' := fun b => b < wc.heap.size) (fun b _ hb => hb) _ _ HDX.out.rep)
     have HBc := hid (HB4.out.trans (HDX.out.turn.below HR4l.out fun i e => by have := HRS.out; omega))
     have HRc := hid ((HDX.out.turn.block R (blk_lt HR4.out) (Nat.ne_of_lt HRS.out)).trans HR4.out)
     have HW := hid (whole_any k hn1 hn2 _ _ _ _ _ a1 m1 c1 a2 m2 c2 wc HRepw.out hpre.1 hpre.2.1 hpre.2.2.1 hpre.2.2.2.1 hpre.2.2.2.2.1 hpre.2.2.2.2.2.1 hpre.2.2.2.2.2.2)
     clear hpre q8 q16
     first | apply wp_region_lit | (apply wp_seq_k; intro _ _; apply wp_region_lit)
     refine wpList_load_row rfl 33 (.tmp 6) rfl S rfl 33 (sgC k (sqTo k rest (flds k).length).f (sqTo k rest (flds k).length).t (sqTo k rest (flds k).length).r (sqTo k rest (flds k).length).x.hd (.slice a1 m1 c1) (.slice a2 m2 c2) (sqTo k rest (flds k).length).n) (0,0) _ HDX.out.sb Try.underlying33 rfl infoSg ?_
     go_wp2_with fail
     refine HW.out.mono ?_
     rintro e w8 ⟨cs,rfl,⟨xh,e1,e2,e3,e4,e5,e6,rfl⟩,hb8,_⟩
     have hb9 := hb8.trans ((Below.refl w8.heap.size w8).alloc (Nat.le_refl _) (.cells (hdC xh (.slice e1 e2 e3) (.slice e4 e5 e6)) 31) |>.mono hb8.size)
     have HB9 := hid (HBc.out.trans (hb9.mono (Nat.le_of_lt (blk_lt HRc.out))))
     have HR9 := hid ((hb9.block R (blk_lt HRc.out)).trans HRc.out)
     have HS9 := hid ((hb9.block S hSl).trans HDX.out.sb)
     have HRep9 := hid (Rep.keep (fun b e hb => hb9.block b hb) _ _ HDX.out.rep)
     clear hb8 hb9 HW HBc HRc HRepw
     go_upto_region 30 with fail
     generalize w8.alloc (.cells (hdC xh (.slice e1 e2 e3) (.slice e4 e5 e6)) 31) = w9 at *
     by_cases hlen : (flds k).length = rest.length
     case neg =>
      have HK := hid (show ctlP bs = .error 230 from HKK.out.trans (by rw [fits_of_length hlen]; rfl))
      have hposI : (0 : Int) < ((rest.length - (flds k).length : Nat) : Int) := by omega
      have hdp : decide ((0 : Int) < ((rest.length - (flds k).length : Nat) : Int)) = true := decide_eq_true hposI
      clear HDX
      go_wp2_with (refine wpList_store_row rfl 33 (.tmp 2) (.tmp 155) rfl R sgZ rfl rfl 33 sgZ HR9.out infoSg rfl (by simp [Array.all,Value.oneCell']) ?_)
      have hE := sg_end sgZ HB9.out HRl.out HR9.out
      exact bodyPost_ret (results_cell2 rfl _ _ R 33 sgZ (0,0) _ (.int .i64 230) rfl rfl hE.1 Try.underlying33 rfl infoSg) rfl (by rw [HK.out]; exact ⟨rfl,HN.out ▸ hE.2⟩)
     have hz : rest.length - (flds k).length = 0 := by omega
     have hfw := fits_whole hn1 hn2 hlen HGd.out HDX.out.fit HDX.out.kn
     rw [hz]
     have HLen := hid hlen
     clear HDX hlen
     cases hwb : wholeB k (sqTo k rest (flds k).length).f (sqTo k rest (flds k).length).t (sqTo k rest (flds k).length).r (sqTo k rest (flds k).length).x (sqTo k rest (flds k).length).n
     ·have HK := hid (show ctlP bs = .error 230 from HKK.out.trans (by rw [← hfw,hwb]; rfl))
      go_wp2_with (refine wpList_store_row rfl 33 (.tmp 2) (.tmp 155) rfl R sgZ rfl rfl 33 sgZ HR9.out infoSg rfl (by simp [Array.all,Value.oneCell']) ?_)
      have hE := sg_end sgZ HB9.out HRl.out HR9.out
      exact bodyPost_ret (results_cell2 rfl _ _ R 33 sgZ (0,0) _ (.int .i64 230) rfl rfl hE.1 Try.underlying33 rfl infoSg) rfl (by rw [HK.out]; exact ⟨rfl,HN.out ▸ hE.2⟩)
     ·have HK := hid (show ctlP bs = .ok (.mk hd (a :: rest)) from HKK.out.trans (by rw [← hfw,hwb]; rfl))
      clear hfw
      go_upto_region 32 with fail
      first | apply wp_region_lit | (apply wp_seq_k; intro _ _; apply wp_region_lit)
      refine wpList_load_row rfl 33 (.tmp 6) rfl S rfl 33 (sgC k (sqTo k rest (flds k).length).f (sqTo k rest (flds k).length).t (sqTo k rest (flds k).length).r (sqTo k rest (flds k).length).x.hd (.slice a1 m1 c1) (.slice a2 m2 c2) (sqTo k rest (flds k).length).n) (0,0) _ HS9.out Try.underlying33 rfl infoSg ?_
      go_wp2_with (refine wpList_store_row rfl 33 (.tmp 2) (.tmp 156) rfl R (sgC k (sqTo k rest (flds k).length).f (sqTo k rest (flds k).length).t (sqTo k rest (flds k).length).r (sqTo k rest (flds k).length).x.hd (.slice a1 m1 c1) (.slice a2 m2 c2) (sqTo k rest (flds k).length).n) rfl rfl 33 sgZ HR9.out infoSg rfl (by simp [Array.all,Value.oneCell']) ?_)
      have hE := sg_end (sgC k (sqTo k rest (flds k).length).f (sqTo k rest (flds k).length).t (sqTo k rest (flds k).length).r (sqTo k rest (flds k).length).x.hd (.slice a1 m1 c1) (.slice a2 m2 c2) (sqTo k rest (flds k).length).n) HB9.out HRl.out HR9.out
      have hrepE := Rep.keep (w' := w9.setRow R (sgC k (sqTo k rest (flds k).length).f (sqTo k rest (flds k).length).t (sqTo k rest (flds k).length).r (sqTo k rest (flds k).length).x.hd (.slice a1 m1 c1) (.slice a2 m2 c2) (sqTo k rest (flds k).length).n)) (fun b e _ => setRow_other w9 R b _ (by omega)) _ _ HRep9.out
      exact bodyPost_ret (results_cell2 rfl _ _ R 33 (sgC k (sqTo k rest (flds k).length).f (sqTo k rest (flds k).length).t (sqTo k rest (flds k).length).r (sqTo k rest (flds k).length).x.hd (.slice a1 m1 c1) (.slice a2 m2 c2) (sqTo k rest (flds k).length).n) (0,0) _ (.int .i64 0) rfl rfl hE.1 Try.underlying33 rfl infoSg) rfl (by
       rw [HK.out]
       exact ⟨_,k,rfl,by show some a.hd.n = some k; rw [HHn.out],by show SgRep _ _ (sqTo k rest rest.length) _; rw [← HLen.out]; exact ⟨a1,m1,c1,a2,m2,c2,by rw [sqTo_k],Rep.mono (fun b e _ => by have := HN.out; omega) _ _ hrepE⟩,HN.out ▸ hE.2⟩)
end Go.Proofs.Ytgadkiljnebicaa
