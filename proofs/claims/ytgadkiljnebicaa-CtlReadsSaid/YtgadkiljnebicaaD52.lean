/- Several texts in one. -/
import Derived.Test.YtgadkiljnebicaaD46
import Derived.Test.YtgadkiljnebicaaD48
import Derived.Test.YtgadkiljnebicaaD51
import Derived.Deep.CutRange
set_option linter.unusedVariables false
set_option linter.unusedSimpArgs false
namespace Go.Proofs.Ytgadkiljnebicaa
open Go.Lib (hid)
open Go.RowKit
set_option maxRecDepth 100000
attribute [local go_sem] run_store_complex
set_option maxHeartbeats 2000000 in
theorem rctl_long (a : Option Addr) (c : Nat) (bs : List UInt8) (w : World) (hl : 1000 < bs.length) : Calls Try.prog 6 #[.slice a bs.length c] w (CtlPost w (ctlP bs)) := by
 have HK := hid (show ctlP bs = .error 231 by unfold ctlP; rw [if_pos hl])
 have hlI : (1000 : Int) < (bs.length : Int) := by omega
 have HR := hid (heap_new w (.cells sgZ 33))
 have HB := hid ((Below.refl w.heap.size w).alloc (Nat.le_refl _) (.cells sgZ 33))
 clear hl
 go_enter Try.func6,Try.ntmps6
 go_wp2_with (refine wpList_store_row rfl 33 (.tmp 2) (.tmp 13) rfl w.heap.size sgZ rfl rfl 33 sgZ HR.out infoSg rfl (by simp [Array.all,Value.oneCell']) ?_)
 have hE := sg_end sgZ HB.out (Nat.le_refl _) HR.out
 exact bodyPost_ret (results_cell2 rfl _ _ w.heap.size 33 sgZ (0,0) _ (.int .i64 231) rfl rfl hE.1 Try.underlying33 rfl infoSg) rfl (by rw [HK.out]; exact ⟨rfl,hE.2⟩)
set_option maxHeartbeats 2000000 in
theorem rctl_err (a : Option Addr) (c : Nat) (bs : List UInt8) (w : World) (h : Sl w (.slice a bs.length c) (bs.map cellB)) (hl : ¬ 1000 < bs.length) (x : Int) (hd : decodeP bs = .error x) : Calls Try.prog 6 #[.slice a bs.length c] w (CtlPost w (ctlP bs)) := by
 have HK := hid (show ctlP bs = .error x by unfold ctlP; rw [if_neg hl,hd])
 have hlI : ¬ (1000 : Int) < (bs.length : Int) := by omega
 have hd2 : decide ((1000 : Int) < (bs.length : Int)) = false := decide_eq_false hlI
 have hx0 : (x != 0) = true := bne_iff_ne.2 (dec_err hd)
 have HR := hid (heap_new w (.cells sgZ 33))
 have HB := hid ((Below.refl w.heap.size w).alloc (Nat.le_refl _) (.cells sgZ 33))
 have HD := hid (refdecode_any _ bs (w.alloc (.cells sgZ 33)) (h.alloc _))
 rw [hd] at HD
 clear hl hd h
 go_enter Try.func6,Try.ntmps6
 go_wp2_with fail
 refine HD.out.mono ?_
 intro e w1 he
 obtain ⟨rfl,hb⟩ := he
 have HB1 := hid ((HB.out.trans (hb.mono HB.out.size)).alloc (Nat.le_trans HB.out.size hb.size) (.cells zC 31))
 have HR1 := hid ((Below.heap_alloc w1 (.cells zC 31) _ (Nat.lt_of_lt_of_le (blk_lt HR.out) hb.size)).trans ((hb.block _ (blk_lt HR.out)).trans HR.out))
 clear hb HD HR HB
 go_upto_region 4 with fail
 have e20 : w1.alloc (.cells zC 31) = w1.alloc (.cells #[.int .i64 0,.int .i64 0,.complex .f64 0 0,.string ⟨#[]⟩,.int .i64 0,.int .u32 0,.int .u64 0,nilV,nilV] 31) := rfl
 rw [e20] at HB1 HR1
 clear e20
 generalize w1.alloc (.cells #[.int .i64 0,.int .i64 0,.complex .f64 0 0,.string ⟨#[]⟩,.int .i64 0,.int .u32 0,.int .u64 0,nilV,nilV] 31) = w2 at *
 go_wp2_with (refine wpList_store_row rfl 33 (.tmp 2) (.tmp 21) rfl w.heap.size sgZ rfl rfl 33 sgZ HR1.out infoSg rfl (by simp [Array.all,Value.oneCell']) ?_)
 have hE := sg_end sgZ HB1.out (Nat.le_refl _) HR1.out
 exact bodyPost_ret (results_cell2 rfl _ _ w.heap.size 33 sgZ (0,0) _ (.int .i64 x) rfl rfl hE.1 Try.underlying33 rfl infoSg) rfl (by rw [HK.out]; exact ⟨rfl,hE.2⟩)
structure DdAt (S : Nat) (k : Int) (rest : List Tm) (F : Nat → Prop) (j : Nat) (a1 : Option Addr) (m1 c1 : Nat) (a2 : Option Addr) (m2 c2 : Nat) (w4 wr : World) : Prop where
 sb : wr.heap[S]? = some (.cells (sgC k (sqTo k rest j).f (sqTo k rest j).t (sqTo k rest j).r (sqTo k rest j).x.hd (.slice a1 m1 c1) (.slice a2 m2 c2) (IntKind.u64.wrap (sqTo k rest j).n)) 33 (0,0))
 turn : Turn (fun i => i = S) w4 wr
 rep : Rep wr F (sqTo k rest j).x (hdC (sqTo k rest j).x.hd (.slice a1 m1 c1) (.slice a2 m2 c2))
theorem DdAt.old {S : Nat} {k : Int} {rest : List Tm} {F : Nat → Prop} {j : Nat} {a1 : Option Addr} {m1 c1 : Nat} {a2 : Option Addr} {m2 c2 : Nat} {w4 wr : World} (h : DdAt S k rest F j a1 m1 c1 a2 m2 c2 w4 wr) {b : Nat} (hb : b ≠ S) (hl : b < w4.heap.size) : wr.heap[b]? = w4.heap[b]? := h.turn.block b hl hb
theorem DdAt.call {S : Nat} {k : Int} {rest : List Tm} {F : Nat → Prop} {j : Nat} {a1 : Option Addr} {m1 c1 : Nat} {a2 : Option Addr} {m2 c2 : Nat} {w4 wr w' : World} (h : DdAt S k rest F j a1 m1 c1 a2 m2 c2 w4 wr) (hb : Below wr.heap.size wr w') : DdAt S k rest F j a1 m1 c1 a2 m2 c2 w4 w' :=
 ⟨(hb.block S (blk_lt h.sb)).trans h.sb,h.turn.trans (Turn.of_below hb),Rep.keep (fun b _ hl => hb.block b hl) _ _ h.rep⟩
theorem DdAt.parts {S g : Nat} {k : Int} {F : Nat → Prop} {rest : List Tm} {j : Nat} {a1 : Option Addr} {m1 c1 : Nat} {a2 : Option Addr} {m2 c2 : Nat} {w4 wr : World} (h : DdAt S k rest F j a1 m1 c1 a2 m2 c2 w4 wr) (hp : PartsAt w4 F g rest) (hF : ∀ b,F b → b < S) : PartsAt wr F g rest :=
 hp.keep fun b e hb => h.old (by have := hF b e; omega) hb
theorem DdAt.next {S : Nat} {k : Int} {rest : List Tm} {F : Nat → Prop} {j : Nat} {a1 : Option Addr} {m1 c1 : Nat} {a2 : Option Addr} {m2 c2 : Nat} {w4 wr w' : World} (h : DdAt S k rest F j a1 m1 c1 a2 m2 c2 w4 wr) (h1 : j < (flds k).length) (h2 : j < rest.length) {s' : Sq} (hs' : (sqTo k rest j).put (flds k)[j] rest[j] = s') (hx : s'.x = (sqTo k rest j).x) (ht : Turn (fun i => i = S) wr w') (hF : ∀ b,F b → b < S)
  (hb : w'.heap[S]? = some (.cells (sgC k s'.f s'.t s'.r (sqTo k rest j).x.hd (.slice a1 m1 c1) (.slice a2 m2 c2) (IntKind.u64.wrap s'.n)) 33 (0,0))) : DdAt S k rest F (j + 1) a1 m1 c1 a2 m2 c2 w4 w' := by
 subst hs'
 refine ⟨by rw [sqTo_succ h1 h2,hx]; exact hb,h.turn.trans ht,?_⟩
 rw [sqTo_succ h1 h2,hx]
 exact Rep.keep (fun b e hl => ht.block b hl (by have := hF b e; omega)) _ _ h.rep
theorem DdAt.nextX {S : Nat} {k : Int} {rest : List Tm} {F : Nat → Prop} {j : Nat} {a1 : Option Addr} {m1 c1 : Nat} {a2 : Option Addr} {m2 c2 : Nat} {w4 wr w' : World} {b1 : Option Addr} {p1 d1 : Nat} {b2 : Option Addr} {p2 d2 : Nat} (h : DdAt S k rest F j a1 m1 c1 a2 m2 c2 w4 wr) (h1 : j < (flds k).length) (h2 : j < rest.length) (hf : (flds k)[j] = .x) (ht : Turn (fun i => i = S) wr w') (hF : ∀ b,F b → b < S)
  (hrep : Rep wr F rest[j] (hdC rest[j].hd (.slice b1 p1 d1) (.slice b2 p2 d2)))
  (hb : w'.heap[S]? = some (.cells (sgC k (sqTo k rest j).f (sqTo k rest j).t (sqTo k rest j).r rest[j].hd (.slice b1 p1 d1) (.slice b2 p2 d2) (IntKind.u64.wrap (sqTo k rest j).n)) 33 (0,0))) : DdAt S k rest F (j + 1) b1 p1 d1 b2 p2 d2 w4 w' := by
 have e : sqTo k rest (j + 1) = { (sqTo k rest j) with x := rest[j] } := by rw [sqTo_succ h1 h2,hf]; rfl
 refine ⟨by rw [e]; exact hb,h.turn.trans ht,?_⟩
 rw [e]
 exact Rep.keep (fun b e hl => ht.block b hl (by have := hF b e; omega)) _ _ hrep
set_option maxHeartbeats 8000000 in
theorem rctl_ok (aa : Option Addr) (ac : Nat) (bs : List UInt8) (w : World) (h : Sl w (.slice aa bs.length ac) (bs.map cellB)) (hl : ¬ 1000 < bs.length) (t : Tm) (hd : decodeP bs = .ok t) : Calls Try.prog 6 #[.slice aa bs.length ac] w (CtlPost w (ctlP bs)) := by
 have HKK := hid (ctl_of hl hd)
 obtain ⟨hg,hsz⟩ := dec_read hd
 have hlI : ¬ (1000 : Int) < (bs.length : Int) := by omega
 have hd2 : decide ((1000 : Int) < (bs.length : Int)) = false := decide_eq_false hlI
 have HR := hid (heap_new w (.cells sgZ 33))
 have HB := hid ((Below.refl w.heap.size w).alloc (Nat.le_refl _) (.cells sgZ 33))
 have HD := hid (refdecode_any _ bs (w.alloc (.cells sgZ 33)) (h.alloc _))
 rw [hd] at HD
 have hRlt : w.heap.size < (w.alloc (.cells sgZ 33)).heap.size := blk_lt HR.out
 clear hl hd h
 obtain ⟨hd,l⟩ := t
 go_enter Try.func6,Try.ntmps6
 go_wp2_with fail
 refine HD.out.mono ?_
 rintro e w1 ⟨cs,rfl,hrep,hb⟩
 obtain ⟨bv,lv,rfl,hbv,vs,hlv,hreps⟩ := hrep
 obtain ⟨b1,d1,rfl⟩ := row_slice_q hbv
 obtain ⟨b2,d2,rfl⟩ := row_slice_q hlv
 have hb2 := (Below.refl w1.heap.size w1).alloc (Nat.le_refl _) (.cells (hdC hd (.slice b1 hd.b.length d1) (.slice b2 l.length d2)) 31)
 have HB2 := hid ((HB.out.trans (hb.mono HB.out.size)).trans (hb2.mono (Nat.le_trans HB.out.size hb.size)))
 have HR2 := hid ((hb2.block _ (Nat.lt_of_lt_of_le hRlt hb.size)).trans ((hb.block _ hRlt).trans HR.out))
 have HT2 := hid (heap_new w1 (.cells (hdC hd (.slice b1 hd.b.length d1) (.slice b2 l.length d2)) 31))
 have HRow := hid (hlv.keep (w' := w1.alloc (.cells (hdC hd (.slice b1 hd.b.length d1) (.slice b2 l.length d2)) 31)) (fun b _ hb => hb2.block b hb))
 have HReps := hid (Reps.keep (w' := w1.alloc (.cells (hdC hd (.slice b1 hd.b.length d1) (.slice b2 l.length d2)) 31)) (fun b _ hb => hb2.block b hb) _ _ hreps)
 have HRpT := hid (show Rep (w1.alloc (.cells (hdC hd (.slice b1 hd.b.length d1) (.slice b2 l.length d2)) 31)) (fun b => (w.alloc (.cells sgZ 33)).heap.size ≤ b) (.mk hd l) (hdC hd (.slice b1 hd.b.length d1) (.slice b2 l.length d2)) from ⟨_,_,rfl,hbv.keep (fun b _ hb => hb2.block b hb),vs,HRow.out,HReps.out⟩)
 have HFb := hid (fun b (e : b2 = some ⟨b,0,none⟩) => (⟨hlv.2.1 b (by rw [e]; rfl),(hlv.1.lt b (by rw [e]; rfl)).2⟩ : _ ∧ _))
 have hT1 : w.heap.size < w1.heap.size := Nat.lt_of_lt_of_le hRlt hb.size
 have hT1a : (w.alloc (.cells sgZ 33)).heap.size = w.heap.size + 1 := by simp
 rw [hT1a] at HRow HReps HFb HRpT
 clear hb hb2 HD HR HB hbv hlv hreps hRlt hT1a
 go_upto_region 4 with fail
 obtain ⟨R,hR⟩ : ∃ b,w.heap.size = b := ⟨_,rfl⟩
 have hRl : w.heap.size ≤ R := Nat.le_of_eq hR
 rw [hR] at HB2 HR2 HRow HReps HFb HRpT hT1 hRl ⊢
 have HN := hid hR
 have HRl := hid (Nat.le_refl R)
 clear hR hRl
 generalize w1.alloc (.cells (hdC hd (.slice b1 hd.b.length d1) (.slice b2 l.length d2)) 31) = w2 at *
 have hT2 := blk_lt HT2.out
 generalize w1.heap.size = T at *
 obtain ⟨t0,t1,t2,t3,t4,t5,t6,t7,t8⟩ := NineAt.of_block HT2.out
 by_cases h6 : hd.kind = 6
 case neg =>
  have HK := hid (show ctlP bs = .error 230 from HKK.out.trans (by rw [sig_kind (t := .mk hd l) h6]; rfl))
  have g6 : (hd.kind != 6) = true := bne_iff_ne.2 h6
  go_wp2_with (refine wpList_store_row rfl 33 (.tmp 2) (.tmp 56) rfl R sgZ rfl rfl 33 sgZ HR2.out infoSg rfl (by simp [Array.all,Value.oneCell']) ?_)
  have hE := sg_end sgZ HB2.out HRl.out HR2.out
  exact bodyPost_ret (results_cell2 rfl _ _ R 33 sgZ (0,0) _ (.int .i64 230) rfl rfl hE.1 Try.underlying33 rfl infoSg) rfl (by rw [HK.out]; exact ⟨rfl,HN.out ▸ hE.2⟩)
 have g6 : (hd.kind != 6) = false := by rw [h6]; rfl
 match l with
 | [] =>
  have HK := hid (show ctlP bs = .error 230 from HKK.out.trans (by rw [sig_nil (t := .mk hd []) rfl]; rfl))
  go_wp2_with (refine wpList_store_row rfl 33 (.tmp 2) (.tmp 56) rfl R sgZ rfl rfl 33 sgZ HR2.out infoSg rfl (by simp [Array.all,Value.oneCell']) ?_)
  have hE := sg_end sgZ HB2.out HRl.out HR2.out
  exact bodyPost_ret (results_cell2 rfl _ _ R 33 sgZ (0,0) _ (.int .i64 230) rfl rfl hE.1 Try.underlying33 rfl infoSg) rfl (by rw [HK.out]; exact ⟨rfl,HN.out ▸ hE.2⟩)
 | a :: rest =>
 have hlen : (a :: rest).length = rest.length + 1 := rfl
 have g0 : (((a :: rest).length : Int) == 0) = false := by rw [beq_eq_false_iff_ne]; simp; omega
 obtain ⟨g,cap,hgs,hFg,ha,bva,pva,hrepa,⟨la,ea⟩,na⟩ := HRow.out.nine HReps.out (i := 0) (by simp)
 injection hgs with e1 e2 e3
 subst e1 e3
 obtain ⟨hgR,hgT⟩ := HFb.out g rfl
 have hgR : R + 1 ≤ g := hgR
 obtain ⟨m0,m1,_⟩ := na
 rw [Nat.zero_mul] at m0 m1
 have hah : a.hd = ha := by rw [show a = .mk ha la from ea]; rfl
 have hfirst := sig_first (t := .mk hd (a :: rest)) (a := a) (rest := rest) rfl
 have hrest := sig_rest (t := .mk hd (a :: rest)) (a := a) (rest := rest) rfl h6
 rw [hah] at hfirst hrest
 clear ea hrepa e2
 by_cases hk1 : ha.kind = 1
 case neg =>
  have HK := hid (show ctlP bs = .error 230 from HKK.out.trans (by rw [hfirst fun e => hk1 e.1]; rfl))
  have g1 : (ha.kind != 1) = true := bne_iff_ne.2 hk1
  go_wp2_with (refine wpList_store_row rfl 33 (.tmp 2) (.tmp 56) rfl R sgZ rfl rfl 33 sgZ HR2.out infoSg rfl (by simp [Array.all,Value.oneCell']) ?_)
  have hE := sg_end sgZ HB2.out HRl.out HR2.out
  exact bodyPost_ret (results_cell2 rfl _ _ R 33 sgZ (0,0) _ (.int .i64 230) rfl rfl hE.1 Try.underlying33 rfl infoSg) rfl (by rw [HK.out]; exact ⟨rfl,HN.out ▸ hE.2⟩)
 have g1 : (ha.kind != 1) = false := by rw [hk1]; rfl
 by_cases hn1 : 1 ≤ ha.n
 case neg =>
  have HK := hid (show ctlP bs = .error 230 from HKK.out.trans (by rw [hfirst fun e => hn1 e.2.1]; rfl))
  have g2 : decide (ha.n < 1) = true := decide_eq_true (by omega)
  have g2' : ha.n < 1 := by omega
  go_wp2_with (refine wpList_store_row rfl 33 (.tmp 2) (.tmp 56) rfl R sgZ rfl rfl 33 sgZ HR2.out infoSg rfl (by simp [Array.all,Value.oneCell']) ?_)
  have hE := sg_end sgZ HB2.out HRl.out HR2.out
  exact bodyPost_ret (results_cell2 rfl _ _ R 33 sgZ (0,0) _ (.int .i64 230) rfl rfl hE.1 Try.underlying33 rfl infoSg) rfl (by rw [HK.out]; exact ⟨rfl,HN.out ▸ hE.2⟩)
 have g2 : decide (ha.n < 1) = false := decide_eq_false (by omega)
 by_cases hn2 : ha.n ≤ 11
 case neg =>
  have HK := hid (show ctlP bs = .error 230 from HKK.out.trans (by rw [hfirst fun e => hn2 e.2.2]; rfl))
  have g3 : decide (11 < ha.n) = true := decide_eq_true (by omega)
  have g3' : 11 < ha.n := by omega
  go_wp2_with (refine wpList_store_row rfl 33 (.tmp 2) (.tmp 56) rfl R sgZ rfl rfl 33 sgZ HR2.out infoSg rfl (by simp [Array.all,Value.oneCell']) ?_)
  have hE := sg_end sgZ HB2.out HRl.out HR2.out
  exact bodyPost_ret (results_cell2 rfl _ _ R 33 sgZ (0,0) _ (.int .i64 230) rfl rfl hE.1 Try.underlying33 rfl infoSg) rfl (by rw [HK.out]; exact ⟨rfl,HN.out ▸ hE.2⟩)
 have g3 : decide (11 < ha.n) = false := decide_eq_false (by omega)
 have hctl := hrest hk1 hn1 hn2
 rw [hctl] at HKK
 clear hctl hfirst hrest
 go_upto_region 8 with fail
 have hP2 := PartsAt.of HRow.out HReps.out
 clear g0 g1 g2 g3 g6 m0
 clear t0 t1 t2 t3 t4 t5 t6 t7
 have HGd := hid (fun p (hp : p ∈ rest) => part_good hg hsz (List.mem_cons_of_mem a hp))
 have HTup := hid (good_tuple hg h6)
 have HInt := hid (show a = intT ha.n from by rw [← hah]; exact good_int (part_good hg hsz (List.mem_cons_self ..)).1 (by rw [hah]; exact hk1))
 have HGt := hid hg
 have HSz := hid hsz
 clear hg hsz
 have hb3 := (Below.refl w2.heap.size w2).alloc (Nat.le_refl _) (.cells sgZ 33)
 have HZ3 := hid (heap_new w2 (.cells sgZ 33))
 go_upto_region 9 with (refine wpList_store_row rfl 33 (.tmp 6) (.tmp 62) rfl w2.heap.size (sgC ha.n I3.zero I3.zero I3.zero {} nilV nilV 0) rfl rfl 33 sgZ HZ3.out infoSg rfl (by simp [Array.all,Value.oneCell']) ?_)
 have hc3 := hb3.trans ((setRow_turn _ w2.heap.size (sgC ha.n I3.zero I3.zero I3.zero {} nilV nilV 0)).below hb3.size fun i e => by omega)
 obtain ⟨S,hS⟩ : ∃ b,w2.heap.size = b := ⟨_,rfl⟩
 rw [hS] at hc3 hT2 HZ3 ⊢
 have HS3 := hid (setRow_heap _ S _ (sgC ha.n I3.zero I3.zero I3.zero {} nilV nilV 0) _ _ HZ3.out)
 have HB3 := hid (HB2.out.trans (hc3.mono (show R ≤ S by omega)))
 have hk3 : ∀ b,b < S → ((w2.alloc (.cells sgZ 33)).setRow S (sgC ha.n I3.zero I3.zero I3.zero {} nilV nilV 0)).heap[b]? = w2.heap[b]? := fun b hb => hc3.block b hb
 have HR3 := hid ((hk3 R (by omega)).trans HR2.out)
 have HT3 := hid ((hk3 T hT2).trans HT2.out)
 have HRpT3 := hid (Rep.mono (F' := fun b => b < S) (fun b _ hb => by rw [← hS]; exact hb) _ _ HRpT.out)
 have HRpT4 := hid (Rep.keep (w' := (w2.alloc (.cells sgZ 33)).setRow S (sgC ha.n I3.zero I3.zero I3.zero {} nilV nilV 0)) (fun b e _ => hk3 b e) _ _ HRpT3.out)
 simp only [hS] at hP2
 have HP3 := hid (hP2.keep (fun b e _ => hk3 b e.2))
 clear hb3 hc3 hk3 hP2 HZ3 HR2 HB2 HT2 HRow HReps HFb HRpT HRpT3 t8 hS
 generalize (w2.alloc (.cells sgZ 33)).setRow S (sgC ha.n I3.zero I3.zero I3.zero {} nilV nilV 0) = w3 at *
 have hks := (sg_cells HS3.out).1
 go_wp2_with fail
 refine (fieldsD_any ha.n hn1 hn2 w3).mono ?_
 rintro e w4 ⟨rfl,hb⟩
 have hS3l := blk_lt HS3.out
 have HRS := hid (show R < S by omega)
 have HTS := hid (show T < S from hT2)
 have HB4 := hid (HB3.out.trans (hb.mono (show R ≤ w3.heap.size by omega)))
 have HR4 := hid ((hb.block _ (blk_lt HR3.out)).trans HR3.out)
 have HT4 := hid ((hb.block _ (blk_lt HT3.out)).trans HT3.out)
 have HS4 := hid ((hb.block _ hS3l).trans HS3.out)
 have HP4 := hid (HP3.out.keep (fun b _ hb2 => hb.block b hb2))
 have HRp4 := hid (Rep.keep (fun b _ hb2 => hb.block b hb2) _ _ HRpT4.out)
 have HST := hid (show g < S by omega)
 clear hb HB3 HR3 HS3 HP3 HT3 HRpT4 hS3l hks hT1 hT2 hgT hgR
 have HHn := hid (show a.hd.n = ha.n by rw [hah])
 generalize ha.n = k at *
 have hls := let_size k hn1 hn2
 have HLa := hid (fun i hi hi2 => let_at k hn1 hn2 (i := i) hi hi2)
 generalize letK k = Lk at *
 have hfl4 : (flds k).length ≤ 4 := by rcases kind_cases hn1 hn2 with rfl | rfl | rfl | rfl | rfl | rfl | rfl | rfl | rfl | rfl | rfl <;> decide
 have HR4l := hid (Nat.le_of_lt (blk_lt HR4.out))
 have t8 := (NineAt.of_block HT4.out).2.2.2.2.2.2.2.2
 by_cases hlr : (flds k).length = rest.length
 case neg =>
  have HK := hid (show ctlP bs = .error 230 from HKK.out.trans (by rw [fits_of_length hlr]; rfl))
  have gne : (((rest.length : Nat) : Int) + 1 != ((Lk.size : Nat) : Int) + 1) = true := by rw [bne_iff_ne]; omega
  go_wp2_with (refine wpList_store_row rfl 33 (.tmp 2) (.tmp 73) rfl R sgZ rfl rfl 33 sgZ HR4.out infoSg rfl (by simp [Array.all,Value.oneCell']) ?_)
  have hE := sg_end sgZ HB4.out HRl.out HR4.out
  exact bodyPost_ret (results_cell2 rfl _ _ R 33 sgZ (0,0) _ (.int .i64 230) rfl rfl hE.1 Try.underlying33 rfl infoSg) rfl (by rw [HK.out]; exact ⟨rfl,HN.out ▸ hE.2⟩)
 have geq : (((rest.length : Nat) : Int) + 1 != ((Lk.size : Nat) : Int) + 1) = false := by rw [hls,hlr]; simp
 have hsI : ((Lk.size : Nat) : Int) ≤ 4 := by omega
 have HLr := hid hlr
 clear hlr
 have HD0 := hid (show DdAt S k rest (fun b => R + 1 ≤ b ∧ b < S) 0 none 0 0 none 0 0 w4 w4 from ⟨HS4.out,Turn.refl _ _,Rep.leaf (h := {}) rfl⟩)
 go_wp2_with fail
 go_loopw [8] (fun t8 wr => ∃ (i : Nat) (a1 : Option Addr) (m1 c1 : Nat) (a2 : Option Addr) (m2 c2 : Nat),i ≤ (flds k).length ∧ t8 = .int .i64 i ∧ DdAt S k rest (fun b => R + 1 ≤ b ∧ b < S) i a1 m1 c1 a2 m2 c2 w4 wr) (fun t8 _ => (flds k).length - (intOf t8).toNat)
 case atStart => exact ⟨0,none,0,0,none,0,0,by omega,rfl,HD0.out⟩
 case round =>
  obtain ⟨i,a1,p1,c1,a2,p2,c2,hi,rfl,hD⟩ := hrel
  have HDr := hid hD
  clear hD HD0
  by_cases hlt : i < (flds k).length
  ·have hlt2 : i < Lk.size := by omega
   have hlti : (i : Int) < (Lk.size : Int) := by omega
   have hlti0 : (0 : Int) ≤ (i : Int) := by omega
   have hr : i < rest.length := by have := HLr.out; omega
   have hri : (i : Int) + 1 < (rest.length : Int) + 1 := by omega
   have hle := HLa.out i hlt hlt2
   obtain ⟨b1,q1,d1,b2,q2,d2,hrepj,hnine⟩ := (HDr.out.parts HP4.out (fun b e => e.2)).2 i hr
   have ht8 := (World.cell?_of_block (w := w4) (w' := wr) (HDr.out.old (b := T) (by have := HTS.out; omega) (blk_lt HT4.out))).trans t8
   have HGp := hid (HGd.out _ (List.getElem_mem hr))
   have HNx := hid (fun (s' : Sq) (hs' : (sqTo k rest i).put (flds k)[i] rest[i] = s') (hx : s'.x = (sqTo k rest i).x) (w' wx : World) (hb : Below wr.heap.size wr wx) (ht : Turn (fun i => i = S) wx w') (hb2 : w'.heap[S]? = some (.cells (sgC k s'.f s'.t s'.r (sqTo k rest i).x.hd (.slice a1 p1 c1) (.slice a2 p2 c2) (IntKind.u64.wrap s'.n)) 33 (0,0))) => (HDr.out.call hb).next hlt hr hs' hx ht (fun b e => e.2) hb2)
   have HNX := hid (fun (hf : (flds k)[i] = .x) (w' wx : World) (hb : Below wr.heap.size wr wx) (ht : Turn (fun i => i = S) wx w') (hb2 : w'.heap[S]? = some (.cells (sgC k (sqTo k rest i).f (sqTo k rest i).t (sqTo k rest i).r rest[i].hd (.slice b1 q1 d1) (.slice b2 q2 d2) (IntKind.u64.wrap (sqTo k rest i).n)) 33 (0,0))) => (HDr.out.call hb).nextX hlt hr hf ht (fun b e => e.2) (Rep.keep (fun b _ hl => hb.block b hl) _ _ hrepj) hb2)
   obtain ⟨n0,n1,n2,n3,n4,n5,n6,n7,n8⟩ := hnine
   have hbx := (Below.refl wr.heap.size wr).alloc (Nat.le_refl _) (.cells (hdC rest[i].hd (.slice b1 q1 d1) (.slice b2 q2 d2)) 31)
   have hsx := (hbx.block S (blk_lt HDr.out.sb)).trans HDr.out.sb
   have hnx := heap_new wr (.cells (hdC rest[i].hd (.slice b1 q1 d1) (.slice b2 q2 d2)) 31)
   have HBx := hid hbx
   have HSx := hid hsx
   have HXx := hid hnx
   clear hrepj hbx hsx hnx
   generalize hpe : rest[i] = p at *
   generalize hfe : (flds k)[i] = fld at *
   clear hpe hfe
   go_upto_region 16 with fail
   clear n0 n1 n2 n3 n4 n5 n6 n7 n8 ht8
   generalize wr.heap.size = X9 at *
   generalize wr.alloc (.cells (hdC p.hd (.slice b1 q1 d1) (.slice b2 q2 d2)) 31) = w9 at *
   obtain ⟨x0,x1,x2,x3,x4,x5,x6,x7,x8⟩ := NineAt.of_block HXx.out
   obtain ⟨s0,s1,s2,s3,s4,s5,s6,s7,s8,s9,s10,s11,s12,s13,s14,s15,s16,s17,s18,s19⟩ := sg_cells HSx.out
   have hfz := fz_of HSx.out
   have hpw := part_wf HGp.out.1
   cases fld
   case f =>
    have hcv : ((Lk[i]'hlt2).toNat : Int) = 102 := by rw [hle]; rfl
    have HN9 := hid (HNx.out _ rfl rfl (set3 w9 S 1 (.int .i64 p.hd.node) (.int .u32 p.hd.boot) (.int .u64 p.hd.idn)) w9 HBx.out (set3_turn _ _ _ _ _ _) (set3_at HSx.out (by simp [Sq.put,id3])))
    go_wp2_with fail
    go_round
    case rel => exact ⟨i + 1,a1,p1,c1,a2,p2,c2,by omega,by go_num,HN9.out⟩
    case measure => simp [intOf]; omega
   case t =>
    have hcv : ((Lk[i]'hlt2).toNat : Int) = 116 := by rw [hle]; rfl
    have HN9 := hid (HNx.out _ rfl rfl (set3 w9 S 4 (.int .i64 p.hd.node) (.int .u32 p.hd.boot) (.int .u64 p.hd.idn)) w9 HBx.out (set3_turn _ _ _ _ _ _) (set3_at HSx.out (by simp [Sq.put,id3])))
    go_wp2_with fail
    go_round
    case rel => exact ⟨i + 1,a1,p1,c1,a2,p2,c2,by omega,by go_num,HN9.out⟩
    case measure => simp [intOf]; omega
   case r =>
    have hcv : ((Lk[i]'hlt2).toNat : Int) = 114 := by rw [hle]; rfl
    have HN9 := hid (HNx.out _ rfl rfl (set3 w9 S 7 (.int .i64 p.hd.node) (.int .u32 p.hd.boot) (.int .u64 p.hd.idn)) w9 HBx.out (set3_turn _ _ _ _ _ _) (set3_at HSx.out (by simp [Sq.put,id3])))
    go_wp2_with fail
    go_round
    case rel => exact ⟨i + 1,a1,p1,c1,a2,p2,c2,by omega,by go_num,HN9.out⟩
    case measure => simp [intOf]; omega
   case n =>
    have hcv : ((Lk[i]'hlt2).toNat : Int) = 110 := by rw [hle]; rfl
    have HN9 := hid (HNx.out _ rfl rfl (w9.setCell ⟨S,19,none⟩ (.int .u64 (IntKind.u64.wrap p.hd.n))) w9 HBx.out (Turn.setCell _ _ _ _) (by have := heap_setCell_at (o := 19) (u := .int .u64 (IntKind.u64.wrap p.hd.n)) HSx.out; simpa [Sq.put] using this))
    go_wp2_with fail
    go_round
    case rel => exact ⟨i + 1,a1,p1,c1,a2,p2,c2,by omega,by go_num,HN9.out⟩
    case measure => simp [intOf]; omega
   case x =>
    have hcv : ((Lk[i]'hlt2).toNat : Int) = 120 := by rw [hle]; rfl
    have HN9 := hid (HNX.out rfl (set9o w9 S 10 (.int .i64 p.hd.kind) (.int .i64 p.hd.n) (.complex .f64 p.hd.re p.hd.im) (.string p.hd.s) (.int .i64 p.hd.node) (.int .u32 p.hd.boot) (.int .u64 p.hd.idn) (.slice b1 q1 d1) (.slice b2 q2 d2)) w9 HBx.out (set9o_turn _ _ _ _ _ _ _ _ _ _ _ _) (set9o_at HSx.out (sg_put9 _ _ _ _ _ _ _ _ _ _ _)))
    go_wp2_with fail
    go_round
    case rel => exact ⟨i + 1,b1,q1,d1,b2,q2,d2,by omega,by go_num,HN9.out⟩
    case measure => simp [intOf]; omega
  ·obtain rfl : i = (flds k).length := by omega
   have hnl : ¬ ((flds k).length : Int) < (Lk.size : Int) := by omega
   have hnl2 : decide (((flds k).length : Int) < (Lk.size : Int)) = false := decide_eq_false hnl
   go_upto_region 27 with fail
   have hlr := HLr.out
   have hpre := sq_pre2 hn1 hn2 (Nat.le_of_eq hlr) HGd.out
   have HRr := hid ((HDr.out.old (Nat.ne_of_lt HRS.out) (blk_lt HR4.out)).trans HR4.out)
   have HTr := hid ((HDr.out.old (Nat.ne_of_lt HTS.out) (blk_lt HT4.out)).trans HT4.out)
   have HBr := hid (HB4.out.trans (HDr.out.turn.below HR4l.out fun i e => by have := HRS.out; omega))
   have HRpr := hid (Rep.keep (w' := wr) (fun b e hb => HDr.out.turn.block b hb (by omega)) _ _ HRp4.out)
   have HSg := hid HDr.out.sb
   have HRx := hid HDr.out.rep
   have HRight := hid (fun (w' : World) (hb : Below wr.heap.size wr w') => rightD_any k hn1 hn2 (sqTo k rest (flds k).length).f (sqTo k rest (flds k).length).t (sqTo k rest (flds k).length).r (sqTo k rest (flds k).length).x (IntKind.u64.wrap (sqTo k rest (flds k).length).n) a1 p1 c1 a2 p2 c2 w' (Rep.mono (fun b _ hb => hb) _ _ (Rep.keep (fun b _ hl => hb.block b hl) _ _ HRx.out)) hpre.1 hpre.2.1 hpre.2.2.1 hpre.2.2.2.1 hpre.2.2.2.2.1 hpre.2.2.2.2.2.1 hpre.2.2.2.2.2.2.1 hpre.2.2.2.2.2.2.2.1 hpre.2.2.2.2.2.2.2.2.1 hpre.2.2.2.2.2.2.2.2.2)
   have hSl := blk_lt HSg.out
   clear HDr hpre hlr
   go_cut [123] from 10 to 123 (fun t123 wx => t123 = .bool (!fitsB k (flds k) rest) ∧ Below wr.heap.size wr wx)
   case first =>
    have hb0 : Below wr.heap.size wr wr.drew := (Below.refl _ wr).drew
    have HB0 := hid hb0
    clear hb0
    cases hw : wholeB k (sqTo k rest (flds k).length).f (sqTo k rest (flds k).length).t (sqTo k rest (flds k).length).r (sqTo k rest (flds k).length).x (IntKind.u64.wrap (sqTo k rest (flds k).length).n)
    ·have hnf : fitsB k (flds k) rest = false := by
      cases e : fitsB k (flds k) rest
      ·rfl
      ·have := (doc_right hn1 hn2 HLr.out HGd.out e).1
       rw [hw] at this
       cases this
     have HNf := hid hnf
     rw [hw] at HRight
     clear hw hnf
     refine wp_region_any (by kernel_rfl) ?_
     change wpAny _ _ _ _ _ _ _ (World.drew _)
     refine wpAny_hide fun A hA => ?_
     refine wpAny_ready (rs := [0]) (by kernel_rfl) (by simp) ?_
     refine AllReady.cons rfl (fun K hK => ?_) AllReady.nil
     refine op_load (by rw [hA]; kernel_rfl) 33 (.tmp 6) rfl S (by rw [hA]; kernel_rfl) 33 (sgC k (sqTo k rest (flds k).length).f (sqTo k rest (flds k).length).t (sqTo k rest (flds k).length).r (sqTo k rest (flds k).length).x.hd (.slice a1 p1 c1) (.slice a2 p2 c2) (IntKind.u64.wrap (sqTo k rest (flds k).length).n)) (0,0) _ HSg.out Try.underlying33 rfl infoSg ?_
     refine hK _ _ ?_
     clear hK K
     refine wpAny_hide fun A1 hA1 => ?_
     refine wpAny_ready (rs := [1]) (by kernel_rfl) (by simp) ?_
     refine AllReady.cons rfl (fun K hK => ?_) AllReady.nil
     refine op_call1 (by rw [hA1,hA]; kernel_rfl) 16 (.tmp 114) 33 rfl (enters Try.func16 (by kernel_rfl) (by kernel_rfl)) (.agg (sgC k (sqTo k rest (flds k).length).f (sqTo k rest (flds k).length).t (sqTo k rest (flds k).length).r (sqTo k rest (flds k).length).x.hd (.slice a1 p1 c1) (.slice a2 p2 c2) (IntKind.u64.wrap (sqTo k rest (flds k).length).n))) (by rw [hA1,hA]; kernel_rfl) (HRight.out _ HB0.out) ?_
     rintro e w10 ⟨rfl,hb10⟩
     refine ⟨_,rfl,hK _ _ ?_⟩
     clear hK K
     refine wpAny_hide fun A2 hA2 => ?_
     have HB10 := hid (HB0.out.trans (hb10.mono HB0.out.size))
     clear hb10
     refine wpAny_take (i := 2) (v := .bool true) rfl (by kernel_rfl) (by kernel_rfl) (by kernel_rfl) (fun _ _ _ h => h) (Or.inl ⟨by rw [hA2,hA1,hA]; kernel_rfl,fun w => by rw [hA2,hA1,hA]; kernel_rfl⟩) ?_
     refine wpAny_hide fun A3 hA3 => ?_
     refine wpAny_take (i := 3) (v := .bool true) rfl (by kernel_rfl) (by kernel_rfl) (by kernel_rfl) (fun _ _ _ h => h) (Or.inl ⟨by rw [hA3,hA2,hA1,hA]; kernel_rfl,fun w => by rw [hA3,hA2,hA1,hA]; kernel_rfl⟩) ?_
     refine wpAny_hide fun A4 hA4 => ?_
     refine wpAny_take (i := 4) (v := undef) rfl (by kernel_rfl) (by kernel_rfl) (by kernel_rfl) (fun _ _ _ h => h) (Or.inr ⟨by rw [hA4,hA3,hA2,hA1,hA]; kernel_rfl,rfl⟩) ?_
     refine wpAny_hide fun A5 hA5 => ?_
     refine wpAny_take (i := 5) (v := undef) rfl (by kernel_rfl) (by kernel_rfl) (by kernel_rfl) (fun _ _ _ h => h) (Or.inr ⟨by rw [hA5,hA4,hA3,hA2,hA1,hA]; kernel_rfl,rfl⟩) ?_
     refine wpAny_hide fun A6 hA6 => ?_
     refine wpAny_take (i := 6) (v := undef) rfl (by kernel_rfl) (by kernel_rfl) (by kernel_rfl) (fun _ _ _ h => h) (Or.inr ⟨by rw [hA6,hA5,hA4,hA3,hA2,hA1,hA]; kernel_rfl,rfl⟩) ?_
     refine wpAny_hide fun A7 hA7 => ?_
     refine wpAny_take (i := 7) (v := undef) rfl (by kernel_rfl) (by kernel_rfl) (by kernel_rfl) (fun _ _ _ h => h) (Or.inr ⟨by rw [hA7,hA6,hA5,hA4,hA3,hA2,hA1,hA]; kernel_rfl,rfl⟩) ?_
     refine wpAny_hide fun A8 hA8 => ?_
     refine wpAny_take (i := 8) (v := undef) rfl (by kernel_rfl) (by kernel_rfl) (by kernel_rfl) (fun _ _ _ h => h) (Or.inr ⟨by rw [hA8,hA7,hA6,hA5,hA4,hA3,hA2,hA1,hA]; kernel_rfl,rfl⟩) ?_
     refine wpAny_hide fun A9 hA9 => ?_
     refine wpAny_take (i := 9) (v := .bool true) rfl (by kernel_rfl) (by kernel_rfl) (by kernel_rfl) (fun _ _ _ h => h) (Or.inl ⟨by rw [hA9,hA8,hA7,hA6,hA5,hA4,hA3,hA2,hA1,hA]; kernel_rfl,fun w => by rw [hA9,hA8,hA7,hA6,hA5,hA4,hA3,hA2,hA1,hA]; kernel_rfl⟩) ?_
     refine wpAny_hide fun A10 hA10 => ?_
     refine wpAny_done (by kernel_rfl) ?_ _
     subst hA10
     subst hA9
     subst hA8
     subst hA7
     subst hA6
     subst hA5
     subst hA4
     subst hA3
     subst hA2
     subst hA1
     subst hA
     go_wp2_with fail
     go_meet
     exact ⟨by rw [HNf.out]; rfl,HB10.out⟩
    ·obtain ⟨hal,hfe,hnn⟩ := doc_test hn1 hn2 HLr.out HGd.out hw
     have HSame := hid (doc_same HTup.out HInt.out HGt.out HSz.out hal hfe)
     have HTerm := hid (fun (w' : World) (hb : Below wr.heap.size wr w') => termD_any k hn1 hn2 (sqTo k rest (flds k).length).f (sqTo k rest (flds k).length).t (sqTo k rest (flds k).length).r (sqTo k rest (flds k).length).x (IntKind.u64.wrap (sqTo k rest (flds k).length).n) a1 p1 c1 a2 p2 c2 w' (Rep.mono (fun b _ hb => hb) _ _ (Rep.keep (fun b _ hl => hb.block b hl) _ _ HRx.out)) hnn)
     rw [hw] at HRight
     clear hw hal hfe hnn
     refine wp_region_any (by kernel_rfl) ?_
     change wpAny _ _ _ _ _ _ _ (World.drew _)
     refine wpAny_hide fun A hA => ?_
     refine wpAny_ready (rs := [0]) (by kernel_rfl) (by simp) ?_
     refine AllReady.cons rfl (fun K hK => ?_) AllReady.nil
     refine op_load (by rw [hA]; kernel_rfl) 33 (.tmp 6) rfl S (by rw [hA]; kernel_rfl) 33 (sgC k (sqTo k rest (flds k).length).f (sqTo k rest (flds k).length).t (sqTo k rest (flds k).length).r (sqTo k rest (flds k).length).x.hd (.slice a1 p1 c1) (.slice a2 p2 c2) (IntKind.u64.wrap (sqTo k rest (flds k).length).n)) (0,0) _ HSg.out Try.underlying33 rfl infoSg ?_
     refine hK _ _ ?_
     clear hK K
     refine wpAny_hide fun A11 hA11 => ?_
     refine wpAny_ready (rs := [1]) (by kernel_rfl) (by simp) ?_
     refine AllReady.cons rfl (fun K hK => ?_) AllReady.nil
     refine op_call1 (by rw [hA11,hA]; kernel_rfl) 16 (.tmp 114) 33 rfl (enters Try.func16 (by kernel_rfl) (by kernel_rfl)) (.agg (sgC k (sqTo k rest (flds k).length).f (sqTo k rest (flds k).length).t (sqTo k rest (flds k).length).r (sqTo k rest (flds k).length).x.hd (.slice a1 p1 c1) (.slice a2 p2 c2) (IntKind.u64.wrap (sqTo k rest (flds k).length).n))) (by rw [hA11,hA]; kernel_rfl) (HRight.out _ HB0.out) ?_
     rintro e w10 ⟨rfl,hb10⟩
     refine ⟨_,rfl,hK _ _ ?_⟩
     clear hK K
     refine wpAny_hide fun A12 hA12 => ?_
     have HB10 := hid (HB0.out.trans (hb10.mono HB0.out.size))
     clear hb10
     refine wpAny_take (i := 2) (v := .bool false) rfl (by kernel_rfl) (by kernel_rfl) (by kernel_rfl) (fun _ _ _ h => h) (Or.inl ⟨by rw [hA12,hA11,hA]; kernel_rfl,fun w => by rw [hA12,hA11,hA]; kernel_rfl⟩) ?_
     refine wpAny_hide fun A13 hA13 => ?_
     refine wpAny_take (i := 3) (v := .bool false) rfl (by kernel_rfl) (by kernel_rfl) (by kernel_rfl) (fun _ _ _ h => h) (Or.inl ⟨by rw [hA13,hA12,hA11,hA]; kernel_rfl,fun w => by rw [hA13,hA12,hA11,hA]; kernel_rfl⟩) ?_
     refine wpAny_hide fun A14 hA14 => ?_
     refine wpAny_ready (rs := [4,6]) (by kernel_rfl) (by simp) ?_
     refine AllReady.cons rfl (fun K hK => ?_) (AllReady.cons rfl (fun K hK => ?_) AllReady.nil)
     ·refine op_load (by rw [hA14,hA13,hA12,hA11,hA]; kernel_rfl) 33 (.tmp 6) rfl S (by rw [hA14,hA13,hA12,hA11,hA]; kernel_rfl) 33 (sgC k (sqTo k rest (flds k).length).f (sqTo k rest (flds k).length).t (sqTo k rest (flds k).length).r (sqTo k rest (flds k).length).x.hd (.slice a1 p1 c1) (.slice a2 p2 c2) (IntKind.u64.wrap (sqTo k rest (flds k).length).n)) (0,0) _ ((HB10.out.block S hSl).trans HSg.out) Try.underlying33 rfl infoSg ?_
      refine hK _ _ ?_
      clear hK K
      refine wpAny_hide fun A15 hA15 => ?_
      refine wpAny_ready (rs := [5,6]) (by kernel_rfl) (by simp) ?_
      refine AllReady.cons rfl (fun K hK => ?_) (AllReady.cons rfl (fun K hK => ?_) AllReady.nil)
      ·refine op_call1 (by rw [hA15,hA14,hA13,hA12,hA11,hA]; kernel_rfl) 18 (.tmp 118) 33 rfl (enters Try.func18 (by kernel_rfl) (by kernel_rfl)) (.agg (sgC k (sqTo k rest (flds k).length).f (sqTo k rest (flds k).length).t (sqTo k rest (flds k).length).r (sqTo k rest (flds k).length).x.hd (.slice a1 p1 c1) (.slice a2 p2 c2) (IntKind.u64.wrap (sqTo k rest (flds k).length).n))) (by rw [hA15,hA14,hA13,hA12,hA11,hA]; kernel_rfl) (HTerm.out _ HB10.out) ?_
       rintro e w11 ⟨ta,tm,tc,rfl,hb11,hrT⟩
       refine ⟨_,rfl,hK _ _ ?_⟩
       clear hK K
       refine wpAny_hide fun A16 hA16 => ?_
       have HB11 := hid (HB10.out.trans (hb11.mono HB10.out.size))
       have HRT := hid hrT
       clear hb11 hrT
       refine wpAny_ready (rs := [6]) (by kernel_rfl) (by simp) ?_
       refine AllReady.cons rfl (fun K hK => ?_) AllReady.nil
       refine op_load (by rw [hA16,hA15,hA14,hA13,hA12,hA11,hA]; kernel_rfl) 31 (.tmp 4) rfl T (by rw [hA16,hA15,hA14,hA13,hA12,hA11,hA]; kernel_rfl) 31 (hdC hd (.slice b1 hd.b.length d1) (.slice (some ⟨g,0,none⟩) (rest.length + 1) d2)) (0,0) _ ((HB11.out.block T (blk_lt HTr.out)).trans HTr.out) Try.underlying31 rfl infoT9 ?_
       refine hK _ _ ?_
       clear hK K
       refine wpAny_hide fun A17 hA17 => ?_
       refine wpAny_ready (rs := [7]) (by kernel_rfl) (by simp) ?_
       refine AllReady.cons rfl (fun K hK => ?_) AllReady.nil
       refine op_call2 (by rw [hA17,hA16,hA15,hA14,hA13,hA12,hA11,hA]; kernel_rfl) 17 (.tmp 119) (.tmp 120) 31 31 rfl (enters Try.func17 (by kernel_rfl) (by kernel_rfl)) (.agg (tuC (.slice ta tm tc))) (.agg (hdC hd (.slice b1 hd.b.length d1) (.slice (some ⟨g,0,none⟩) (rest.length + 1) d2))) (by rw [hA17,hA16,hA15,hA14,hA13,hA12,hA11,hA]; kernel_rfl) (by rw [hA17,hA16,hA15,hA14,hA13,hA12,hA11,hA]; kernel_rfl) (HSame.out _ _ _ _ _ HRT.out (fun _ h => h) (Rep.mono (fun b _ hb => hb) _ _ (Rep.keep (fun b _ hl => HB11.out.block b hl) _ _ HRpr.out)) (fun _ h => h)) ?_
       rintro e w12 ⟨rfl,hb12⟩
       refine ⟨_,rfl,hK _ _ ?_⟩
       clear hK K
       refine wpAny_hide fun A18 hA18 => ?_
       have HB12 := hid (HB11.out.trans (hb12.mono HB11.out.size))
       clear hb12
       refine wpAny_take (i := 8) (v := .bool (!fitsB k (flds k) rest)) rfl (by kernel_rfl) (by kernel_rfl) (by kernel_rfl) (fun _ _ _ h => h) (Or.inl ⟨by rw [hA18,hA17,hA16,hA15,hA14,hA13,hA12,hA11,hA]; kernel_rfl,fun w => by rw [hA18,hA17,hA16,hA15,hA14,hA13,hA12,hA11,hA]; kernel_rfl⟩) ?_
       refine wpAny_hide fun A19 hA19 => ?_
       refine wpAny_take (i := 9) (v := .bool (!fitsB k (flds k) rest)) rfl (by kernel_rfl) (by kernel_rfl) (by kernel_rfl) (fun _ _ _ h => h) (Or.inl ⟨by rw [hA19,hA18,hA17,hA16,hA15,hA14,hA13,hA12,hA11,hA]; kernel_rfl,fun w => by rw [hA19,hA18,hA17,hA16,hA15,hA14,hA13,hA12,hA11,hA]; kernel_rfl⟩) ?_
       refine wpAny_hide fun A20 hA20 => ?_
       refine wpAny_done (by kernel_rfl) ?_ _
       subst hA20
       subst hA19
       subst hA18
       subst hA17
       subst hA16
       subst hA15
       subst hA14
       subst hA13
       subst hA12
       subst hA11
       subst hA
       go_wp2_with fail
       go_meet
       exact ⟨rfl,HB12.out⟩
      ·refine op_load (by rw [hA15,hA14,hA13,hA12,hA11,hA]; kernel_rfl) 31 (.tmp 4) rfl T (by rw [hA15,hA14,hA13,hA12,hA11,hA]; kernel_rfl) 31 (hdC hd (.slice b1 hd.b.length d1) (.slice (some ⟨g,0,none⟩) (rest.length + 1) d2)) (0,0) _ ((HB10.out.block T (blk_lt HTr.out)).trans HTr.out) Try.underlying31 rfl infoT9 ?_
       refine hK _ _ ?_
       clear hK K
       refine wpAny_hide fun A21 hA21 => ?_
       refine wpAny_ready (rs := [5]) (by kernel_rfl) (by simp) ?_
       refine AllReady.cons rfl (fun K hK => ?_) AllReady.nil
       refine op_call1 (by rw [hA21,hA15,hA14,hA13,hA12,hA11,hA]; kernel_rfl) 18 (.tmp 118) 33 rfl (enters Try.func18 (by kernel_rfl) (by kernel_rfl)) (.agg (sgC k (sqTo k rest (flds k).length).f (sqTo k rest (flds k).length).t (sqTo k rest (flds k).length).r (sqTo k rest (flds k).length).x.hd (.slice a1 p1 c1) (.slice a2 p2 c2) (IntKind.u64.wrap (sqTo k rest (flds k).length).n))) (by rw [hA21,hA15,hA14,hA13,hA12,hA11,hA]; kernel_rfl) (HTerm.out _ HB10.out) ?_
       rintro e w11 ⟨ta,tm,tc,rfl,hb11,hrT⟩
       refine ⟨_,rfl,hK _ _ ?_⟩
       clear hK K
       refine wpAny_hide fun A22 hA22 => ?_
       have HB11 := hid (HB10.out.trans (hb11.mono HB10.out.size))
       have HRT := hid hrT
       clear hb11 hrT
       refine wpAny_ready (rs := [7]) (by kernel_rfl) (by simp) ?_
       refine AllReady.cons rfl (fun K hK => ?_) AllReady.nil
       refine op_call2 (by rw [hA22,hA21,hA15,hA14,hA13,hA12,hA11,hA]; kernel_rfl) 17 (.tmp 119) (.tmp 120) 31 31 rfl (enters Try.func17 (by kernel_rfl) (by kernel_rfl)) (.agg (tuC (.slice ta tm tc))) (.agg (hdC hd (.slice b1 hd.b.length d1) (.slice (some ⟨g,0,none⟩) (rest.length + 1) d2))) (by rw [hA22,hA21,hA15,hA14,hA13,hA12,hA11,hA]; kernel_rfl) (by rw [hA22,hA21,hA15,hA14,hA13,hA12,hA11,hA]; kernel_rfl) (HSame.out _ _ _ _ _ HRT.out (fun _ h => h) (Rep.mono (fun b _ hb => hb) _ _ (Rep.keep (fun b _ hl => HB11.out.block b hl) _ _ HRpr.out)) (fun _ h => h)) ?_
       rintro e w12 ⟨rfl,hb12⟩
       refine ⟨_,rfl,hK _ _ ?_⟩
       clear hK K
       refine wpAny_hide fun A23 hA23 => ?_
       have HB12 := hid (HB11.out.trans (hb12.mono HB11.out.size))
       clear hb12
       refine wpAny_take (i := 8) (v := .bool (!fitsB k (flds k) rest)) rfl (by kernel_rfl) (by kernel_rfl) (by kernel_rfl) (fun _ _ _ h => h) (Or.inl ⟨by rw [hA23,hA22,hA21,hA15,hA14,hA13,hA12,hA11,hA]; kernel_rfl,fun w => by rw [hA23,hA22,hA21,hA15,hA14,hA13,hA12,hA11,hA]; kernel_rfl⟩) ?_
       refine wpAny_hide fun A24 hA24 => ?_
       refine wpAny_take (i := 9) (v := .bool (!fitsB k (flds k) rest)) rfl (by kernel_rfl) (by kernel_rfl) (by kernel_rfl) (fun _ _ _ h => h) (Or.inl ⟨by rw [hA24,hA23,hA22,hA21,hA15,hA14,hA13,hA12,hA11,hA]; kernel_rfl,fun w => by rw [hA24,hA23,hA22,hA21,hA15,hA14,hA13,hA12,hA11,hA]; kernel_rfl⟩) ?_
       refine wpAny_hide fun A25 hA25 => ?_
       refine wpAny_done (by kernel_rfl) ?_ _
       subst hA25
       subst hA24
       subst hA23
       subst hA22
       subst hA21
       subst hA15
       subst hA14
       subst hA13
       subst hA12
       subst hA11
       subst hA
       go_wp2_with fail
       go_meet
       exact ⟨rfl,HB12.out⟩
     ·refine op_load (by rw [hA14,hA13,hA12,hA11,hA]; kernel_rfl) 31 (.tmp 4) rfl T (by rw [hA14,hA13,hA12,hA11,hA]; kernel_rfl) 31 (hdC hd (.slice b1 hd.b.length d1) (.slice (some ⟨g,0,none⟩) (rest.length + 1) d2)) (0,0) _ ((HB10.out.block T (blk_lt HTr.out)).trans HTr.out) Try.underlying31 rfl infoT9 ?_
      refine hK _ _ ?_
      clear hK K
      refine wpAny_hide fun A26 hA26 => ?_
      refine wpAny_ready (rs := [4]) (by kernel_rfl) (by simp) ?_
      refine AllReady.cons rfl (fun K hK => ?_) AllReady.nil
      refine op_load (by rw [hA26,hA14,hA13,hA12,hA11,hA]; kernel_rfl) 33 (.tmp 6) rfl S (by rw [hA26,hA14,hA13,hA12,hA11,hA]; kernel_rfl) 33 (sgC k (sqTo k rest (flds k).length).f (sqTo k rest (flds k).length).t (sqTo k rest (flds k).length).r (sqTo k rest (flds k).length).x.hd (.slice a1 p1 c1) (.slice a2 p2 c2) (IntKind.u64.wrap (sqTo k rest (flds k).length).n)) (0,0) _ ((HB10.out.block S hSl).trans HSg.out) Try.underlying33 rfl infoSg ?_
      refine hK _ _ ?_
      clear hK K
      refine wpAny_hide fun A27 hA27 => ?_
      refine wpAny_ready (rs := [5]) (by kernel_rfl) (by simp) ?_
      refine AllReady.cons rfl (fun K hK => ?_) AllReady.nil
      refine op_call1 (by rw [hA27,hA26,hA14,hA13,hA12,hA11,hA]; kernel_rfl) 18 (.tmp 118) 33 rfl (enters Try.func18 (by kernel_rfl) (by kernel_rfl)) (.agg (sgC k (sqTo k rest (flds k).length).f (sqTo k rest (flds k).length).t (sqTo k rest (flds k).length).r (sqTo k rest (flds k).length).x.hd (.slice a1 p1 c1) (.slice a2 p2 c2) (IntKind.u64.wrap (sqTo k rest (flds k).length).n))) (by rw [hA27,hA26,hA14,hA13,hA12,hA11,hA]; kernel_rfl) (HTerm.out _ HB10.out) ?_
      rintro e w11 ⟨ta,tm,tc,rfl,hb11,hrT⟩
      refine ⟨_,rfl,hK _ _ ?_⟩
      clear hK K
      refine wpAny_hide fun A28 hA28 => ?_
      have HB11 := hid (HB10.out.trans (hb11.mono HB10.out.size))
      have HRT := hid hrT
      clear hb11 hrT
      refine wpAny_ready (rs := [7]) (by kernel_rfl) (by simp) ?_
      refine AllReady.cons rfl (fun K hK => ?_) AllReady.nil
      refine op_call2 (by rw [hA28,hA27,hA26,hA14,hA13,hA12,hA11,hA]; kernel_rfl) 17 (.tmp 119) (.tmp 120) 31 31 rfl (enters Try.func17 (by kernel_rfl) (by kernel_rfl)) (.agg (tuC (.slice ta tm tc))) (.agg (hdC hd (.slice b1 hd.b.length d1) (.slice (some ⟨g,0,none⟩) (rest.length + 1) d2))) (by rw [hA28,hA27,hA26,hA14,hA13,hA12,hA11,hA]; kernel_rfl) (by rw [hA28,hA27,hA26,hA14,hA13,hA12,hA11,hA]; kernel_rfl) (HSame.out _ _ _ _ _ HRT.out (fun _ h => h) (Rep.mono (fun b _ hb => hb) _ _ (Rep.keep (fun b _ hl => HB11.out.block b hl) _ _ HRpr.out)) (fun _ h => h)) ?_
      rintro e w12 ⟨rfl,hb12⟩
      refine ⟨_,rfl,hK _ _ ?_⟩
      clear hK K
      refine wpAny_hide fun A29 hA29 => ?_
      have HB12 := hid (HB11.out.trans (hb12.mono HB11.out.size))
      clear hb12
      refine wpAny_take (i := 8) (v := .bool (!fitsB k (flds k) rest)) rfl (by kernel_rfl) (by kernel_rfl) (by kernel_rfl) (fun _ _ _ h => h) (Or.inl ⟨by rw [hA29,hA28,hA27,hA26,hA14,hA13,hA12,hA11,hA]; kernel_rfl,fun w => by rw [hA29,hA28,hA27,hA26,hA14,hA13,hA12,hA11,hA]; kernel_rfl⟩) ?_
      refine wpAny_hide fun A30 hA30 => ?_
      refine wpAny_take (i := 9) (v := .bool (!fitsB k (flds k) rest)) rfl (by kernel_rfl) (by kernel_rfl) (by kernel_rfl) (fun _ _ _ h => h) (Or.inl ⟨by rw [hA30,hA29,hA28,hA27,hA26,hA14,hA13,hA12,hA11,hA]; kernel_rfl,fun w => by rw [hA30,hA29,hA28,hA27,hA26,hA14,hA13,hA12,hA11,hA]; kernel_rfl⟩) ?_
      refine wpAny_hide fun A31 hA31 => ?_
      refine wpAny_done (by kernel_rfl) ?_ _
      subst hA31
      subst hA30
      subst hA29
      subst hA28
      subst hA27
      subst hA26
      subst hA14
      subst hA13
      subst hA12
      subst hA11
      subst hA
      go_wp2_with fail
      go_meet
      exact ⟨rfl,HB12.out⟩
   case rest =>
    obtain ⟨rfl,hb5⟩ := hcut
    have HR5 := hid ((hb5.block R (blk_lt HRr.out)).trans HRr.out)
    have HS5 := hid ((hb5.block S hSl).trans HSg.out)
    have HB5 := hid (HBr.out.trans (hb5.mono (Nat.le_of_lt (blk_lt HRr.out))))
    have HRx5 := hid (Rep.keep (fun b _ hl => hb5.block b hl) _ _ HRx.out)
    clear hb5 HRight HSg HRx HRpr HTr
    cases hfit : fitsB k (flds k) rest
    ·have HK := hid (show ctlP bs = .error 230 from HKK.out.trans (by rw [hfit]; rfl))
     go_wp2_with (refine wpList_store_row rfl 33 (.tmp 2) (.tmp 124) rfl R sgZ rfl rfl 33 sgZ HR5.out infoSg rfl (by simp [Array.all,Value.oneCell']) ?_)
     have hE := sg_end sgZ HB5.out HRl.out HR5.out
     exact bodyPost_ret (results_cell2 rfl _ _ R 33 sgZ (0,0) _ (.int .i64 230) rfl rfl hE.1 Try.underlying33 rfl infoSg) rfl (by rw [HK.out]; exact ⟨rfl,HN.out ▸ hE.2⟩)
    ·have HK := hid (show ctlP bs = .ok (.mk hd (a :: rest)) from HKK.out.trans (by rw [hfit]; rfl))
     have hwr := (doc_right hn1 hn2 HLr.out HGd.out hfit).2
     have HSn := hid (show wc.heap[S]? = some (.cells (sgC k (sqTo k rest (flds k).length).f (sqTo k rest (flds k).length).t (sqTo k rest (flds k).length).r (sqTo k rest (flds k).length).x.hd (.slice a1 p1 c1) (.slice a2 p2 c2) (sqTo k rest (flds k).length).n) 33 (0,0)) by rw [← hwr]; have := HS5.out; rw [hwr] at this ⊢; exact this)
     clear hwr
     go_upto_region 29 with fail
     first | apply wp_region_lit | (apply wp_seq_k; intro _ _; apply wp_region_lit)
     refine wpList_load_row rfl 33 (.tmp 6) rfl S rfl 33 (sgC k (sqTo k rest (flds k).length).f (sqTo k rest (flds k).length).t (sqTo k rest (flds k).length).r (sqTo k rest (flds k).length).x.hd (.slice a1 p1 c1) (.slice a2 p2 c2) (sqTo k rest (flds k).length).n) (0,0) _ HSn.out Try.underlying33 rfl infoSg ?_
     go_wp2_with (refine wpList_store_row rfl 33 (.tmp 2) (.tmp 125) rfl R (sgC k (sqTo k rest (flds k).length).f (sqTo k rest (flds k).length).t (sqTo k rest (flds k).length).r (sqTo k rest (flds k).length).x.hd (.slice a1 p1 c1) (.slice a2 p2 c2) (sqTo k rest (flds k).length).n) rfl rfl 33 sgZ HR5.out infoSg rfl (by simp [Array.all,Value.oneCell']) ?_)
     have hE := sg_end (sgC k (sqTo k rest (flds k).length).f (sqTo k rest (flds k).length).t (sqTo k rest (flds k).length).r (sqTo k rest (flds k).length).x.hd (.slice a1 p1 c1) (.slice a2 p2 c2) (sqTo k rest (flds k).length).n) HB5.out HRl.out HR5.out
     have hrepE := Rep.keep (w' := wc.setRow R (sgC k (sqTo k rest (flds k).length).f (sqTo k rest (flds k).length).t (sqTo k rest (flds k).length).r (sqTo k rest (flds k).length).x.hd (.slice a1 p1 c1) (.slice a2 p2 c2) (sqTo k rest (flds k).length).n)) (fun b e _ => setRow_other wc R b _ (by omega)) _ _ HRx5.out
     exact bodyPost_ret (results_cell2 rfl _ _ R 33 (sgC k (sqTo k rest (flds k).length).f (sqTo k rest (flds k).length).t (sqTo k rest (flds k).length).r (sqTo k rest (flds k).length).x.hd (.slice a1 p1 c1) (.slice a2 p2 c2) (sqTo k rest (flds k).length).n) (0,0) _ (.int .i64 0) rfl rfl hE.1 Try.underlying33 rfl infoSg) rfl (by
      rw [HK.out]
      exact ⟨_,k,rfl,by show some a.hd.n = some k; rw [HHn.out],by show SgRep _ _ (sqTo k rest rest.length) _; rw [← HLr.out]; exact ⟨a1,p1,c1,a2,p2,c2,by rw [sqTo_k],Rep.mono (fun b e _ => by have := HN.out; omega) _ _ hrepE⟩,HN.out ▸ hE.2⟩)
end Go.Proofs.Ytgadkiljnebicaa
