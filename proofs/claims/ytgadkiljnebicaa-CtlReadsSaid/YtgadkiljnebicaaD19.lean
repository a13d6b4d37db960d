/- Several texts in one. -/
import Derived.Test.YtgadkiljnebicaaD14
import Derived.Test.YtgadkiljnebicaaD02
namespace Go.Proofs.Ytgadkiljnebicaa
open Go.Lib (hid)
open Go.RowKit
set_option maxRecDepth 100000
attribute [local go_sem] run_store_complex
set_option maxHeartbeats 2000000 in
theorem rp4 (R p m : Nat) (v bv : Value) (bs : List UInt8) (s s1 : St) (sub : Rd Tm) (d : Int) (hd : d ≤ 24) (w : World) (h : RdAt w R p m v bv bs s) (hn : s.n + 1 ≤ 4096) (ho : oneP bs { s with n := s.n + 1 } = .ok (4,s1)) :
  Calls Try.prog 25 #[.pointer (some ⟨R,0,none⟩),.int .i64 d] w (PartPost R p m v bv bs w (kindP bs sub 4 s1)) := by
 have H := hid h
 have HO := hid ho
 have HA := hid (h.below ((Below.refl _ w).alloc (Nat.le_refl _) (.cells #[.int .i64 0,.int .i64 0,.complex .f64 0 0,.string ⟨#[]⟩,.int .i64 0,.int .u32 0,.int .u64 0,nilV,nilV] 31)))
 have r2 := HA.out.c2
 have rf := HA.out.fz 2
 have hn' : (s.n : Int) + 1 ≤ 4096 := by omega
 clear h ho
 go_enter Try.func25,Try.ntmps25
 go_wp2_with fail
 have HR2 : Hid (RdAt ((w.alloc (.cells #[.int .i64 0,.int .i64 0,.complex .f64 0 0,.string ⟨#[]⟩,.int .i64 0,.int .u32 0,.int .u64 0,nilV,nilV] 31)).setCell ⟨R,2,none⟩ (.int .i64 ((s.n : Int) + 1))) R p m v bv bs { s with n := s.n + 1 }) := HA.out.store (by simp) rfl HA.out.ile (show s.n + 1 ≤ 4097 by omega)
 have HT2 := hid ((Turn.alloc (fun i => i = R) w (.cells #[.int .i64 0,.int .i64 0,.complex .f64 0 0,.string ⟨#[]⟩,.int .i64 0,.int .u32 0,.int .u64 0,nilV,nilV] 31)).trans (Turn.setCell _ R 2 (.int .i64 ((s.n : Int) + 1))))
 have hRl := H.out.lt R (.inl rfl)
 have hT0R : ¬ w.heap.size = R := by omega
 have HT0 := hid ((Below.heap_setCell (w.alloc (.cells #[.int .i64 0,.int .i64 0,.complex .f64 0 0,.string ⟨#[]⟩,.int .i64 0,.int .u32 0,.int .u64 0,nilV,nilV] 31)) ⟨R,2,none⟩ (.int .i64 ((s.n : Int) + 1)) _ hT0R).trans (heap_new w _))
 generalize (w.alloc (.cells #[.int .i64 0,.int .i64 0,.complex .f64 0 0,.string ⟨#[]⟩,.int .i64 0,.int .u32 0,.int .u64 0,nilV,nilV] 31)).setCell ⟨R,2,none⟩ (.int .i64 ((s.n : Int) + 1)) = w2 at *
 have H1 := one_any R p m v bv bs _ w2 HR2.out
 rw [HO.out] at H1
 obtain ⟨N,hN⟩ : ∃ N,w.heap.size = N := ⟨_,rfl⟩
 rw [hN] at hRl hT0R HT0 ⊢
 have HN := hid hN
 refine H1.mono ?_
 rintro e w3 ⟨rfl,hR3,hT3⟩
 have HR3 := hid hR3
 have HT3 := hid (HT2.out.trans hT3)
 have HT03 := hid ((hT3.block N (blk_lt HT0.out) hT0R).trans HT0.out)
 have hNl : N < w3.heap.size := blk_lt HT03.out
 clear hR3 hT3 hN HA HR2 HT2 HT0 H1 r2 rf hn' HO
 have HR4 := hid (HR3.out.below ((Below.refl _ w3).alloc (Nat.le_refl _) (.cells #[.int .i64 4,.int .i64 0,.complex .f64 0 0,.string ⟨#[]⟩,.int .i64 0,.int .u32 0,.int .u64 0,nilV,nilV] 31)))
 have HT4 := hid (turnR (p := p) (m := m) (v := v) (HT3.out.trans (Turn.alloc (fun i => i = R) w3 (.cells #[.int .i64 4,.int .i64 0,.complex .f64 0 0,.string ⟨#[]⟩,.int .i64 0,.int .u32 0,.int .u64 0,nilV,nilV] 31))))
 have HT04 := hid ((Below.heap_alloc w3 (.cells #[.int .i64 4,.int .i64 0,.complex .f64 0 0,.string ⟨#[]⟩,.int .i64 0,.int .u32 0,.int .u64 0,nilV,nilV] 31) N hNl).trans HT03.out)
 have HT14 := hid (heap_new w3 (.cells #[.int .i64 4,.int .i64 0,.complex .f64 0 0,.string ⟨#[]⟩,.int .i64 0,.int .u32 0,.int .u64 0,nilV,nilV] 31))
 have hT1R : ¬ w3.heap.size = R := by omega
 obtain ⟨k0,k1,k2,k3,k4,k5,k6,k7,k8⟩ := NineAt.of_block HT14.out
 go_wp2_with fail
 clear k0 k1 k2 k3 k4 k5 k6 k7 k8 HR3 HT3 HT03
 generalize w3.alloc (.cells #[.int .i64 4,.int .i64 0,.complex .f64 0 0,.string ⟨#[]⟩,.int .i64 0,.int .u32 0,.int .u64 0,nilV,nilV] 31) = w4 at *
 generalize w3.heap.size = T at *
 have hNT : ¬ N = T := by omega
 have HW := one_any R p m v bv bs s1 w4 HR4.out
 cases hw : oneP bs s1 with
 | error x =>
  rw [hw] at HW
  have HK := hid (show kindP bs sub 4 s1 = .error x by simp [kindP,hw])
  have HW := hid HW
  clear hw
  refine HW.out.mono ?_
  rintro e w5 ⟨rfl,hT5⟩
  go_wp2_with fail
  refine ⟨rfl,?_⟩
  rw [HK.out]
  exact ⟨rfl,HT4.out.trans (turnR hT5)⟩
 | ok y =>
  obtain ⟨node,s2⟩ := y
  rw [hw] at HW
  have hnode := (oneP_ok hw).1
  have HU1 := hid hw
  have HW := hid HW
  clear hw
  refine HW.out.mono ?_
  rintro e w5 ⟨rfl,hR5,hT5⟩
  have HR5 := hid hR5
  have HT5 := hid (HT4.out.trans (turnR hT5))
  have HT05 := hid ((hT5.block N (blk_lt HT04.out) hT0R).trans HT04.out)
  have HT15 := hid ((hT5.block T (blk_lt HT14.out) hT1R).trans HT14.out)
  clear hR5 hT5 HR4 HT4 HT04 HT14
  have f1 : IntKind.i64.wrap (node : Int) = node := IntWalk.i64_in _ (by omega)
  have fz := blk_fz HT15.out 4
  have kx := (NineAt.of_block HT15.out).2.2.2.2.1
  clear HW
  go_wp2_with fail
  clear fz f1 kx
  have hNw := HN.out
  have HR6 := hid (rd_setT (o := 4) (u := .int .i64 (node : Int)) H.out HR5.out (show w.heap.size ≤ T by omega) (.inl rfl))
  have HT6 := hid (turn_setT (o := 4) (u := .int .i64 (node : Int)) HT5.out (show w.heap.size ≤ T by omega))
  have HT06 := hid ((Below.heap_setCell w5 ⟨T,4,none⟩ (.int .i64 (node : Int)) _ hNT).trans HT05.out)
  have HT16 : Hid ((w5.setCell ⟨T,4,none⟩ (.int .i64 (node : Int))).heap[T]? = some (.cells #[.int .i64 4,.int .i64 0,.complex .f64 0 0,.string ⟨#[]⟩,.int .i64 (node : Int),.int .u32 0,.int .u64 0,nilV,nilV] 31 (0,0))) := heap_setCell_at HT15.out
  clear hNw HR5 HT5 HT05 HT15
  generalize w5.setCell ⟨T,4,none⟩ (.int .i64 (node : Int)) = w6 at *
  have HW := wide_any R p m v bv bs s2 w6 HR6.out
  cases hw : wideN bs s2 with
  | error x =>
   rw [hw] at HW
   have HK := hid (show kindP bs sub 4 s1 = .error x by simp [kindP,HU1.out,hw])
   have HW := hid HW
   clear hw
   refine HW.out.mono ?_
   rintro e w7 ⟨rfl,hT7⟩
   go_wp2_with fail
   refine ⟨rfl,?_⟩
   rw [HK.out]
   exact ⟨rfl,HT6.out.trans (turnR hT7)⟩
  | ok y =>
   obtain ⟨boot,s3⟩ := y
   rw [hw] at HW
   have hboot := wideN_lt hw
   have HU2 := hid hw
   have HW := hid HW
   clear hw
   refine HW.out.mono ?_
   rintro e w7 ⟨rfl,hR7,hT7⟩
   have HR7 := hid hR7
   have HT7 := hid (HT6.out.trans (turnR hT7))
   have HT07 := hid ((hT7.block N (blk_lt HT06.out) hT0R).trans HT06.out)
   have HT17 := hid ((hT7.block T (blk_lt HT16.out) hT1R).trans HT16.out)
   clear hR7 hT7 HR6 HT6 HT06 HT16
   clear HW
   by_cases hbb : 4294967295 < boot
   ·have HK := hid (show kindP bs sub 4 s1 = .error 73 by simp [kindP,HU1.out,HU2.out,hbb])
    have hbd : decide (boot ≤ 4294967295) = false := decide_eq_false (by omega)
    have hbd2 : decide ((boot : Int) ≤ 4294967295) = false := decide_eq_false (by omega)
    clear hboot
    go_wp2_with fail
    refine (must_no _ _).mono ?_
    rintro e w8 ⟨rfl,rfl⟩
    go_wp2_with fail
    refine ⟨rfl,?_⟩
    rw [HK.out]
    exact ⟨rfl,HT7.out⟩
   ·have hbd : (boot : Int) ≤ 4294967295 := by omega
    have hwb : IntKind.u32.wrap (boot : Int) = boot := by rw [IntKind.wrap_u32]; omega
    have HBB := hid hbb
    clear hbb hboot
    go_wp2_with fail
    refine (must_yes _ _).mono ?_
    rintro e w8 ⟨rfl,rfl⟩
    have fz := blk_fz HT17.out 5
    have kx := (NineAt.of_block HT17.out).2.2.2.2.2.1
    go_wp2_with fail
    clear fz hwb kx
    have hNw := HN.out
    have HR9 := hid (rd_setT (o := 5) (u := .int .u32 (boot : Int)) H.out HR7.out (show w.heap.size ≤ T by omega) (.inl rfl))
    have HT9 := hid (turn_setT (o := 5) (u := .int .u32 (boot : Int)) HT7.out (show w.heap.size ≤ T by omega))
    have HT09 := hid ((Below.heap_setCell w8 ⟨T,5,none⟩ (.int .u32 (boot : Int)) _ hNT).trans HT07.out)
    have HT19 : Hid ((w8.setCell ⟨T,5,none⟩ (.int .u32 (boot : Int))).heap[T]? = some (.cells #[.int .i64 4,.int .i64 0,.complex .f64 0 0,.string ⟨#[]⟩,.int .i64 (node : Int),.int .u32 (boot : Int),.int .u64 0,nilV,nilV] 31 (0,0))) := heap_setCell_at HT17.out
    clear hNw HR7 HT7 HT07 HT17
    generalize w8.setCell ⟨T,5,none⟩ (.int .u32 (boot : Int)) = w9 at *
    have HW := wide_any R p m v bv bs s3 w9 HR9.out
    cases hw : wideN bs s3 with
    | error x =>
     rw [hw] at HW
     have HK := hid (show kindP bs sub 4 s1 = .error x by simp [kindP,HU1.out,HU2.out,HBB.out,hw])
     have HW := hid HW
     clear hw
     refine HW.out.mono ?_
     rintro e w10 ⟨rfl,hT10⟩
     go_wp2_with fail
     refine ⟨rfl,?_⟩
     rw [HK.out]
     exact ⟨rfl,HT9.out.trans (turnR hT10)⟩
    | ok y =>
     obtain ⟨idn,s4⟩ := y
     rw [hw] at HW
     have HK := hid (show kindP bs sub 4 s1 = if idOk node boot idn = true then .ok (.mk { kind := (4 : Nat),node := node,boot := boot,idn := idn } [],s4) else .error 73 by simp [kindP,HU1.out,HU2.out,HBB.out,hw])
     have HW := hid HW
     clear hw HU1 HU2 HBB
     refine HW.out.mono ?_
     rintro e w10 ⟨rfl,hR10,hT10⟩
     have HR10 := hid hR10
     have HT10 := hid (HT9.out.trans (turnR hT10))
     have HT010 := hid ((hT10.block N (blk_lt HT09.out) hT0R).trans HT09.out)
     have HT110 := hid ((hT10.block T (blk_lt HT19.out) hT1R).trans HT19.out)
     clear hR10 hT10 HR9 HT9 HT09 HT19
     clear HW
     obtain ⟨k0,k1,k2,k3,k4,k5,k6,k7,k8⟩ := NineAt.of_block HT110.out
     have fz := blk_fz HT110.out 6
     go_wp2_with fail
     clear fz k0 k1 k2 k3 k4 k5 k6 k7 k8
     have hNw := HN.out
     have HR11 := hid (rd_setT (o := 6) (u := .int .u64 (idn : Int)) H.out HR10.out (show w.heap.size ≤ T by omega) (.inl rfl))
     have HT11 := hid (turn_setT (o := 6) (u := .int .u64 (idn : Int)) HT10.out (show w.heap.size ≤ T by omega))
     have HT011 := hid ((Below.heap_setCell w10 ⟨T,6,none⟩ (.int .u64 (idn : Int)) _ hNT).trans HT010.out)
     have HT111 : Hid ((w10.setCell ⟨T,6,none⟩ (.int .u64 (idn : Int))).heap[T]? = some (.cells #[.int .i64 4,.int .i64 0,.complex .f64 0 0,.string ⟨#[]⟩,.int .i64 (node : Int),.int .u32 (boot : Int),.int .u64 (idn : Int),nilV,nilV] 31 (0,0))) := heap_setCell_at HT110.out
     clear hNw HR10 HT10 HT010 HT110
     generalize w10.setCell ⟨T,6,none⟩ (.int .u64 (idn : Int)) = w11 at *
     have HC := check_id 4 node boot idn (by decide) w11
     cases hI : idOk node boot idn with
     | false =>
      rw [hI] at HK HC
      have HC := hid HC
      clear hI
      refine HC.out.mono ?_
      rintro e w12 ⟨rfl,hb12⟩
      have HT12 := hid (HT11.out.trans (Turn.of_below hb12))
      clear HC hb12
      go_wp2_with fail
      refine (must_no _ _).mono ?_
      rintro e w13 ⟨rfl,rfl⟩
      go_wp2_with fail
      refine ⟨rfl,?_⟩
      rw [HK.out]
      exact ⟨rfl,HT12.out⟩
     | true =>
      rw [hI] at HK HC
      have HC := hid HC
      clear hI
      refine HC.out.mono ?_
      rintro e w12 ⟨rfl,hb12⟩
      have HR12 := hid (HR11.out.below hb12)
      have HT12 := hid (HT11.out.trans (Turn.of_below hb12))
      have HT012 := hid ((hb12.block N (blk_lt HT011.out)).trans HT011.out)
      have HT112 := hid ((hb12.block T (blk_lt HT111.out)).trans HT111.out)
      clear HC hb12 HR11 HT11 HT011 HT111
      go_wp2_with fail
      refine (must_yes _ _).mono ?_
      rintro e w13 ⟨rfl,rfl⟩
      obtain ⟨k0,k1,k2,k3,k4,k5,k6,k7,k8⟩ := NineAt.of_block HT112.out
      go_wp2_with (refine wpList_store_row rfl 31 (.tmp 4) (.tmp 155) rfl N #[.int .i64 4,.int .i64 0,.complex .f64 0 0,.string ⟨#[]⟩,.int .i64 (node : Int),.int .u32 (boot : Int),.int .u64 (idn : Int),nilV,nilV] rfl rfl 31 #[.int .i64 0,.int .i64 0,.complex .f64 0 0,.string ⟨#[]⟩,.int .i64 0,.int .u32 0,.int .u64 0,nilV,nilV] HT012.out infoT rfl (by simp [Array.all,Value.oneCell']) ?_)
      clear k0 k1 k2 k3 k4 k5 k6 k7 k8
      have ht9 := NineAt.of_block (setRow_heap w13 N #[.int .i64 0,.int .i64 0,.complex .f64 0 0,.string ⟨#[]⟩,.int .i64 0,.int .u32 0,.int .u64 0,nilV,nilV] #[.int .i64 4,.int .i64 0,.complex .f64 0 0,.string ⟨#[]⟩,.int .i64 (node : Int),.int .u32 (boot : Int),.int .u64 (idn : Int),nilV,nilV] 31 (0,0) HT012.out)
      have HC := hid (rp_close (cs := #[.int .i64 4,.int .i64 0,.complex .f64 0 0,.string ⟨#[]⟩,.int .i64 (node : Int),.int .u32 (boot : Int),.int .u64 (idn : Int),nilV,nilV]) H.out HR12.out HT12.out HN.out (.inl rfl) (Rep.leaf (h := { kind := (4 : Nat),node := node,boot := boot,idn := idn }) rfl))
      generalize w13.setRow N #[.int .i64 4,.int .i64 0,.complex .f64 0 0,.string ⟨#[]⟩,.int .i64 (node : Int),.int .u32 (boot : Int),.int .u64 (idn : Int),nilV,nilV] = wz at *
      obtain ⟨k0,k1,k2,k3,k4,k5,k6,k7,k8⟩ := ht9
      exact bodyPost_ret (v := .agg #[.int .i64 4,.int .i64 0,.complex .f64 0 0,.string ⟨#[]⟩,.int .i64 (node : Int),.int .u32 (boot : Int),.int .u64 (idn : Int),nilV,nilV]) (by simp [results,Try.results25,go_sem,k0,k1,k2,k3,k4,k5,k6,k7,k8]) rfl (by rw [HK.out]; exact ⟨v,_,rfl,HC.out⟩)
def byRel (R p m : Nat) (v bv : Value) (bs : List UInt8) (s : St) (W : World) (N T k : Nat) (t145 : Value) (w : World) : Prop :=
 ∃ (j : Nat) (a : Option Addr) (c : Nat),j ≤ k ∧ s.i + j ≤ bs.length ∧ t145 = .int .u64 j ∧ w.heap[T]? = some (.cells #[.int .i64 8,.int .i64 0,.complex .f64 0 0,.string ⟨#[]⟩,.int .i64 0,.int .u32 0,.int .u64 0,(.slice a j c),nilV] 31 (0,0)) ∧ w.heap[N]? = some (.cells #[.int .i64 0,.int .i64 0,.complex .f64 0 0,.string ⟨#[]⟩,.int .i64 0,.int .u32 0,.int .u64 0,nilV,nilV] 31 (0,0)) ∧ w.ownsRow (T + 1) 5 1 (.slice a j c) j (((bs.drop s.i).take j).map cellB) ∧ (j = 0 → Value.slice a j c = nilV) ∧
  RdAt w R p m v bv bs { s with i := s.i + j } ∧ Turn (foot R p m v) W w
theorem by_step {R p m T N j c c8 : Nat} {a a8 : Option Addr} {v bv : Value} {bs : List UInt8} {s0 s7 : St} {w wr w7 w8 : World} {xs xs8 : List Value} (H : RdAt w R p m v bv bs s0) (hwT : w.heap.size ≤ T) (hNT : N < T) (_ : ¬ T = R) (hT0R : ¬ N = R)
  (hTr : Turn (foot R p m v) w wr) (hT0 : wr.heap[N]? = some (.cells #[.int .i64 0,.int .i64 0,.complex .f64 0 0,.string ⟨#[]⟩,.int .i64 0,.int .u32 0,.int .u64 0,nilV,nilV] 31 (0,0))) (hR7 : RdAt w7 R p m v bv bs s7) (hT7 : Turn (fun i => i = R) wr.drew w7) (hT1 : w7.heap[T]? = some (.cells #[.int .i64 8,.int .i64 0,.complex .f64 0 0,.string ⟨#[]⟩,.int .i64 0,.int .u32 0,.int .u64 0,(.slice a j c),nilV] 31 (0,0)))
  (ho7 : w7.ownsRow (T + 1) 5 1 (.slice a j c) j xs) (hK : (∀ i,i < T + 1 → i < w7.heap.size → w8.heap[i]? = w7.heap[i]?) ∧ w7.heap.size ≤ w8.heap.size ∧ Turn (fun i => (Value.slice a j c).ownBlock = some i) w7 w8) (ho8 : w8.ownsRow (T + 1) 5 1 (.slice a8 (j + 1) c8) (j + 1) xs8) :
  (w8.setCell ⟨T,7,none⟩ (.slice a8 (j + 1) c8)).heap[T]? = some (.cells #[.int .i64 8,.int .i64 0,.complex .f64 0 0,.string ⟨#[]⟩,.int .i64 0,.int .u32 0,.int .u64 0,(.slice a8 (j + 1) c8),nilV] 31 (0,0)) ∧ (w8.setCell ⟨T,7,none⟩ (.slice a8 (j + 1) c8)).heap[N]? = some (.cells #[.int .i64 0,.int .i64 0,.complex .f64 0 0,.string ⟨#[]⟩,.int .i64 0,.int .u32 0,.int .u64 0,nilV,nilV] 31 (0,0)) ∧
   (w8.setCell ⟨T,7,none⟩ (.slice a8 (j + 1) c8)).ownsRow (T + 1) 5 1 (.slice a8 (j + 1) c8) (j + 1) xs8 ∧ RdAt (w8.setCell ⟨T,7,none⟩ (.slice a8 (j + 1) c8)) R p m v bv bs s7 ∧ Turn (foot R p m v) w (w8.setCell ⟨T,7,none⟩ (.slice a8 (j + 1) c8)) := by
 have hlt := blk_lt hT1
 have h0 : w7.heap[N]? = some (.cells #[.int .i64 0,.int .i64 0,.complex .f64 0 0,.string ⟨#[]⟩,.int .i64 0,.int .u32 0,.int .u64 0,nilV,nilV] 31 (0,0)) := (hT7.block N (blk_lt hT0) hT0R).trans hT0
 refine ⟨heap_setCell_at ((hK.1 T (by omega) hlt).trans hT1),(Below.heap_setCell w8 ⟨T,7,none⟩ _ N (by show ¬ N = T; omega)).trans ((hK.1 N (by omega) (blk_lt h0)).trans h0),row_same ho8 (fun b e hb => Below.heap_setCell w8 ⟨T,7,none⟩ _ b (by have := (ho8.lt b e).1; show ¬ b = T; omega)),?_,?_⟩
 ·refine rd_setT H (hR7.keep fun i hi hl => hK.1 i ?_ hl) hwT (.inl rfl)
  rcases hi with hi | ⟨hi,hp⟩
  ·have := H.lt i hi; omega
  ·have := H.blt i hi hp; omega
 ·refine turn_setT (Turn.andThen (hTr.trans ((Turn.refl _ wr).drew.trans (turnR hT7))) hK.2.2 (fun i e => .inr ?_)) hwT
  have := (ho7.lt i e).1
  omega
set_option maxHeartbeats 2000000 in
theorem rp8 (R p m : Nat) (v bv : Value) (bs : List UInt8) (s s1 : St) (sub : Rd Tm) (d : Int) (hd : d ≤ 24) (w : World) (h : RdAt w R p m v bv bs s) (hn : s.n + 1 ≤ 4096) (ho : oneP bs { s with n := s.n + 1 } = .ok (8,s1)) (hs1 : s1.n = s.n + 1) :
  Calls Try.prog 25 #[.pointer (some ⟨R,0,none⟩),.int .i64 d] w (PartPost R p m v bv bs w (kindP bs sub 8 s1)) := by
 have H := hid h
 have HO := hid ho
 have HA := hid (h.below ((Below.refl _ w).alloc (Nat.le_refl _) (.cells #[.int .i64 0,.int .i64 0,.complex .f64 0 0,.string ⟨#[]⟩,.int .i64 0,.int .u32 0,.int .u64 0,nilV,nilV] 31)))
 have r2 := HA.out.c2
 have rf := HA.out.fz 2
 have hn' : (s.n : Int) + 1 ≤ 4096 := by omega
 clear h ho
 go_enter Try.func25,Try.ntmps25
 go_wp2_with fail
 have HR2 : Hid (RdAt ((w.alloc (.cells #[.int .i64 0,.int .i64 0,.complex .f64 0 0,.string ⟨#[]⟩,.int .i64 0,.int .u32 0,.int .u64 0,nilV,nilV] 31)).setCell ⟨R,2,none⟩ (.int .i64 ((s.n : Int) + 1))) R p m v bv bs { s with n := s.n + 1 }) := HA.out.store (by simp) rfl HA.out.ile (show s.n + 1 ≤ 4097 by omega)
 have HT2 := hid ((Turn.alloc (fun i => i = R) w (.cells #[.int .i64 0,.int .i64 0,.complex .f64 0 0,.string ⟨#[]⟩,.int .i64 0,.int .u32 0,.int .u64 0,nilV,nilV] 31)).trans (Turn.setCell _ R 2 (.int .i64 ((s.n : Int) + 1))))
 have hRl := H.out.lt R (.inl rfl)
 have hT0R : ¬ w.heap.size = R := by omega
 have HT0 := hid ((Below.heap_setCell (w.alloc (.cells #[.int .i64 0,.int .i64 0,.complex .f64 0 0,.string ⟨#[]⟩,.int .i64 0,.int .u32 0,.int .u64 0,nilV,nilV] 31)) ⟨R,2,none⟩ (.int .i64 ((s.n : Int) + 1)) _ hT0R).trans (heap_new w _))
 generalize (w.alloc (.cells #[.int .i64 0,.int .i64 0,.complex .f64 0 0,.string ⟨#[]⟩,.int .i64 0,.int .u32 0,.int .u64 0,nilV,nilV] 31)).setCell ⟨R,2,none⟩ (.int .i64 ((s.n : Int) + 1)) = w2 at *
 have H1 := one_any R p m v bv bs _ w2 HR2.out
 rw [HO.out] at H1
 obtain ⟨N,hN⟩ : ∃ N,w.heap.size = N := ⟨_,rfl⟩
 rw [hN] at hRl hT0R HT0 ⊢
 have HN := hid hN
 refine H1.mono ?_
 rintro e w3 ⟨rfl,hR3,hT3⟩
 have HR3 := hid hR3
 have HT3 := hid (HT2.out.trans hT3)
 have HT03 := hid ((hT3.block N (blk_lt HT0.out) hT0R).trans HT0.out)
 have hNl : N < w3.heap.size := blk_lt HT03.out
 clear hR3 hT3 hN HA HR2 HT2 HT0 H1 r2 rf hn' HO
 have HR4 := hid (HR3.out.below ((Below.refl _ w3).alloc (Nat.le_refl _) (.cells #[.int .i64 8,.int .i64 0,.complex .f64 0 0,.string ⟨#[]⟩,.int .i64 0,.int .u32 0,.int .u64 0,nilV,nilV] 31)))
 have HT4 := hid (turnR (p := p) (m := m) (v := v) (HT3.out.trans (Turn.alloc (fun i => i = R) w3 (.cells #[.int .i64 8,.int .i64 0,.complex .f64 0 0,.string ⟨#[]⟩,.int .i64 0,.int .u32 0,.int .u64 0,nilV,nilV] 31))))
 have HT04 := hid ((Below.heap_alloc w3 (.cells #[.int .i64 8,.int .i64 0,.complex .f64 0 0,.string ⟨#[]⟩,.int .i64 0,.int .u32 0,.int .u64 0,nilV,nilV] 31) N hNl).trans HT03.out)
 have HT14 := hid (heap_new w3 (.cells #[.int .i64 8,.int .i64 0,.complex .f64 0 0,.string ⟨#[]⟩,.int .i64 0,.int .u32 0,.int .u64 0,nilV,nilV] 31))
 have hT1R : ¬ w3.heap.size = R := by omega
 obtain ⟨k0,k1,k2,k3,k4,k5,k6,k7,k8⟩ := NineAt.of_block HT14.out
 go_wp2_with fail
 clear k0 k1 k2 k3 k4 k5 k6 k7 k8 HR3 HT3 HT03
 generalize w3.alloc (.cells #[.int .i64 8,.int .i64 0,.complex .f64 0 0,.string ⟨#[]⟩,.int .i64 0,.int .u32 0,.int .u64 0,nilV,nilV] 31) = w4 at *
 generalize w3.heap.size = T at *
 have HW := wide_any R p m v bv bs s1 w4 HR4.out
 have hNT : ¬ N = T := by omega
 cases hw : wideN bs s1 with
 | error x =>
  rw [hw] at HW
  have HK := hid (show kindP bs sub 8 s1 = .error x by simp [kindP,hw])
  have HW := hid HW
  clear hw
  refine HW.out.mono ?_
  rintro e w5 ⟨rfl,hT5⟩
  go_wp2_with fail
  refine ⟨rfl,?_⟩
  rw [HK.out]
  exact ⟨rfl,HT4.out.trans (turnR hT5)⟩
 | ok y =>
  obtain ⟨k,s2⟩ := y
  rw [hw] at HW
  have hk64 := wideN_lt hw
  have hs2n := (wide_names _ _ _ _ _ _ hw).2.1
  have HK := hid (show kindP bs sub 8 s1 = if 4096 < s2.n + k then .error 21 else match someP bs k { s2 with n := s2.n + k } with
    | .error e => .error e
    | .ok (l,s) => .ok (.mk { kind := 8,b := l } [],s) by simp only [kindP,hw]; rfl)
  have HW := hid HW
  clear hw
  refine HW.out.mono ?_
  rintro e w5 ⟨rfl,hR5,hT5⟩
  have HR5 := hid hR5
  have HT5 := hid (HT4.out.trans (turnR hT5))
  have HT05 := hid ((hT5.block N (blk_lt HT04.out) hT0R).trans HT04.out)
  have HT15 := hid ((hT5.block T (blk_lt HT14.out) hT1R).trans HT14.out)
  clear hR5 hT5 HR4 HT4 HT04 HT14
  clear HW
  have r2 := HR5.out.c2
  have rf := HR5.out.fz 2
  have hs2 : (s2.n : Int) ≤ 4096 := by omega
  have hs2' : s2.n ≤ 4096 := by omega
  have hu1 := wraps_u64 (4096 - (s2.n : Int)) (by omega) (by omega)
  clear hs2n
  by_cases hbig : 4096 < s2.n + k
  ·rw [if_pos hbig] at HK
   have hb1 : 4096 - (s2.n : Int) < (k : Int) := by omega
   clear hbig
   go_wp2_with fail
   refine (fail_any _ 21 _).mono ?_
   rintro e w6 ⟨rfl,rfl⟩
   go_wp2_with fail
   refine ⟨rfl,?_⟩
   rw [HK.out]
   exact ⟨rfl,HT5.out⟩
  ·rw [if_neg hbig] at HK
   have hb1 : (k : Int) ≤ 4096 - (s2.n : Int) := by omega
   have hkk : (k : Int) ≤ 4096 := by omega
   have hk1 : IntKind.i64.wrap (k : Int) = k := IntWalk.i64_in _ (by omega)
   go_wp2_with fail
   have HR6 : Hid (RdAt (w5.setCell ⟨R,2,none⟩ (.int .i64 ((s2.n : Int) + (k : Int)))) R p m v bv bs { s2 with n := s2.n + k }) := HR5.out.store (by simp) rfl HR5.out.ile (show s2.n + k ≤ 4097 by omega)
   have HT6 := hid (HT5.out.trans (turnR (p := p) (m := m) (v := v) (Turn.setCell w5 R 2 (.int .i64 ((s2.n : Int) + (k : Int))))))
   have HT06 := hid ((Below.heap_setCell w5 ⟨R,2,none⟩ (.int .i64 ((s2.n : Int) + (k : Int))) _ hT0R).trans HT05.out)
   have HT16 := hid ((Below.heap_setCell w5 ⟨R,2,none⟩ (.int .i64 ((s2.n : Int) + (k : Int))) _ hT1R).trans HT15.out)
   have hTl : T + 1 ≤ (w5.setCell ⟨R,2,none⟩ (.int .i64 ((s2.n : Int) + (k : Int)))).heap.size := blk_lt HT16.out
   clear r2 rf hu1 hk1 HR5 HT5 HT05 HT15
   generalize w5.setCell ⟨R,2,none⟩ (.int .i64 ((s2.n : Int) + (k : Int))) = w6 at *
   have hNw := HN.out
   have hfT : Hid (∀ i,foot R p m v i → i < T + 1) := fun i hi => by
    have := H.out.lt i hi
    omega
   have hbT : Hid (∀ i,bv.ownBlock = some i → 0 < bs.length → i < T + 1) := fun i hi hp => by
    have := H.out.blt i hi hp
    omega
   have hwT := hid (show w.heap.size ≤ T by omega)
   clear hNw
   obtain ⟨i0,hi,hz0,hz1,hz2⟩ := info_parts infoB
   have X1 := hid hi
   have X2 := hid hz0
   have X3 := hid hz1
   have X4 := hid hz2
   clear hi hz0 hz1 hz2
   have HKN := hid (show k ≤ 4096 by omega)
   generalize ({ s2 with n := s2.n + k } : St) = s3 at *
   go_loopw [145] (fun t145 wr => byRel R p m v bv bs s3 w N T k t145 wr) (fun t145 _ => k - (intOf t145).toNat)
   case atStart => exact ⟨0,none,0,by omega,HR6.out.ile,rfl,HT16.out,HT06.out,World.ownsRow_nil _ _ _ _,fun _ => rfl,HR6.out,HT6.out⟩
   case round =>
    obtain ⟨j,a,c,hj,hl,rfl,hT1,hT0,ho,hnil,hR,hT⟩ := hrel
    have HRr := hid hR
    have HTr := hid hT
    have HT1r := hid hT1
    have HT0r := hid hT0
    have HL := hid hl
    have HO := hid ho
    have HNil := hid hnil
    clear hR hT hl ho hT1 hT0 hnil HR6 HT6 HT06 HT16 hTl
    by_cases hlt : j < k
    ·have hj1 : (j : Int) < (k : Int) := by omega
     by_cases hi : s3.i + j < bs.length
     ·have H1 := hid (one_yes R p m v bv bs _ (wr.drew) (HRr.out.drewN 1) hi)
      have HTk := hid (tk_succ hi)
      have HM1 := hid (show j + 1 ≤ maxLen by unfold maxLen; omega)
      have HM2 := hid (show (j + 1) * 1 ≤ 140737488355328 by omega)
      have hw1 : IntKind.u64.wrap ((j : Int) + 1) = (j : Int) + 1 := wraps_u64 _ (by omega) (by omega)
      have xr := (NineAt.of_block HT1r.out).2.2.2.2.2.2.2.1
      have HTB := hid (blk_lt HT1r.out)
      go_wp2_with fail
      go_region_law (first
       | (refine step_app (by rfl) (.tmp 148) (.tmp 151) 22 22 (by rfl) (T + 1) 5 i0 (.int .u8 0) 1 1 Try.underlying22 X1.out X2.out X3.out X4.out rfl (by decide) (.slice a j c) j (((bs.drop s3.i).take j).map cellB) (by rfl) (HO7.out.alloc _) (.slice (some ⟨w7.heap.size,0,none⟩) 1 1) 1 [cellB bs[s3.i + j]] (by rfl) (src_one _ Try.underlying22 _ _ rfl) HM1.out HM2.out HB7.out ?_; intro a8 c8 w8 ho8 hg8 hl8; have HO8 := hid ho8; have HK8 := hid (app_keep HO7.out hg8); have y8 : w8.cell? ⟨T,7,none⟩ = some (.slice a j c) := (World.cell?_of_block (HK8.out.1 T (by omega) HTB7.out)).trans x7; have z8 : w8.frozen? ⟨T,7,none⟩ = false := (World.frozen?_of_block (HK8.out.1 T (by omega) HTB7.out)).trans f7; clear ho8 hg8 hl8)
       | (go_simp; refine H1.out.mono ?_; rintro e w7 ⟨rfl,hR7,hT7⟩; have HR7 := hid hR7; have HT7 := hid hT7; have HT17 := hid ((hT7.block T HTB.out hT1R).trans HT1r.out); have x7 : w7.cell? ⟨T,7,none⟩ = some (.slice a j c) := (NineAt.of_block HT17.out).2.2.2.2.2.2.2.1; have f7 := blk_fz HT17.out 7; have HTB7 := hid (blk_lt HT17.out); have x7b : (w7.alloc (.cells #[cellB bs[s3.i + j]] 5)).cell? ⟨T,7,none⟩ = some (.slice a j c) := (((Below.refl _ w7).alloc (Nat.le_refl _) _).cell (p := ⟨T,7,none⟩) HTB7.out).trans x7; have HO7 := hid (row_same HO.out (fun b e hb => hT7.block b hb (fun k => by have := (HO.out.lt b e).1; have := hfT.out b (.inl k); omega))); have HB7 := hid (show T + 1 ≤ (w7.alloc (.cells #[cellB bs[s3.i + j]] 5)).heap.size by have := HTB7.out; simp; omega); clear hR7 hT7))
      all_goals
       have HS := hid (by_step H.out hwT.out (by omega) hT1R hT0R HTr.out HT0r.out HR7.out HT7.out HT17.out HO7.out HK8.out HO8.out)
       clear x7 f7 y8 z8 xr
       go_wp2_with fail
       go_round
       case rel => exact ⟨j + 1,a8,c8,by omega,by have := HL.out; omega,by go_num,HS.out.1,HS.out.2.1,by have h := HS.out.2.2.1; rw [HTk.out,List.map_append]; exact h,fun e => by omega,HS.out.2.2.2.1,HS.out.2.2.2.2⟩
       case measure => simp [intOf]; omega
     ·have H1 := hid (one_no R p m v bv bs _ (wr.drew) (HRr.out.drewN 1) hi)
      have HK2 := hid (show kindP bs sub 8 s1 = .error 72 by rw [HK.out,some_no hlt hi])
      have xr := (NineAt.of_block HT1r.out).2.2.2.2.2.2.2.1
      go_wp2_with fail
      refine wp_region_any (by kernel_rfl) ?_
      change wpAny _ _ _ _ _ _ _ (World.drew _)
      refine wpAny_take (i := 0) (v := .pointer (some ⟨T,7,none⟩)) rfl (by kernel_rfl) (by kernel_rfl) (by kernel_rfl) (fun _ _ _ h => h) (Or.inl ⟨by rfl,by intro w; go_simp⟩) ?_
      refine wpAny_take (i := 2) (v := .pointer (some ⟨R,0,none⟩)) rfl (by kernel_rfl) (by kernel_rfl) (by kernel_rfl) (fun _ _ _ h => h) (Or.inl ⟨by rfl,by intro w; go_simp⟩) ?_
      refine wpAny_ready (rs := [1,3]) (by kernel_rfl) (by simp) ?_
      refine AllReady.cons rfl (fun K hK => ?_) (AllReady.cons rfl (fun K hK => ?_) AllReady.nil)
      ·go_simp
       refine hK _ _ ?_
       clear hK K
       refine wpAny_ready (rs := [3]) (by kernel_rfl) (by simp) ?_
       refine AllReady.cons rfl (fun K hK => ?_) AllReady.nil
       go_simp
       go_wp2_with (refine H1.out.mono ?_; rintro e w7 ⟨rfl,hT7⟩)
       refine ⟨rfl,?_⟩
       rw [HK2.out]
       exact ⟨rfl,(HTr.out.trans (Turn.refl _ wr).drew).trans (turnR hT7)⟩
      ·go_simp
       go_wp2_with (refine H1.out.mono ?_; rintro e w7 ⟨rfl,hT7⟩)
       refine ⟨rfl,?_⟩
       rw [HK2.out]
       exact ⟨rfl,(HTr.out.trans (Turn.refl _ wr).drew).trans (turnR hT7)⟩
    ·obtain rfl : j = k := by omega
     have HK2 := hid (show kindP bs sub 8 s1 = .ok (.mk { kind := 8,b := (bs.drop s3.i).take j } [],{ s3 with i := s3.i + j }) by rw [HK.out,some_yes HL.out])
     have HLn := hid (tk_len HL.out)
     have HRep : Hid (Rep wr (own (N + 1) R p m v) (.mk { kind := 8,b := (bs.drop s3.i).take j } []) (hdC { kind := 8,b := (bs.drop s3.i).take j } (.slice a j c) nilV)) := by
      refine ⟨.slice a j c,nilV,rfl,⟨?_,fun b e => ⟨?_,fun hf => ?_⟩,fun e => ?_⟩,[],Row.nil _ _ _ _,rfl⟩
      ·show wr.ownsRow 0 _ 1 _ (List.length _) _
       rw [HLn.out]
       exact owns_mono HO.out (Nat.zero_le _)
      ·have := (HO.out.lt b e).1
       omega
      ·have := (HO.out.lt b e).1
       have := hfT.out b hf
       omega
      ·exact HNil.out (by rw [HLn.out] at e; exact e)
     obtain ⟨k0,k1,k2,k3,k4,k5,k6,k7,k8⟩ := NineAt.of_block HT1r.out
     go_wp2_with (refine wpList_store_row rfl 31 (.tmp 4) (.tmp 155) rfl N #[.int .i64 8,.int .i64 0,.complex .f64 0 0,.string ⟨#[]⟩,.int .i64 0,.int .u32 0,.int .u64 0,(.slice a j c),nilV] rfl rfl 31 #[.int .i64 0,.int .i64 0,.complex .f64 0 0,.string ⟨#[]⟩,.int .i64 0,.int .u32 0,.int .u64 0,nilV,nilV] HT0r.out infoT rfl (by simp [Array.all,Value.oneCell']) ?_)
     clear k0 k1 k2 k3 k4 k5 k6 k7 k8
     have ht9 := NineAt.of_block (setRow_heap wr N #[.int .i64 0,.int .i64 0,.complex .f64 0 0,.string ⟨#[]⟩,.int .i64 0,.int .u32 0,.int .u64 0,nilV,nilV] #[.int .i64 8,.int .i64 0,.complex .f64 0 0,.string ⟨#[]⟩,.int .i64 0,.int .u32 0,.int .u64 0,(.slice a j c),nilV] 31 (0,0) HT0r.out)
     have HC := hid (rp_close (cs := #[.int .i64 8,.int .i64 0,.complex .f64 0 0,.string ⟨#[]⟩,.int .i64 0,.int .u32 0,.int .u64 0,(.slice a j c),nilV]) H.out HRr.out HTr.out HN.out (.inl rfl) HRep.out)
     generalize wr.setRow N #[.int .i64 8,.int .i64 0,.complex .f64 0 0,.string ⟨#[]⟩,.int .i64 0,.int .u32 0,.int .u64 0,(.slice a j c),nilV] = wz at *
     obtain ⟨k0,k1,k2,k3,k4,k5,k6,k7,k8⟩ := ht9
     refine (show bodyPost _ _ _ .ret _ _ from ?_)
     exact bodyPost_ret (v := .agg #[.int .i64 8,.int .i64 0,.complex .f64 0 0,.string ⟨#[]⟩,.int .i64 0,.int .u32 0,.int .u64 0,(.slice a j c),nilV]) (by simp [results,Try.results25,go_sem,k0,k1,k2,k3,k4,k5,k6,k7,k8]) rfl (by rw [HK2.out]; exact ⟨v,_,rfl,HC.out⟩)
end Go.Proofs.Ytgadkiljnebicaa
