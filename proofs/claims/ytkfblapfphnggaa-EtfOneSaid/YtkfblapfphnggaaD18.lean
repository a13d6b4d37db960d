/- Several texts in one. -/
import Derived.Test.YtkfblapfphnggaaD16
/- reader.part: an id, a process's. -/
namespace Go.Proofs.Ytkfblapfphnggaa
open Go.RowKit
set_option maxRecDepth 100000
attribute [local go_sem] run_store_complex

set_option maxHeartbeats 2000000 in
theorem rp5 (R p m : Nat) (v bv : Value) (bs : List UInt8) (s s1 : St) (sub : Rd Tm) (d : Int) (hd : d ≤ 24) (w : World) (h : RdAt w R p m v bv bs s) (hn : s.n + 1 ≤ 4096) (ho : oneP bs { s with n := s.n + 1 } = .ok (5, s1)) :
    Calls Try.prog 17 #[.pointer (some ⟨R, 0, none⟩), .int .i64 d] w (PartPost R p m v bv bs w (kindP bs sub 5 s1)) := by
  have H := Lib.hid h
  have HO := Lib.hid ho
  have HA := Lib.hid (h.below ((Below.refl _ w).alloc (Nat.le_refl _) (.cells #[.int .i64 0, .int .i64 0, .complex .f64 0 0, .string ⟨#[]⟩, .int .i64 0, .int .u32 0, .int .u64 0, nilV, nilV] 31)))
  have r2 := HA.out.c2
  have rf := HA.out.fz 2
  have hn' : (s.n : Int) + 1 ≤ 4096 := by omega
  clear h ho
  go_enter Try.func17, Try.ntmps17
  go_wp2_with fail
  have HR2 : Hid (RdAt ((w.alloc (.cells #[.int .i64 0, .int .i64 0, .complex .f64 0 0, .string ⟨#[]⟩, .int .i64 0, .int .u32 0, .int .u64 0, nilV, nilV] 31)).setCell ⟨R, 2, none⟩ (.int .i64 ((s.n : Int) + 1))) R p m v bv bs { s with n := s.n + 1 }) := HA.out.store (by simp) rfl HA.out.ile (show s.n + 1 ≤ 4097 by omega)
  have HT2 := Lib.hid ((Turn.alloc (fun i => i = R) w (.cells #[.int .i64 0, .int .i64 0, .complex .f64 0 0, .string ⟨#[]⟩, .int .i64 0, .int .u32 0, .int .u64 0, nilV, nilV] 31)).trans (Turn.setCell _ R 2 (.int .i64 ((s.n : Int) + 1))))
  have hRl := H.out.lt R (.inl rfl)
  have hT0R : ¬ w.heap.size = R := by omega
  have HT0 := Lib.hid ((Below.heap_setCell (w.alloc (.cells #[.int .i64 0, .int .i64 0, .complex .f64 0 0, .string ⟨#[]⟩, .int .i64 0, .int .u32 0, .int .u64 0, nilV, nilV] 31)) ⟨R, 2, none⟩ (.int .i64 ((s.n : Int) + 1)) _ hT0R).trans (heap_new w _))
  generalize (w.alloc (.cells #[.int .i64 0, .int .i64 0, .complex .f64 0 0, .string ⟨#[]⟩, .int .i64 0, .int .u32 0, .int .u64 0, nilV, nilV] 31)).setCell ⟨R, 2, none⟩ (.int .i64 ((s.n : Int) + 1)) = w2 at *
  have H1 := one_any R p m v bv bs _ w2 HR2.out
  rw [HO.out] at H1
  obtain ⟨N, hN⟩ : ∃ N, w.heap.size = N := ⟨_, rfl⟩
  rw [hN] at hRl hT0R HT0 ⊢
  have HN := Lib.hid hN
  refine H1.mono ?_
  rintro e w3 ⟨rfl, hR3, hT3⟩
  have HR3 := Lib.hid hR3
  have HT3 := Lib.hid (HT2.out.trans hT3)
  have HT03 := Lib.hid ((hT3.block N (blk_lt HT0.out) hT0R).trans HT0.out)
  have hNl : N < w3.heap.size := blk_lt HT03.out
  clear hR3 hT3 hN HA HR2 HT2 HT0 H1 r2 rf hn' HO
  have HR4 := Lib.hid (HR3.out.below ((Below.refl _ w3).alloc (Nat.le_refl _) (.cells #[.int .i64 5, .int .i64 0, .complex .f64 0 0, .string ⟨#[]⟩, .int .i64 0, .int .u32 0, .int .u64 0, nilV, nilV] 31)))
  have HT4 := Lib.hid (turnR (p := p) (m := m) (v := v) (HT3.out.trans (Turn.alloc (fun i => i = R) w3 (.cells #[.int .i64 5, .int .i64 0, .complex .f64 0 0, .string ⟨#[]⟩, .int .i64 0, .int .u32 0, .int .u64 0, nilV, nilV] 31))))
  have HT04 := Lib.hid ((Below.heap_alloc w3 (.cells #[.int .i64 5, .int .i64 0, .complex .f64 0 0, .string ⟨#[]⟩, .int .i64 0, .int .u32 0, .int .u64 0, nilV, nilV] 31) N hNl).trans HT03.out)
  have HT14 := Lib.hid (heap_new w3 (.cells #[.int .i64 5, .int .i64 0, .complex .f64 0 0, .string ⟨#[]⟩, .int .i64 0, .int .u32 0, .int .u64 0, nilV, nilV] 31))
  have hT1R : ¬ w3.heap.size = R := by omega
  obtain ⟨k0, k1, k2, k3, k4, k5, k6, k7, k8⟩ := NineAt.of_block HT14.out
  go_wp2_with fail
  clear k0 k1 k2 k3 k4 k5 k6 k7 k8 HR3 HT3 HT03
  generalize w3.alloc (.cells #[.int .i64 5, .int .i64 0, .complex .f64 0 0, .string ⟨#[]⟩, .int .i64 0, .int .u32 0, .int .u64 0, nilV, nilV] 31) = w4 at *
  generalize w3.heap.size = T at *
  have hNT : ¬ N = T := by omega
  have HW := one_any R p m v bv bs s1 w4 HR4.out
  cases hw : oneP bs s1 with
  | error x =>
    rw [hw] at HW
    have HK := Lib.hid (show kindP bs sub 5 s1 = .error x by simp [kindP, hw])
    have HW := Lib.hid HW
    clear hw
    refine HW.out.mono ?_
    rintro e w5 ⟨rfl, hT5⟩
    go_wp2_with fail
    refine ⟨rfl, ?_⟩
    rw [HK.out]
    exact ⟨rfl, HT4.out.trans (turnR hT5)⟩
  | ok y =>
    obtain ⟨node, s2⟩ := y
    rw [hw] at HW
    have hnode := (oneP_ok hw).1
    have HU1 := Lib.hid hw
    have HW := Lib.hid HW
    clear hw
    refine HW.out.mono ?_
    rintro e w5 ⟨rfl, hR5, hT5⟩
    have HR5 := Lib.hid hR5
    have HT5 := Lib.hid (HT4.out.trans (turnR hT5))
    have HT05 := Lib.hid ((hT5.block N (blk_lt HT04.out) hT0R).trans HT04.out)
    have HT15 := Lib.hid ((hT5.block T (blk_lt HT14.out) hT1R).trans HT14.out)
    clear hR5 hT5 HR4 HT4 HT04 HT14
    have f1 : IntKind.i64.wrap (node : Int) = node := IntWalk.i64_in _ (by omega)
    have fz := blk_fz HT15.out 4
    have kx := (NineAt.of_block HT15.out).2.2.2.2.1
    clear HW
    go_wp2_with fail
    clear fz f1 kx
    have hNw := HN.out
    have HR6 := Lib.hid (rd_setT (o := 4) (u := .int .i64 (node : Int)) H.out HR5.out (show w.heap.size ≤ T by omega) (.inl rfl))
    have HT6 := Lib.hid (turn_setT (o := 4) (u := .int .i64 (node : Int)) HT5.out (show w.heap.size ≤ T by omega))
    have HT06 := Lib.hid ((Below.heap_setCell w5 ⟨T, 4, none⟩ (.int .i64 (node : Int)) _ hNT).trans HT05.out)
    have HT16 : Hid ((w5.setCell ⟨T, 4, none⟩ (.int .i64 (node : Int))).heap[T]? = some (.cells #[.int .i64 5, .int .i64 0, .complex .f64 0 0, .string ⟨#[]⟩, .int .i64 (node : Int), .int .u32 0, .int .u64 0, nilV, nilV] 31 (0, 0))) := heap_setCell_at HT15.out
    clear hNw HR5 HT5 HT05 HT15
    generalize w5.setCell ⟨T, 4, none⟩ (.int .i64 (node : Int)) = w6 at *
    have HW := wide_any R p m v bv bs s2 w6 HR6.out
    cases hw : wideN bs s2 with
    | error x =>
      rw [hw] at HW
      have HK := Lib.hid (show kindP bs sub 5 s1 = .error x by simp [kindP, HU1.out, hw])
      have HW := Lib.hid HW
      clear hw
      refine HW.out.mono ?_
      rintro e w7 ⟨rfl, hT7⟩
      go_wp2_with fail
      refine ⟨rfl, ?_⟩
      rw [HK.out]
      exact ⟨rfl, HT6.out.trans (turnR hT7)⟩
    | ok y =>
      obtain ⟨boot, s3⟩ := y
      rw [hw] at HW
      have hboot := wideN_lt hw
      have HU2 := Lib.hid hw
      have HW := Lib.hid HW
      clear hw
      refine HW.out.mono ?_
      rintro e w7 ⟨rfl, hR7, hT7⟩
      have HR7 := Lib.hid hR7
      have HT7 := Lib.hid (HT6.out.trans (turnR hT7))
      have HT07 := Lib.hid ((hT7.block N (blk_lt HT06.out) hT0R).trans HT06.out)
      have HT17 := Lib.hid ((hT7.block T (blk_lt HT16.out) hT1R).trans HT16.out)
      clear hR7 hT7 HR6 HT6 HT06 HT16
      clear HW
      by_cases hbb : 4294967295 < boot
      · have HK := Lib.hid (show kindP bs sub 5 s1 = .error 73 by simp [kindP, HU1.out, HU2.out, hbb])
        have hbd : decide (boot ≤ 4294967295) = false := decide_eq_false (by omega)
        have hbd2 : decide ((boot : Int) ≤ 4294967295) = false := decide_eq_false (by omega)
        clear hboot
        go_wp2_with fail
        refine (must_no _ _).mono ?_
        rintro e w8 ⟨rfl, rfl⟩
        go_wp2_with fail
        refine ⟨rfl, ?_⟩
        rw [HK.out]
        exact ⟨rfl, HT7.out⟩
      · have hbd : (boot : Int) ≤ 4294967295 := by omega
        have hwb : IntKind.u32.wrap (boot : Int) = boot := by rw [IntKind.wrap_u32]; omega
        have HBB := Lib.hid hbb
        clear hbb hboot
        go_wp2_with fail
        refine (must_yes _ _).mono ?_
        rintro e w8 ⟨rfl, rfl⟩
        have fz := blk_fz HT17.out 5
        have kx := (NineAt.of_block HT17.out).2.2.2.2.2.1
        go_wp2_with fail
        clear fz hwb kx
        have hNw := HN.out
        have HR9 := Lib.hid (rd_setT (o := 5) (u := .int .u32 (boot : Int)) H.out HR7.out (show w.heap.size ≤ T by omega) (.inl rfl))
        have HT9 := Lib.hid (turn_setT (o := 5) (u := .int .u32 (boot : Int)) HT7.out (show w.heap.size ≤ T by omega))
        have HT09 := Lib.hid ((Below.heap_setCell w8 ⟨T, 5, none⟩ (.int .u32 (boot : Int)) _ hNT).trans HT07.out)
        have HT19 : Hid ((w8.setCell ⟨T, 5, none⟩ (.int .u32 (boot : Int))).heap[T]? = some (.cells #[.int .i64 5, .int .i64 0, .complex .f64 0 0, .string ⟨#[]⟩, .int .i64 (node : Int), .int .u32 (boot : Int), .int .u64 0, nilV, nilV] 31 (0, 0))) := heap_setCell_at HT17.out
        clear hNw HR7 HT7 HT07 HT17
        generalize w8.setCell ⟨T, 5, none⟩ (.int .u32 (boot : Int)) = w9 at *
        have HW := wide_any R p m v bv bs s3 w9 HR9.out
        cases hw : wideN bs s3 with
        | error x =>
          rw [hw] at HW
          have HK := Lib.hid (show kindP bs sub 5 s1 = .error x by simp [kindP, HU1.out, HU2.out, HBB.out, hw])
          have HW := Lib.hid HW
          clear hw
          refine HW.out.mono ?_
          rintro e w10 ⟨rfl, hT10⟩
          go_wp2_with fail
          refine ⟨rfl, ?_⟩
          rw [HK.out]
          exact ⟨rfl, HT9.out.trans (turnR hT10)⟩
        | ok y =>
          obtain ⟨idn, s4⟩ := y
          rw [hw] at HW
          have HK := Lib.hid (show kindP bs sub 5 s1 = if idOk node boot idn = true then .ok (.mk { kind := (5 : Nat), node := node, boot := boot, idn := idn } [], s4) else .error 73 by simp [kindP, HU1.out, HU2.out, HBB.out, hw])
          have HW := Lib.hid HW
          clear hw HU1 HU2 HBB
          refine HW.out.mono ?_
          rintro e w10 ⟨rfl, hR10, hT10⟩
          have HR10 := Lib.hid hR10
          have HT10 := Lib.hid (HT9.out.trans (turnR hT10))
          have HT010 := Lib.hid ((hT10.block N (blk_lt HT09.out) hT0R).trans HT09.out)
          have HT110 := Lib.hid ((hT10.block T (blk_lt HT19.out) hT1R).trans HT19.out)
          clear hR10 hT10 HR9 HT9 HT09 HT19
          clear HW
          obtain ⟨k0, k1, k2, k3, k4, k5, k6, k7, k8⟩ := NineAt.of_block HT110.out
          have fz := blk_fz HT110.out 6
          go_wp2_with fail
          clear fz k0 k1 k2 k3 k4 k5 k6 k7 k8
          have hNw := HN.out
          have HR11 := Lib.hid (rd_setT (o := 6) (u := .int .u64 (idn : Int)) H.out HR10.out (show w.heap.size ≤ T by omega) (.inl rfl))
          have HT11 := Lib.hid (turn_setT (o := 6) (u := .int .u64 (idn : Int)) HT10.out (show w.heap.size ≤ T by omega))
          have HT011 := Lib.hid ((Below.heap_setCell w10 ⟨T, 6, none⟩ (.int .u64 (idn : Int)) _ hNT).trans HT010.out)
          have HT111 : Hid ((w10.setCell ⟨T, 6, none⟩ (.int .u64 (idn : Int))).heap[T]? = some (.cells #[.int .i64 5, .int .i64 0, .complex .f64 0 0, .string ⟨#[]⟩, .int .i64 (node : Int), .int .u32 (boot : Int), .int .u64 (idn : Int), nilV, nilV] 31 (0, 0))) := heap_setCell_at HT110.out
          clear hNw HR10 HT10 HT010 HT110
          generalize w10.setCell ⟨T, 6, none⟩ (.int .u64 (idn : Int)) = w11 at *
          have HC := check_id 5 node boot idn (by decide) w11
          cases hI : idOk node boot idn with
          | false =>
            rw [hI] at HK HC
            have HC := Lib.hid HC
            clear hI
            refine HC.out.mono ?_
            rintro e w12 ⟨rfl, hb12⟩
            have HT12 := Lib.hid (HT11.out.trans (Turn.of_below hb12))
            clear HC hb12
            go_wp2_with fail
            refine (must_no _ _).mono ?_
            rintro e w13 ⟨rfl, rfl⟩
            go_wp2_with fail
            refine ⟨rfl, ?_⟩
            rw [HK.out]
            exact ⟨rfl, HT12.out⟩
          | true =>
            rw [hI] at HK HC
            have HC := Lib.hid HC
            clear hI
            refine HC.out.mono ?_
            rintro e w12 ⟨rfl, hb12⟩
            have HR12 := Lib.hid (HR11.out.below hb12)
            have HT12 := Lib.hid (HT11.out.trans (Turn.of_below hb12))
            have HT012 := Lib.hid ((hb12.block N (blk_lt HT011.out)).trans HT011.out)
            have HT112 := Lib.hid ((hb12.block T (blk_lt HT111.out)).trans HT111.out)
            clear HC hb12 HR11 HT11 HT011 HT111
            go_wp2_with fail
            refine (must_yes _ _).mono ?_
            rintro e w13 ⟨rfl, rfl⟩
            obtain ⟨k0, k1, k2, k3, k4, k5, k6, k7, k8⟩ := NineAt.of_block HT112.out
            go_wp2_with (refine wpList_store_row rfl 31 (.tmp 4) (.tmp 155) rfl N #[.int .i64 5, .int .i64 0, .complex .f64 0 0, .string ⟨#[]⟩, .int .i64 (node : Int), .int .u32 (boot : Int), .int .u64 (idn : Int), nilV, nilV] rfl rfl 31 #[.int .i64 0, .int .i64 0, .complex .f64 0 0, .string ⟨#[]⟩, .int .i64 0, .int .u32 0, .int .u64 0, nilV, nilV] HT012.out infoT rfl (by simp [Array.all, Value.oneCell']) ?_)
            clear k0 k1 k2 k3 k4 k5 k6 k7 k8
            have ht9 := NineAt.of_block (setRow_heap w13 N #[.int .i64 0, .int .i64 0, .complex .f64 0 0, .string ⟨#[]⟩, .int .i64 0, .int .u32 0, .int .u64 0, nilV, nilV] #[.int .i64 5, .int .i64 0, .complex .f64 0 0, .string ⟨#[]⟩, .int .i64 (node : Int), .int .u32 (boot : Int), .int .u64 (idn : Int), nilV, nilV] 31 (0, 0) HT012.out)
            have HC := Lib.hid (rp_close (cs := #[.int .i64 5, .int .i64 0, .complex .f64 0 0, .string ⟨#[]⟩, .int .i64 (node : Int), .int .u32 (boot : Int), .int .u64 (idn : Int), nilV, nilV]) H.out HR12.out HT12.out HN.out (.inl rfl) (Rep.leaf (h := { kind := (5 : Nat), node := node, boot := boot, idn := idn }) rfl))
            generalize w13.setRow N #[.int .i64 5, .int .i64 0, .complex .f64 0 0, .string ⟨#[]⟩, .int .i64 (node : Int), .int .u32 (boot : Int), .int .u64 (idn : Int), nilV, nilV] = wz at *
            obtain ⟨k0, k1, k2, k3, k4, k5, k6, k7, k8⟩ := ht9
            exact bodyPost_ret (v := .agg #[.int .i64 5, .int .i64 0, .complex .f64 0 0, .string ⟨#[]⟩, .int .i64 (node : Int), .int .u32 (boot : Int), .int .u64 (idn : Int), nilV, nilV]) (by simp [results, Try.results17, go_sem, k0, k1, k2, k3, k4, k5, k6, k7, k8]) rfl (by rw [HK.out]; exact ⟨v, _, rfl, HC.out⟩)
end Go.Proofs.Ytkfblapfphnggaa
