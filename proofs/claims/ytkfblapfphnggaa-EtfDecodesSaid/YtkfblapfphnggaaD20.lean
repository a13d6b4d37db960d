/- Several texts in one. -/
import Derived.Test.YtkfblapfphnggaaD16
import Derived.Test.YtkfblapfphnggaaD09
/- reader.part: a tuple. -/
namespace Go.Proofs.Ytkfblapfphnggaa
open Go.RowKit
set_option maxRecDepth 100000
attribute [local go_sem] run_store_complex

set_option maxHeartbeats 2000000 in
theorem rp6 (R p m : Nat) (v bv : Value) (bs : List UInt8) (s s1 : St) (sub : Rd Tm) (d : Int) (hd : d ≤ 24) (w : World) (h : RdAt w R p m v bv bs s) (hn : s.n + 1 ≤ 4096) (ho : oneP bs { s with n := s.n + 1 } = .ok (6, s1)) (hs1 : s1.n = s.n + 1) (hnm : s1.names.length ≤ s1.n) (hd0 : 1 ≤ d)
    (hsn : ∀ s t s', s.names.length ≤ s.n → sub s = .ok (t, s') → s'.names.length ≤ s'.n)
    (hsub : ∀ v s w, RdAt w R p m v bv bs s → s.names.length ≤ s.n → Calls Try.prog 17 #[.pointer (some ⟨R, 0, none⟩), .int .i64 (d + 1)] w (PartPost R p m v bv bs w (sub s))) :
    Calls Try.prog 17 #[.pointer (some ⟨R, 0, none⟩), .int .i64 d] w (PartPost R p m v bv bs w (kindP bs sub 6 s1)) := by
  have H := Lib.hid h
  have HO := Lib.hid ho
  have HA := Lib.hid (h.below ((Below.refl _ w).alloc (Nat.le_refl _) (.cells #[.int .i64 0, .int .i64 0, .complex .f64 0 0, .string ⟨#[]⟩, .int .i64 0, .int .u32 0, .int .u64 0, nilV, nilV] 31)))
  have r2 := HA.out.c2
  have rf := HA.out.fz 2
  have hn' : (s.n : Int) + 1 ≤ 4096 := by omega
  clear h ho
  go_enter Try.func17, Try.ntmps17
  go_wp2_with fail
  have HR2 : Hid (RdAt ((w.alloc (.cells #[.int .i64 0, .int .i64 0, .complex .f64 0 0, .string ⟨#[]⟩, .int .i64 0, .int .u32 0, .int .u64 0, nilV, nilV] 31)).setCell ⟨R, 2, none⟩ (.int .i64 ((s.n : Int) + 1))) R p m v bv bs { s with n := s.n + 1 }) := HA.out.store (by simp) rfl HA.out.ile (show s.n + 1 ≤ 4097 by omega)
  have HT2 := Lib.hid ((Turn.alloc (fun i => i = R) w (.cells #[.int .i64 0, .int .i64 0, .complex .f64 0 0, .string ⟨#[]⟩, .int .i64 0, .int .u32 0, .int .u64 0, nilV, nilV] 31)).trans (Turn.setCell _ R 2 (.int .i64 ((s.n : Int) + 1))))
  have hRl := H.out.lt R (.inl rfl)
  have hT0R : ¬ w.heap.size = R := by omega
  have HT0 := Lib.hid ((Below.heap_setCell (w.alloc (.cells #[.int .i64 0, .int .i64 0, .complex .f64 0 0, .string ⟨#[]⟩, .int .i64 0, .int .u32 0, .int .u64 0, nilV, nilV] 31)) ⟨R, 2, none⟩ (.int .i64 ((s.n : Int) + 1)) _ hT0R).trans (heap_new w _))
  generalize (w.alloc (.cells #[.int .i64 0, .int .i64 0, .complex .f64 0 0, .string ⟨#[]⟩, .int .i64 0, .int .u32 0, .int .u64 0, nilV, nilV] 31)).setCell ⟨R, 2, none⟩ (.int .i64 ((s.n : Int) + 1)) = w2 at *
  have H1 := one_any R p m v bv bs _ w2 HR2.out
  rw [HO.out] at H1
  obtain ⟨N, hN⟩ : ∃ N, w.heap.size = N := ⟨_, rfl⟩
  rw [hN] at hRl hT0R HT0 ⊢
  have HN := Lib.hid hN
  refine H1.mono ?_
  rintro e w3 ⟨rfl, hR3, hT3⟩
  have HR3 := Lib.hid hR3
  have HT3 := Lib.hid (HT2.out.trans hT3)
  have HT03 := Lib.hid ((hT3.block N (blk_lt HT0.out) hT0R).trans HT0.out)
  have hNl : N < w3.heap.size := blk_lt HT03.out
  clear hR3 hT3 hN HA HR2 HT2 HT0 H1 r2 rf hn' HO
  have HR4 := Lib.hid (HR3.out.below ((Below.refl _ w3).alloc (Nat.le_refl _) (.cells #[.int .i64 6, .int .i64 0, .complex .f64 0 0, .string ⟨#[]⟩, .int .i64 0, .int .u32 0, .int .u64 0, nilV, nilV] 31)))
  have HT4 := Lib.hid (turnR (p := p) (m := m) (v := v) (HT3.out.trans (Turn.alloc (fun i => i = R) w3 (.cells #[.int .i64 6, .int .i64 0, .complex .f64 0 0, .string ⟨#[]⟩, .int .i64 0, .int .u32 0, .int .u64 0, nilV, nilV] 31))))
  have HT04 := Lib.hid ((Below.heap_alloc w3 (.cells #[.int .i64 6, .int .i64 0, .complex .f64 0 0, .string ⟨#[]⟩, .int .i64 0, .int .u32 0, .int .u64 0, nilV, nilV] 31) N hNl).trans HT03.out)
  have HT14 := Lib.hid (heap_new w3 (.cells #[.int .i64 6, .int .i64 0, .complex .f64 0 0, .string ⟨#[]⟩, .int .i64 0, .int .u32 0, .int .u64 0, nilV, nilV] 31))
  have hT1R : ¬ w3.heap.size = R := by omega
  obtain ⟨k0, k1, k2, k3, k4, k5, k6, k7, k8⟩ := NineAt.of_block HT14.out
  go_wp2_with fail
  clear k0 k1 k2 k3 k4 k5 k6 k7 k8 HR3 HT3 HT03
  generalize w3.alloc (.cells #[.int .i64 6, .int .i64 0, .complex .f64 0 0, .string ⟨#[]⟩, .int .i64 0, .int .u32 0, .int .u64 0, nilV, nilV] 31) = w4 at *
  generalize w3.heap.size = T at *
  have HSN := Lib.hid hsn
  have HSub := Lib.hid hsub
  have HNM := Lib.hid hnm
  clear hsn hsub hnm
  have HW := wide_any R p m v bv bs s1 w4 HR4.out
  have hNT : ¬ N = T := by omega
  cases hw : wideN bs s1 with
  | error x =>
    rw [hw] at HW
    have HK := Lib.hid (show kindP bs sub 6 s1 = .error x by simp [kindP, hw])
    have HW := Lib.hid HW
    clear hw
    refine HW.out.mono ?_
    rintro e w5 ⟨rfl, hT5⟩
    go_wp2_with fail
    refine ⟨rfl, ?_⟩
    rw [HK.out]
    exact ⟨rfl, HT4.out.trans (turnR hT5)⟩
  | ok y =>
    obtain ⟨k, s2⟩ := y
    rw [hw] at HW
    have hk64 := wideN_lt hw
    have hs2 := wide_names _ _ _ _ _ _ hw
    have HNM2 := Lib.hid (show s2.names.length ≤ s2.n by rw [hs2.1, hs2.2.1]; exact HNM.out)
    have HK := Lib.hid (show kindP bs sub 6 s1 = if 256 < k then .error 73 else match manyP sub k s2 with
        | .error e => .error e
        | .ok (l, s) => .ok (.mk { kind := (6 : Nat) } l, s) by simp only [kindP, hw]; rfl)
    have HW := Lib.hid HW
    clear hw hs2
    refine HW.out.mono ?_
    rintro e w5 ⟨rfl, hR5, hT5⟩
    have HR5 := Lib.hid hR5
    have HT5 := Lib.hid (HT4.out.trans (turnR hT5))
    have HT05 := Lib.hid ((hT5.block N (blk_lt HT04.out) hT0R).trans HT04.out)
    have HT15 := Lib.hid ((hT5.block T (blk_lt HT14.out) hT1R).trans HT14.out)
    clear hR5 hT5 HR4 HT4 HT04 HT14
    clear HW
    by_cases hbig : 256 < k
    · rw [if_pos hbig] at HK
      have hbd : decide (k ≤ 256) = false := decide_eq_false (by omega)
      have hbd2 : decide ((k : Int) ≤ 256) = false := decide_eq_false (by omega)
      clear hbig
      go_wp2_with fail
      refine (must_no _ _).mono ?_
      rintro e w6 ⟨rfl, rfl⟩
      go_wp2_with fail
      refine ⟨rfl, ?_⟩
      rw [HK.out]
      exact ⟨rfl, HT5.out⟩
    · rw [if_neg hbig] at HK
      have hkk : (k : Int) ≤ 256 := by omega
      have HKN := Lib.hid (show k ≤ 256 by omega)
      clear hbig
      go_wp2_with fail
      refine (must_yes _ _).mono ?_
      rintro e w6 ⟨rfl, rfl⟩
      go_wp2_with fail
      have hNw := HN.out
      have hwT := Lib.hid (show w.heap.size ≤ T by omega)
      have hwN := Lib.hid (show w.heap.size ≤ N by omega)
      have hNlT := Lib.hid (show N < T by omega)
      clear hNw
      obtain ⟨i0, hi, hz0, hz1, hz2⟩ := info_parts infoTm
      have X1 := Lib.hid hi
      have X2 := Lib.hid hz0
      have X3 := Lib.hid hz1
      have X4 := Lib.hid hz2
      clear hi hz0 hz1 hz2
      have HA := Lib.hid (show LsAt R p m N T 0 6 none 0 v v bv bs s2 [] [] w w6 from ⟨rfl, HT15.out, HT05.out, World.ownsRow_nil _ _ _ _, fun _ => rfl, rfl, (fun b e => by cases e), HR5.out, HT5.out, .inl rfl, HNM2.out⟩)
      clear HR5 HT5 HT05 HT15
      go_loopw [109] (fun t109 wr => ∃ (j : Nat) (a : Option Addr) (c : Nat) (vj : Value) (sj : St) (l : List Tm) (vs : List (Array Value)), j ≤ k ∧ t109 = .int .u64 j ∧ LsAt R p m N T j 6 a c v vj bv bs sj l vs w wr ∧ manyP sub k s2 = behind l (manyP sub (k - j) sj)) (fun t109 _ => k - (intOf t109).toNat)
      case atStart => exact ⟨0, none, 0, v, s2, [], [], by omega, rfl, HA.out, by rw [Nat.sub_zero]; cases manyP sub k s2 with | error e => rfl | ok y => rfl⟩
      case round =>
        obtain ⟨j, a, c, vj, sj, l, vs, hj, rfl, hL, hM⟩ := hrel
        have HL := Lib.hid hL
        have HM := Lib.hid hM
        clear hL hM HA
        have HT1r := Lib.hid HL.out.tb
        by_cases hlt : j < k
        · have hj1 : (j : Int) < (k : Int) := by omega
          have hw1 : IntKind.u64.wrap ((j : Int) + 1) = (j : Int) + 1 := wraps_u64 _ (by omega) (by omega)
          have hwd : IntKind.i64.wrap (d + 1) = d + 1 := IntWalk.i64_in _ (by omega)
          have xr := (NineAt.of_block HT1r.out).2.2.2.2.2.2.2.2
          have H1 := HSub.out vj sj wr.drew (HL.out.rd.drewN 1) HL.out.nms
          cases hs : sub sj with
          | error x =>
            rw [hs] at H1
            have HK2 := Lib.hid (show kindP bs sub 6 s1 = .error x by rw [HK.out, many_err HM.out hlt hs])
            have HT := Lib.hid HL.out.turn
            have HV := Lib.hid HL.out.vv
            have H1 := Lib.hid H1
            clear hs
            go_wp2_with fail
            refine wp_region_any (by kernel_rfl) ?_
            change wpAny _ _ _ _ _ _ _ (World.drew _)
            refine wpAny_take (i := 0) (v := .pointer (some ⟨T, 8, none⟩)) rfl (by kernel_rfl) (by kernel_rfl) (by kernel_rfl) (fun _ _ _ h => h) (Or.inl ⟨by rfl, by intro w; go_simp⟩) ?_
            refine wpAny_take (i := 2) (v := .pointer (some ⟨R, 0, none⟩)) rfl (by kernel_rfl) (by kernel_rfl) (by kernel_rfl) (fun _ _ _ h => h) (Or.inl ⟨by rfl, by intro w; go_simp⟩) ?_
            refine wpAny_take (i := 3) (v := .int .i64 d) rfl (by kernel_rfl) (by kernel_rfl) (by kernel_rfl) (fun _ _ _ h => h) (Or.inl ⟨by rfl, by intro w; go_simp⟩) ?_
            refine wpAny_take (i := 4) (v := .int .i64 (d + 1)) rfl (by kernel_rfl) (by kernel_rfl) (by kernel_rfl) (fun _ _ _ h => h) (Or.inl ⟨by rfl, by intro w; go_simp⟩) ?_
            refine wpAny_ready (rs := [1, 5]) (by kernel_rfl) (by simp) ?_
            refine AllReady.cons rfl (fun K hK => ?_) (AllReady.cons rfl (fun K hK => ?_) AllReady.nil)
            · go_simp
              refine hK _ _ ?_
              clear hK K
              refine wpAny_ready (rs := [5]) (by kernel_rfl) (by simp) ?_
              refine AllReady.cons rfl (fun K hK => ?_) AllReady.nil
              go_simp
              go_wp2_with (refine H1.out.mono ?_; rintro e w7 ⟨rfl, hT7⟩)
              refine ⟨rfl, ?_⟩
              rw [HK2.out]
              exact ⟨rfl, ls_turn hwT.out HV.out HT.out hT7⟩
            · go_simp
              go_wp2_with (refine H1.out.mono ?_; rintro e w7 ⟨rfl, hT7⟩)
              refine ⟨rfl, ?_⟩
              rw [HK2.out]
              exact ⟨rfl, ls_turn hwT.out HV.out HT.out hT7⟩
          | ok y =>
            obtain ⟨t, s'⟩ := y
            rw [hs] at H1
            have HM2 := Lib.hid (many_ok HM.out hlt hs)
            have HN2 := Lib.hid (HSN.out _ _ _ HL.out.nms hs)
            have H1 := Lib.hid H1
            clear hs
            have HM1 := Lib.hid (show j + 1 ≤ maxLen by have := HKN.out; unfold maxLen; omega)
            have HMB := Lib.hid (show (j + 1) * 120 ≤ 140737488355328 by have := HKN.out; omega)
            go_wp2_with fail
            go_region_law (first
              | (refine step_app (by rfl) (.tmp 112) (.tmp 117) 29 29 (by rfl) (T + 1) 31 i0 (.agg zC) 9 120 Try.underlying29 X1.out X2.out X3.out X4.out rfl (by decide) (.slice a j c) j (cat vs) (by rfl) (HMid.out.row.alloc _) (.slice (some ⟨w7.heap.size, 0, none⟩) 1 1) 1 _ (by rfl) (Src.ofSlice _ Try.underlying29 _ _ _ _ rfl (World.news_of_block (heap_alloc_new w7 _)) HOne.out) HM1.out HMB.out HB7.out ?_; intro a8 c8 w8 ho8 hg8 hl8; have HLN := Lib.hid (LsMid.next H.out hwT.out hNlT.out HMid.out HL.out.len HN2.out hg8 ho8 hl8); have HK8 := Lib.hid (app_keep HMid.out.row hg8); have y8 : w8.cell? ⟨T, 8, none⟩ = some (.slice a j c) := (World.cell?_of_block (HK8.out.1 T (by omega) HTB7.out)).trans x7; have z8 : w8.frozen? ⟨T, 8, none⟩ = false := (World.frozen?_of_block (HK8.out.1 T (by omega) HTB7.out)).trans f7; clear ho8 hg8 hl8)
              | (go_simp; refine H1.out.mono ?_; rintro e w7 ⟨v', cs, rfl, hR7, hT7, hv7, hrep⟩; have HMid := Lib.hid (LsAt.mid H.out hwT.out hNlT.out hwN.out HL.out hR7 hT7 hv7 hrep); clear hR7 hT7 hv7 hrep; obtain ⟨q0, q1, q2, q3, q4, q5, q6, q7, q8, q9, q10, q11, q12, q13, rfl, ht⟩ := rep_nine HMid.out.rep; have x7 : w7.cell? ⟨T, 8, none⟩ = some (.slice a j c) := (NineAt.of_block HMid.out.tb).2.2.2.2.2.2.2.2; have f7 := blk_fz HMid.out.tb 8; have HTB7 := Lib.hid (blk_lt HMid.out.tb); have x7b : (w7.alloc (.cells #[.int .i64 q0, .int .i64 q1, .complex .f64 q2 q3, .string q4, .int .i64 q5, .int .u32 q6, .int .u64 q7, .slice q8 q9 q10, .slice q11 q12 q13] 31)).cell? ⟨T, 8, none⟩ = some (.slice a j c) := (((Below.refl _ w7).alloc (Nat.le_refl _) _).cell (p := ⟨T, 8, none⟩) HTB7.out).trans x7; have HB7 := Lib.hid (show T + 1 ≤ (w7.alloc (.cells #[.int .i64 q0, .int .i64 q1, .complex .f64 q2 q3, .string q4, .int .i64 q5, .int .u32 q6, .int .u64 q7, .slice q8 q9 q10, .slice q11 q12 q13] 31)).heap.size by have := HTB7.out; simp; omega); have HOne := Lib.hid (nine_one q0 q1 q2 q3 q4 q5 q6 q7 q8 q9 q10 q11 q12 q13); clear ht))
            all_goals
              clear x7 f7 y8 z8 xr
              go_wp2_with fail
              go_round
              case rel => exact ⟨j + 1, a8, c8, v', s', _, _, by omega, by go_num, HLN.out, HM2.out⟩
              case measure => simp [intOf]; omega
        · obtain rfl : j = k := by omega
          have HK2 := Lib.hid (show kindP bs sub 6 s1 = .ok (.mk { kind := (6 : Nat) } l, sj) by rw [HK.out, many_end HM.out])
          have HRep := Lib.hid (ls_rep hNlT.out HL.out)
          have HVN := Lib.hid (show vj.ownBlock = v.ownBlock ∨ ∀ b, vj.ownBlock = some b → N < b from HL.out.vv.imp id fun h b e => by have := h b e; have := hNlT.out; omega)
          have HRr := Lib.hid HL.out.rd
          have HTr := Lib.hid HL.out.turn
          have HT0r := Lib.hid HL.out.nb
          obtain ⟨k0, k1, k2, k3, k4, k5, k6, k7, k8⟩ := NineAt.of_block HT1r.out
          go_wp2_with (refine wpList_store_row rfl 31 (.tmp 4) (.tmp 155) rfl N #[.int .i64 6, .int .i64 0, .complex .f64 0 0, .string ⟨#[]⟩, .int .i64 0, .int .u32 0, .int .u64 0, nilV, (.slice a j c)] rfl rfl 31 #[.int .i64 0, .int .i64 0, .complex .f64 0 0, .string ⟨#[]⟩, .int .i64 0, .int .u32 0, .int .u64 0, nilV, nilV] HT0r.out infoT rfl (by simp [Array.all, Value.oneCell']) ?_)
          clear k0 k1 k2 k3 k4 k5 k6 k7 k8
          have ht9 := NineAt.of_block (setRow_heap wr N #[.int .i64 0, .int .i64 0, .complex .f64 0 0, .string ⟨#[]⟩, .int .i64 0, .int .u32 0, .int .u64 0, nilV, nilV] #[.int .i64 6, .int .i64 0, .complex .f64 0 0, .string ⟨#[]⟩, .int .i64 0, .int .u32 0, .int .u64 0, nilV, (.slice a j c)] 31 (0, 0) HT0r.out)
          have HC := Lib.hid (rp_close (cs := #[.int .i64 6, .int .i64 0, .complex .f64 0 0, .string ⟨#[]⟩, .int .i64 0, .int .u32 0, .int .u64 0, nilV, (.slice a j c)]) H.out HRr.out HTr.out HN.out HVN.out HRep.out)
          generalize wr.setRow N #[.int .i64 6, .int .i64 0, .complex .f64 0 0, .string ⟨#[]⟩, .int .i64 0, .int .u32 0, .int .u64 0, nilV, (.slice a j c)] = wz at *
          obtain ⟨k0, k1, k2, k3, k4, k5, k6, k7, k8⟩ := ht9
          exact bodyPost_ret (v := .agg #[.int .i64 6, .int .i64 0, .complex .f64 0 0, .string ⟨#[]⟩, .int .i64 0, .int .u32 0, .int .u64 0, nilV, (.slice a j c)]) (by simp [results, Try.results17, go_sem, k0, k1, k2, k3, k4, k5, k6, k7, k8]) rfl (by rw [HK2.out]; exact ⟨vj, _, rfl, HC.out⟩)
end Go.Proofs.Ytkfblapfphnggaa
/- reader.part: a list. -/
namespace Go.Proofs.Ytkfblapfphnggaa
open Go.RowKit
set_option maxRecDepth 100000
attribute [local go_sem] run_store_complex

set_option maxHeartbeats 2000000 in
theorem rp7 (R p m : Nat) (v bv : Value) (bs : List UInt8) (s s1 : St) (sub : Rd Tm) (d : Int) (hd : d ≤ 24) (w : World) (h : RdAt w R p m v bv bs s) (hn : s.n + 1 ≤ 4096) (ho : oneP bs { s with n := s.n + 1 } = .ok (7, s1)) (hs1 : s1.n = s.n + 1) (hnm : s1.names.length ≤ s1.n) (hd0 : 1 ≤ d)
    (hsn : ∀ s t s', s.names.length ≤ s.n → sub s = .ok (t, s') → s'.names.length ≤ s'.n)
    (hsub : ∀ v s w, RdAt w R p m v bv bs s → s.names.length ≤ s.n → Calls Try.prog 17 #[.pointer (some ⟨R, 0, none⟩), .int .i64 (d + 1)] w (PartPost R p m v bv bs w (sub s))) :
    Calls Try.prog 17 #[.pointer (some ⟨R, 0, none⟩), .int .i64 d] w (PartPost R p m v bv bs w (kindP bs sub 7 s1)) := by
  have H := Lib.hid h
  have HO := Lib.hid ho
  have HA := Lib.hid (h.below ((Below.refl _ w).alloc (Nat.le_refl _) (.cells #[.int .i64 0, .int .i64 0, .complex .f64 0 0, .string ⟨#[]⟩, .int .i64 0, .int .u32 0, .int .u64 0, nilV, nilV] 31)))
  have r2 := HA.out.c2
  have rf := HA.out.fz 2
  have hn' : (s.n : Int) + 1 ≤ 4096 := by omega
  clear h ho
  go_enter Try.func17, Try.ntmps17
  go_wp2_with fail
  have HR2 : Hid (RdAt ((w.alloc (.cells #[.int .i64 0, .int .i64 0, .complex .f64 0 0, .string ⟨#[]⟩, .int .i64 0, .int .u32 0, .int .u64 0, nilV, nilV] 31)).setCell ⟨R, 2, none⟩ (.int .i64 ((s.n : Int) + 1))) R p m v bv bs { s with n := s.n + 1 }) := HA.out.store (by simp) rfl HA.out.ile (show s.n + 1 ≤ 4097 by omega)
  have HT2 := Lib.hid ((Turn.alloc (fun i => i = R) w (.cells #[.int .i64 0, .int .i64 0, .complex .f64 0 0, .string ⟨#[]⟩, .int .i64 0, .int .u32 0, .int .u64 0, nilV, nilV] 31)).trans (Turn.setCell _ R 2 (.int .i64 ((s.n : Int) + 1))))
  have hRl := H.out.lt R (.inl rfl)
  have hT0R : ¬ w.heap.size = R := by omega
  have HT0 := Lib.hid ((Below.heap_setCell (w.alloc (.cells #[.int .i64 0, .int .i64 0, .complex .f64 0 0, .string ⟨#[]⟩, .int .i64 0, .int .u32 0, .int .u64 0, nilV, nilV] 31)) ⟨R, 2, none⟩ (.int .i64 ((s.n : Int) + 1)) _ hT0R).trans (heap_new w _))
  generalize (w.alloc (.cells #[.int .i64 0, .int .i64 0, .complex .f64 0 0, .string ⟨#[]⟩, .int .i64 0, .int .u32 0, .int .u64 0, nilV, nilV] 31)).setCell ⟨R, 2, none⟩ (.int .i64 ((s.n : Int) + 1)) = w2 at *
  have H1 := one_any R p m v bv bs _ w2 HR2.out
  rw [HO.out] at H1
  obtain ⟨N, hN⟩ : ∃ N, w.heap.size = N := ⟨_, rfl⟩
  rw [hN] at hRl hT0R HT0 ⊢
  have HN := Lib.hid hN
  refine H1.mono ?_
  rintro e w3 ⟨rfl, hR3, hT3⟩
  have HR3 := Lib.hid hR3
  have HT3 := Lib.hid (HT2.out.trans hT3)
  have HT03 := Lib.hid ((hT3.block N (blk_lt HT0.out) hT0R).trans HT0.out)
  have hNl : N < w3.heap.size := blk_lt HT03.out
  clear hR3 hT3 hN HA HR2 HT2 HT0 H1 r2 rf hn' HO
  have HR4 := Lib.hid (HR3.out.below ((Below.refl _ w3).alloc (Nat.le_refl _) (.cells #[.int .i64 7, .int .i64 0, .complex .f64 0 0, .string ⟨#[]⟩, .int .i64 0, .int .u32 0, .int .u64 0, nilV, nilV] 31)))
  have HT4 := Lib.hid (turnR (p := p) (m := m) (v := v) (HT3.out.trans (Turn.alloc (fun i => i = R) w3 (.cells #[.int .i64 7, .int .i64 0, .complex .f64 0 0, .string ⟨#[]⟩, .int .i64 0, .int .u32 0, .int .u64 0, nilV, nilV] 31))))
  have HT04 := Lib.hid ((Below.heap_alloc w3 (.cells #[.int .i64 7, .int .i64 0, .complex .f64 0 0, .string ⟨#[]⟩, .int .i64 0, .int .u32 0, .int .u64 0, nilV, nilV] 31) N hNl).trans HT03.out)
  have HT14 := Lib.hid (heap_new w3 (.cells #[.int .i64 7, .int .i64 0, .complex .f64 0 0, .string ⟨#[]⟩, .int .i64 0, .int .u32 0, .int .u64 0, nilV, nilV] 31))
  have hT1R : ¬ w3.heap.size = R := by omega
  obtain ⟨k0, k1, k2, k3, k4, k5, k6, k7, k8⟩ := NineAt.of_block HT14.out
  go_wp2_with fail
  clear k0 k1 k2 k3 k4 k5 k6 k7 k8 HR3 HT3 HT03
  generalize w3.alloc (.cells #[.int .i64 7, .int .i64 0, .complex .f64 0 0, .string ⟨#[]⟩, .int .i64 0, .int .u32 0, .int .u64 0, nilV, nilV] 31) = w4 at *
  generalize w3.heap.size = T at *
  have HSN := Lib.hid hsn
  have HSub := Lib.hid hsub
  have HNM := Lib.hid hnm
  clear hsn hsub hnm
  have HW := wide_any R p m v bv bs s1 w4 HR4.out
  have hNT : ¬ N = T := by omega
  cases hw : wideN bs s1 with
  | error x =>
    rw [hw] at HW
    have HK := Lib.hid (show kindP bs sub 7 s1 = .error x by simp [kindP, hw])
    have HW := Lib.hid HW
    clear hw
    refine HW.out.mono ?_
    rintro e w5 ⟨rfl, hT5⟩
    go_wp2_with fail
    refine ⟨rfl, ?_⟩
    rw [HK.out]
    exact ⟨rfl, HT4.out.trans (turnR hT5)⟩
  | ok y =>
    obtain ⟨k, s2⟩ := y
    rw [hw] at HW
    have hk64 := wideN_lt hw
    have hs2 := wide_names _ _ _ _ _ _ hw
    have HNM2 := Lib.hid (show s2.names.length ≤ s2.n by rw [hs2.1, hs2.2.1]; exact HNM.out)
    have HK := Lib.hid (show kindP bs sub 7 s1 = if 256 < k then .error 73 else match manyP sub k s2 with
        | .error e => .error e
        | .ok (l, s) => .ok (.mk { kind := (7 : Nat) } l, s) by simp only [kindP, hw]; rfl)
    have HW := Lib.hid HW
    clear hw hs2
    refine HW.out.mono ?_
    rintro e w5 ⟨rfl, hR5, hT5⟩
    have HR5 := Lib.hid hR5
    have HT5 := Lib.hid (HT4.out.trans (turnR hT5))
    have HT05 := Lib.hid ((hT5.block N (blk_lt HT04.out) hT0R).trans HT04.out)
    have HT15 := Lib.hid ((hT5.block T (blk_lt HT14.out) hT1R).trans HT14.out)
    clear hR5 hT5 HR4 HT4 HT04 HT14
    clear HW
    by_cases hbig : 256 < k
    · rw [if_pos hbig] at HK
      have hbd : decide (k ≤ 256) = false := decide_eq_false (by omega)
      have hbd2 : decide ((k : Int) ≤ 256) = false := decide_eq_false (by omega)
      clear hbig
      go_wp2_with fail
      refine (must_no _ _).mono ?_
      rintro e w6 ⟨rfl, rfl⟩
      go_wp2_with fail
      refine ⟨rfl, ?_⟩
      rw [HK.out]
      exact ⟨rfl, HT5.out⟩
    · rw [if_neg hbig] at HK
      have hkk : (k : Int) ≤ 256 := by omega
      have HKN := Lib.hid (show k ≤ 256 by omega)
      clear hbig
      go_wp2_with fail
      refine (must_yes _ _).mono ?_
      rintro e w6 ⟨rfl, rfl⟩
      go_wp2_with fail
      have hNw := HN.out
      have hwT := Lib.hid (show w.heap.size ≤ T by omega)
      have hwN := Lib.hid (show w.heap.size ≤ N by omega)
      have hNlT := Lib.hid (show N < T by omega)
      clear hNw
      obtain ⟨i0, hi, hz0, hz1, hz2⟩ := info_parts infoTm
      have X1 := Lib.hid hi
      have X2 := Lib.hid hz0
      have X3 := Lib.hid hz1
      have X4 := Lib.hid hz2
      clear hi hz0 hz1 hz2
      have HA := Lib.hid (show LsAt R p m N T 0 7 none 0 v v bv bs s2 [] [] w w6 from ⟨rfl, HT15.out, HT05.out, World.ownsRow_nil _ _ _ _, fun _ => rfl, rfl, (fun b e => by cases e), HR5.out, HT5.out, .inl rfl, HNM2.out⟩)
      clear HR5 HT5 HT05 HT15
      go_loopw [109] (fun t109 wr => ∃ (j : Nat) (a : Option Addr) (c : Nat) (vj : Value) (sj : St) (l : List Tm) (vs : List (Array Value)), j ≤ k ∧ t109 = .int .u64 j ∧ LsAt R p m N T j 7 a c v vj bv bs sj l vs w wr ∧ manyP sub k s2 = behind l (manyP sub (k - j) sj)) (fun t109 _ => k - (intOf t109).toNat)
      case atStart => exact ⟨0, none, 0, v, s2, [], [], by omega, rfl, HA.out, by rw [Nat.sub_zero]; cases manyP sub k s2 with | error e => rfl | ok y => rfl⟩
      case round =>
        obtain ⟨j, a, c, vj, sj, l, vs, hj, rfl, hL, hM⟩ := hrel
        have HL := Lib.hid hL
        have HM := Lib.hid hM
        clear hL hM HA
        have HT1r := Lib.hid HL.out.tb
        by_cases hlt : j < k
        · have hj1 : (j : Int) < (k : Int) := by omega
          have hw1 : IntKind.u64.wrap ((j : Int) + 1) = (j : Int) + 1 := wraps_u64 _ (by omega) (by omega)
          have hwd : IntKind.i64.wrap (d + 1) = d + 1 := IntWalk.i64_in _ (by omega)
          have xr := (NineAt.of_block HT1r.out).2.2.2.2.2.2.2.2
          have H1 := HSub.out vj sj wr.drew (HL.out.rd.drewN 1) HL.out.nms
          cases hs : sub sj with
          | error x =>
            rw [hs] at H1
            have HK2 := Lib.hid (show kindP bs sub 7 s1 = .error x by rw [HK.out, many_err HM.out hlt hs])
            have HT := Lib.hid HL.out.turn
            have HV := Lib.hid HL.out.vv
            have H1 := Lib.hid H1
            clear hs
            go_wp2_with fail
            refine wp_region_any (by kernel_rfl) ?_
            change wpAny _ _ _ _ _ _ _ (World.drew _)
            refine wpAny_take (i := 0) (v := .pointer (some ⟨T, 8, none⟩)) rfl (by kernel_rfl) (by kernel_rfl) (by kernel_rfl) (fun _ _ _ h => h) (Or.inl ⟨by rfl, by intro w; go_simp⟩) ?_
            refine wpAny_take (i := 2) (v := .pointer (some ⟨R, 0, none⟩)) rfl (by kernel_rfl) (by kernel_rfl) (by kernel_rfl) (fun _ _ _ h => h) (Or.inl ⟨by rfl, by intro w; go_simp⟩) ?_
            refine wpAny_take (i := 3) (v := .int .i64 d) rfl (by kernel_rfl) (by kernel_rfl) (by kernel_rfl) (fun _ _ _ h => h) (Or.inl ⟨by rfl, by intro w; go_simp⟩) ?_
            refine wpAny_take (i := 4) (v := .int .i64 (d + 1)) rfl (by kernel_rfl) (by kernel_rfl) (by kernel_rfl) (fun _ _ _ h => h) (Or.inl ⟨by rfl, by intro w; go_simp⟩) ?_
            refine wpAny_ready (rs := [1, 5]) (by kernel_rfl) (by simp) ?_
            refine AllReady.cons rfl (fun K hK => ?_) (AllReady.cons rfl (fun K hK => ?_) AllReady.nil)
            · go_simp
              refine hK _ _ ?_
              clear hK K
              refine wpAny_ready (rs := [5]) (by kernel_rfl) (by simp) ?_
              refine AllReady.cons rfl (fun K hK => ?_) AllReady.nil
              go_simp
              go_wp2_with (refine H1.out.mono ?_; rintro e w7 ⟨rfl, hT7⟩)
              refine ⟨rfl, ?_⟩
              rw [HK2.out]
              exact ⟨rfl, ls_turn hwT.out HV.out HT.out hT7⟩
            · go_simp
              go_wp2_with (refine H1.out.mono ?_; rintro e w7 ⟨rfl, hT7⟩)
              refine ⟨rfl, ?_⟩
              rw [HK2.out]
              exact ⟨rfl, ls_turn hwT.out HV.out HT.out hT7⟩
          | ok y =>
            obtain ⟨t, s'⟩ := y
            rw [hs] at H1
            have HM2 := Lib.hid (many_ok HM.out hlt hs)
            have HN2 := Lib.hid (HSN.out _ _ _ HL.out.nms hs)
            have H1 := Lib.hid H1
            clear hs
            have HM1 := Lib.hid (show j + 1 ≤ maxLen by have := HKN.out; unfold maxLen; omega)
            have HMB := Lib.hid (show (j + 1) * 120 ≤ 140737488355328 by have := HKN.out; omega)
            go_wp2_with fail
            go_region_law (first
              | (refine step_app (by rfl) (.tmp 112) (.tmp 117) 29 29 (by rfl) (T + 1) 31 i0 (.agg zC) 9 120 Try.underlying29 X1.out X2.out X3.out X4.out rfl (by decide) (.slice a j c) j (cat vs) (by rfl) (HMid.out.row.alloc _) (.slice (some ⟨w7.heap.size, 0, none⟩) 1 1) 1 _ (by rfl) (Src.ofSlice _ Try.underlying29 _ _ _ _ rfl (World.news_of_block (heap_alloc_new w7 _)) HOne.out) HM1.out HMB.out HB7.out ?_; intro a8 c8 w8 ho8 hg8 hl8; have HLN := Lib.hid (LsMid.next H.out hwT.out hNlT.out HMid.out HL.out.len HN2.out hg8 ho8 hl8); have HK8 := Lib.hid (app_keep HMid.out.row hg8); have y8 : w8.cell? ⟨T, 8, none⟩ = some (.slice a j c) := (World.cell?_of_block (HK8.out.1 T (by omega) HTB7.out)).trans x7; have z8 : w8.frozen? ⟨T, 8, none⟩ = false := (World.frozen?_of_block (HK8.out.1 T (by omega) HTB7.out)).trans f7; clear ho8 hg8 hl8)
              | (go_simp; refine H1.out.mono ?_; rintro e w7 ⟨v', cs, rfl, hR7, hT7, hv7, hrep⟩; have HMid := Lib.hid (LsAt.mid H.out hwT.out hNlT.out hwN.out HL.out hR7 hT7 hv7 hrep); clear hR7 hT7 hv7 hrep; obtain ⟨q0, q1, q2, q3, q4, q5, q6, q7, q8, q9, q10, q11, q12, q13, rfl, ht⟩ := rep_nine HMid.out.rep; have x7 : w7.cell? ⟨T, 8, none⟩ = some (.slice a j c) := (NineAt.of_block HMid.out.tb).2.2.2.2.2.2.2.2; have f7 := blk_fz HMid.out.tb 8; have HTB7 := Lib.hid (blk_lt HMid.out.tb); have x7b : (w7.alloc (.cells #[.int .i64 q0, .int .i64 q1, .complex .f64 q2 q3, .string q4, .int .i64 q5, .int .u32 q6, .int .u64 q7, .slice q8 q9 q10, .slice q11 q12 q13] 31)).cell? ⟨T, 8, none⟩ = some (.slice a j c) := (((Below.refl _ w7).alloc (Nat.le_refl _) _).cell (p := ⟨T, 8, none⟩) HTB7.out).trans x7; have HB7 := Lib.hid (show T + 1 ≤ (w7.alloc (.cells #[.int .i64 q0, .int .i64 q1, .complex .f64 q2 q3, .string q4, .int .i64 q5, .int .u32 q6, .int .u64 q7, .slice q8 q9 q10, .slice q11 q12 q13] 31)).heap.size by have := HTB7.out; simp; omega); have HOne := Lib.hid (nine_one q0 q1 q2 q3 q4 q5 q6 q7 q8 q9 q10 q11 q12 q13); clear ht))
            all_goals
              clear x7 f7 y8 z8 xr
              go_wp2_with fail
              go_round
              case rel => exact ⟨j + 1, a8, c8, v', s', _, _, by omega, by go_num, HLN.out, HM2.out⟩
              case measure => simp [intOf]; omega
        · obtain rfl : j = k := by omega
          have HK2 := Lib.hid (show kindP bs sub 7 s1 = .ok (.mk { kind := (7 : Nat) } l, sj) by rw [HK.out, many_end HM.out])
          have HRep := Lib.hid (ls_rep hNlT.out HL.out)
          have HVN := Lib.hid (show vj.ownBlock = v.ownBlock ∨ ∀ b, vj.ownBlock = some b → N < b from HL.out.vv.imp id fun h b e => by have := h b e; have := hNlT.out; omega)
          have HRr := Lib.hid HL.out.rd
          have HTr := Lib.hid HL.out.turn
          have HT0r := Lib.hid HL.out.nb
          obtain ⟨k0, k1, k2, k3, k4, k5, k6, k7, k8⟩ := NineAt.of_block HT1r.out
          go_wp2_with (refine wpList_store_row rfl 31 (.tmp 4) (.tmp 155) rfl N #[.int .i64 7, .int .i64 0, .complex .f64 0 0, .string ⟨#[]⟩, .int .i64 0, .int .u32 0, .int .u64 0, nilV, (.slice a j c)] rfl rfl 31 #[.int .i64 0, .int .i64 0, .complex .f64 0 0, .string ⟨#[]⟩, .int .i64 0, .int .u32 0, .int .u64 0, nilV, nilV] HT0r.out infoT rfl (by simp [Array.all, Value.oneCell']) ?_)
          clear k0 k1 k2 k3 k4 k5 k6 k7 k8
          have ht9 := NineAt.of_block (setRow_heap wr N #[.int .i64 0, .int .i64 0, .complex .f64 0 0, .string ⟨#[]⟩, .int .i64 0, .int .u32 0, .int .u64 0, nilV, nilV] #[.int .i64 7, .int .i64 0, .complex .f64 0 0, .string ⟨#[]⟩, .int .i64 0, .int .u32 0, .int .u64 0, nilV, (.slice a j c)] 31 (0, 0) HT0r.out)
          have HC := Lib.hid (rp_close (cs := #[.int .i64 7, .int .i64 0, .complex .f64 0 0, .string ⟨#[]⟩, .int .i64 0, .int .u32 0, .int .u64 0, nilV, (.slice a j c)]) H.out HRr.out HTr.out HN.out HVN.out HRep.out)
          generalize wr.setRow N #[.int .i64 7, .int .i64 0, .complex .f64 0 0, .string ⟨#[]⟩, .int .i64 0, .int .u32 0, .int .u64 0, nilV, (.slice a j c)] = wz at *
          obtain ⟨k0, k1, k2, k3, k4, k5, k6, k7, k8⟩ := ht9
          exact bodyPost_ret (v := .agg #[.int .i64 7, .int .i64 0, .complex .f64 0 0, .string ⟨#[]⟩, .int .i64 0, .int .u32 0, .int .u64 0, nilV, (.slice a j c)]) (by simp [results, Try.results17, go_sem, k0, k1, k2, k3, k4, k5, k6, k7, k8]) rfl (by rw [HK2.out]; exact ⟨vj, _, rfl, HC.out⟩)
end Go.Proofs.Ytkfblapfphnggaa
