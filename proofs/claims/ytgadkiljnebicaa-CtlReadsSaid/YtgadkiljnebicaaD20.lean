/- Several texts in one. -/
import Derived.Test.YtgadkiljnebicaaD13
import Derived.Test.YtgadkiljnebicaaD14
namespace Go.Proofs.Ytgadkiljnebicaa
open Go.Lib (hid)
open Go.RowKit
set_option maxRecDepth 100000
attribute [local go_sem] run_store_complex
theorem xor_u64_zero (a : Nat) (ha : a < 18446744073709551616) : bits .xor .u64 (a : Int) 0 = a := by
 have e : a % 2 ^ 64 = a := Nat.mod_eq_of_lt (by omega)
 have e0 : BitVec.ofInt 64 0 = 0#64 := by decide
 show IntKind.u64.wrap ((BitVec.ofInt 64 (a : Int) ^^^ BitVec.ofInt 64 0).toNat : Int) = a
 rw [e0,BitVec.xor_zero,BitVec.ofInt_natCast,BitVec.toNat_ofNat,e,wrap_u64_nat a ha]
theorem xor_u64_ones (a : Nat) (ha : a < 18446744073709551616) : bits .xor .u64 (a : Int) 18446744073709551615 = ((18446744073709551615 - a : Nat) : Int) := by
 have e : a % 2 ^ 64 = a := Nat.mod_eq_of_lt (by omega)
 have e0 : BitVec.ofInt 64 18446744073709551615 = BitVec.allOnes 64 := by decide
 show IntKind.u64.wrap ((BitVec.ofInt 64 (a : Int) ^^^ BitVec.ofInt 64 18446744073709551615).toNat : Int) = _
 rw [e0,BitVec.xor_allOnes,BitVec.ofInt_natCast,BitVec.toNat_not,BitVec.toNat_ofNat,e,show 2 ^ 64 - 1 - a = 18446744073709551615 - a by omega,wrap_u64_nat _ (by omega)]
theorem wrap_u64_mod (n : Int) : IntKind.u64.wrap n = n % 18446744073709551616 := by simp [IntKind.wrap,IntKind.bits,IntKind.signed]
theorem zag_lt {n : Int} (h1 : -4611686018427387904 ≤ n) (h2 : n ≤ 4611686018427387903) : zag n < 18446744073709551616 := by unfold zag; split <;> omega
theorem zag_eq {n : Int} (h1 : -4611686018427387904 ≤ n) (h2 : n ≤ 4611686018427387903) : bits .xor .u64 (IntKind.u64.wrap (n * 2)) (IntKind.u64.wrap (n / 9223372036854775808)) = ((zag n : Nat) : Int) := by
 rw [wrap_u64_mod,wrap_u64_mod]
 unfold zag
 by_cases h : 0 ≤ n
 ·rw [if_pos h,show n / 9223372036854775808 = 0 by omega,show n * 2 % 18446744073709551616 = ((2 * n).toNat : Int) by omega]
  exact xor_u64_zero _ (by omega)
 ·rw [if_neg h,show n / 9223372036854775808 % 18446744073709551616 = 18446744073709551615 by omega,show n * 2 % 18446744073709551616 = ((18446744073709551616 + 2 * n).toNat : Int) by omega,xor_u64_ones _ (by omega)]
  omega
set_option maxHeartbeats 4000000 in
theorem wp1 (B Wb p m : Nat) (v : Value) (a : Option Addr) (c : Nat) (out : List UInt8) (names : List ByteArray) (n : Int) (hn : inR n = true) (w : World) (h : WrAt B Wb p m v a c out names w) (hlen : out.length + 100 ≤ 1000000000) :
  Calls Try.prog 39 #[.pointer (some ⟨Wb,0,none⟩),.agg #[.int .i64 1,.int .i64 n,.complex .f64 0 0,.string ⟨#[]⟩,.int .i64 0,.int .u32 0,.int .u64 0,nilV,nilV]] w (WrPost B Wb p m v a c out w (out ++ (UInt8.ofNat 1 :: wideB (zag n))) names) := by
 have hr : -4611686018427387904 ≤ n ∧ n ≤ 4611686018427387903 := by simpa [inR] using hn
 have HZ := hid (zag_lt hr.1 hr.2)
 have HZe := hid (zag_eq hr.1 hr.2)
 clear hn
 have HL1 := hid hlen
 obtain ⟨i0,hi,hz0,hz1,hz2⟩ := info_parts infoU8
 have X1 := hid hi
 have X2 := hid hz0
 have X3 := hid hz1
 have X4 := hid hz2
 have HX0 := hid (heap_new w (.cells #[.int .i64 1,.int .i64 n,.complex .f64 0 0,.string ⟨#[]⟩,.int .i64 0,.int .u32 0,.int .u64 0,nilV,nilV] 31))
 have HSa := hid (h.stay ((Below.refl _ w).alloc (Nat.le_refl _) (.cells #[.int .i64 1,.int .i64 n,.complex .f64 0 0,.string ⟨#[]⟩,.int .i64 0,.int .u32 0,.int .u64 0,nilV,nilV] 31)))
 have HNf := hid (show ¬ wfoot Wb p m v a out.length c w.heap.size from fun e => by have := (h.foot _ e).2; omega)
 have HBl := hid (show w.heap.size < (w.alloc (.cells #[.int .i64 1,.int .i64 n,.complex .f64 0 0,.string ⟨#[]⟩,.int .i64 0,.int .u32 0,.int .u64 0,nilV,nilV] 31)).heap.size by simp)
 have HBw := hid h.bl
 clear h hi hz0 hz1 hz2 hlen
 go_enter Try.func39,Try.ntmps39
 go_wp2_with fail
 obtain ⟨b0,hb0⟩ : ∃ b,w.heap.size = b := ⟨_,rfl⟩
 rw [hb0] at HNf HBl HX0 ⊢
 have HB0 := hid hb0
 clear hb0
 generalize w.alloc (.cells #[.int .i64 1,.int .i64 n,.complex .f64 0 0,.string ⟨#[]⟩,.int .i64 0,.int .u32 0,.int .u64 0,nilV,nilV] 31) = w1 at *
 have HS1 := hid (HSa.out.wr.stay (Below.refl _ w1))
 have HX1 := hid ((HS1.out.keep HBl.out HNf.out).trans HX0.out)
 obtain ⟨k0,k1,k2,k3,k4,k5,k6,k7,k8⟩ := NineAt.of_block HX1.out
 have wc0 := HS1.out.wr.c0
 have wc1 := HS1.out.wr.c1
 have wf0 := HS1.out.wr.fz 0
 have hwl := HS1.out.wr.wl
 have hbn : ¬ b0 = Wb := fun e => HNf.out (.inl e)
 have HM1 := hid (show out.length + 1 ≤ maxLen by have := HL1.out; unfold maxLen; omega)
 have HM2 := hid (show (out.length + 1) * 1 ≤ 140737488355328 by have := HL1.out; omega)
 have HM3 : Hid (B ≤ (w1.drew.alloc (.cells #[.int .u8 1] 5)).heap.size) := hid (by have := HS1.out.wr.bl; simp; omega)
 obtain ⟨o2,hO2⟩ : ∃ x,out ++ [UInt8.ofNat 1] = x := ⟨_,rfl⟩
 have HL2 := hid (show o2.length + 90 ≤ 1000000000 by rw [← hO2,List.length_append,show ([UInt8.ofNat 1] : List UInt8).length = 1 from (rfl)]; have := HL1.out; omega)
 have HO2 := hid hO2
 clear hO2
 go_cut [3] from 9 to 20 (fun t3 wx => t3 = .pointer (some ⟨b0,0,none⟩) ∧ ∃ (v' : Value) (a' : Option Addr) (c' : Nat),WrStep B Wb p m v a c out w1 v' a' c' o2 names wx)
 case first =>
  go_region_law (first
   | (refine step_app (by rfl) (.tmp 13) (.tmp 17) 22 22 (by rfl) B 5 i0 (.int .u8 0) 1 1 Try.underlying22 X1.out X2.out X3.out X4.out rfl (by decide) (.slice a out.length c) out.length (out.map cellB) (by rfl) (HS1.out.wr.row.drew.alloc _) (.slice (some ⟨w1.heap.size,0,none⟩) 1 1) 1 [.int .u8 1] (by rfl) (src_one w1.drew Try.underlying22 _ _ rfl) HM1.out HM2.out HM3.out ?_; intro a4 c4 wz ho4 hg4 hl4; have HA := hid (HS1.out.wr.app (W0 := (w1.drew.alloc (.cells #[.int .u8 1] 5))) ((Below.refl _ w1).drew.alloc (Nat.le_refl _) _) (news := [UInt8.ofNat 1]) (k := 1) (rfl) hg4 (by rw [cell1 (x := 1) (by decide) rfl]; exact ho4) hl4); have hK := HS1.out.wr.kept (W0 := (w1.drew.alloc (.cells #[.int .u8 1] 5))) ((Below.refl _ w1).drew.alloc (Nat.le_refl _) _) hg4; obtain ⟨y4,z4⟩ := hK; clear ho4 hg4 hl4))
  all_goals
   go_wp2_with fail
   go_meet
   exact ⟨rfl,_,_,_,by rw [← HO2.out]; exact HS1.out.trans HA.out⟩
 clear k0 k1 k2 k3 k4 k5 k6 k7 k8 wc0 wc1 wf0 hwl hbn
 obtain ⟨rfl,v2,a2,c2,hs⟩ := hcut
 have HS2 := hid hs
 clear hs HM1 HM2 HM3
 obtain ⟨w2,rfl⟩ : ∃ x,x = wc := ⟨_,rfl⟩
 have HX2 := hid ((HS2.out.keep HBl.out HNf.out).trans HX0.out)
 obtain ⟨k0,k1,k2,k3,k4,k5,k6,k7,k8⟩ := NineAt.of_block HX2.out
 have wc0 := HS2.out.wr.c0
 have wc1 := HS2.out.wr.c1
 have wf0 := HS2.out.wr.fz 0
 have hwl := HS2.out.wr.wl
 have hbn : ¬ b0 = Wb := fun e => HNf.out (.inl e)
 have hze := HZe.out
 go_wp2_with fail
 clear k0 k1 k2 k3 k4 k5 k6 k7 k8 wc0 wc1 wf0 hwl hbn
 refine (wwide_any B Wb p m v2 a2 c2 o2 names (zag n) (HZ.out) w2 HS2.out.wr (by have := HL2.out; omega)).mono ?_
 rintro e w3 ⟨rfl,v3,a3,c3,hs⟩
 have HS3 := hid (HS2.out.trans hs)
 clear hs
 obtain ⟨o3,hO3⟩ : ∃ x,o2 ++ wideB (zag n) = x := ⟨_,rfl⟩
 have HL3 := hid (show o3.length + 60 ≤ 1000000000 by rw [← hO3,List.length_append]; have := HL2.out; have := wideB_len (zag n); omega)
 rw [hO3] at HS3
 have HO3 := hid hO3
 clear hO3
 clear hze
 go_wp2_with fail
 go_end0
 exact ⟨rfl,v3,a3,c3,by rw [show out ++ (UInt8.ofNat 1 :: wideB (zag n)) = o3 by rw [← HO3.out,← HO2.out]; simp]; exact HSa.out.trans HS3.out⟩
set_option maxHeartbeats 2000000 in
theorem rp6 (R p m : Nat) (v bv : Value) (bs : List UInt8) (s s1 : St) (sub : Rd Tm) (d : Int) (hd : d ≤ 24) (w : World) (h : RdAt w R p m v bv bs s) (hn : s.n + 1 ≤ 4096) (ho : oneP bs { s with n := s.n + 1 } = .ok (6,s1)) (hs1 : s1.n = s.n + 1) (hnm : s1.names.length ≤ s1.n) (hd0 : 1 ≤ d)
  (hsn : ∀ s t s',s.names.length ≤ s.n → sub s = .ok (t,s') → s'.names.length ≤ s'.n)
  (hsub : ∀ v s w,RdAt w R p m v bv bs s → s.names.length ≤ s.n → Calls Try.prog 25 #[.pointer (some ⟨R,0,none⟩),.int .i64 (d + 1)] w (PartPost R p m v bv bs w (sub s))) :
  Calls Try.prog 25 #[.pointer (some ⟨R,0,none⟩),.int .i64 d] w (PartPost R p m v bv bs w (kindP bs sub 6 s1)) := by
 have H := hid h
 have HO := hid ho
 have HA := hid (h.below ((Below.refl _ w).alloc (Nat.le_refl _) (.cells #[.int .i64 0,.int .i64 0,.complex .f64 0 0,.string ⟨#[]⟩,.int .i64 0,.int .u32 0,.int .u64 0,nilV,nilV] 31)))
 have r2 := HA.out.c2
 have rf := HA.out.fz 2
 have hn' : (s.n : Int) + 1 ≤ 4096 := by omega
 clear h ho
 go_enter Try.func25,Try.ntmps25
 go_wp2_with fail
 have HR2 : Hid (RdAt ((w.alloc (.cells #[.int .i64 0,.int .i64 0,.complex .f64 0 0,.string ⟨#[]⟩,.int .i64 0,.int .u32 0,.int .u64 0,nilV,nilV] 31)).setCell ⟨R,2,none⟩ (.int .i64 ((s.n : Int) + 1))) R p m v bv bs { s with n := s.n + 1 }) := HA.out.store (by simp) rfl HA.out.ile (show s.n + 1 ≤ 4097 by omega)
 have HT2 := hid ((Turn.alloc (fun i => i = R) w (.cells #[.int .i64 0,.int .i64 0,.complex .f64 0 0,.string ⟨#[]⟩,.int .i64 0,.int .u32 0,.int .u64 0,nilV,nilV] 31)).trans (Turn.setCell _ R 2 (.int .i64 ((s.n : Int) + 1))))
 have hRl := H.out.lt R (.inl rfl)
 have hT0R : ¬ w.heap.size = R := by omega
 have HT0 := hid ((Below.heap_setCell (w.alloc (.cells #[.int .i64 0,.int .i64 0,.complex .f64 0 0,.string ⟨#[]⟩,.int .i64 0,.int .u32 0,.int .u64 0,nilV,nilV] 31)) ⟨R,2,none⟩ (.int .i64 ((s.n : Int) + 1)) _ hT0R).trans (heap_new w _))
 generalize (w.alloc (.cells #[.int .i64 0,.int .i64 0,.complex .f64 0 0,.string ⟨#[]⟩,.int .i64 0,.int .u32 0,.int .u64 0,nilV,nilV] 31)).setCell ⟨R,2,none⟩ (.int .i64 ((s.n : Int) + 1)) = w2 at *
 have H1 := one_any R p m v bv bs _ w2 HR2.out
 rw [HO.out] at H1
 obtain ⟨N,hN⟩ : ∃ N,w.heap.size = N := ⟨_,rfl⟩
 rw [hN] at hRl hT0R HT0 ⊢
 have HN := hid hN
 refine H1.mono ?_
 rintro e w3 ⟨rfl,hR3,hT3⟩
 have HR3 := hid hR3
 have HT3 := hid (HT2.out.trans hT3)
 have HT03 := hid ((hT3.block N (blk_lt HT0.out) hT0R).trans HT0.out)
 have hNl : N < w3.heap.size := blk_lt HT03.out
 clear hR3 hT3 hN HA HR2 HT2 HT0 H1 r2 rf hn' HO
 have HR4 := hid (HR3.out.below ((Below.refl _ w3).alloc (Nat.le_refl _) (.cells #[.int .i64 6,.int .i64 0,.complex .f64 0 0,.string ⟨#[]⟩,.int .i64 0,.int .u32 0,.int .u64 0,nilV,nilV] 31)))
 have HT4 := hid (turnR (p := p) (m := m) (v := v) (HT3.out.trans (Turn.alloc (fun i => i = R) w3 (.cells #[.int .i64 6,.int .i64 0,.complex .f64 0 0,.string ⟨#[]⟩,.int .i64 0,.int .u32 0,.int .u64 0,nilV,nilV] 31))))
 have HT04 := hid ((Below.heap_alloc w3 (.cells #[.int .i64 6,.int .i64 0,.complex .f64 0 0,.string ⟨#[]⟩,.int .i64 0,.int .u32 0,.int .u64 0,nilV,nilV] 31) N hNl).trans HT03.out)
 have HT14 := hid (heap_new w3 (.cells #[.int .i64 6,.int .i64 0,.complex .f64 0 0,.string ⟨#[]⟩,.int .i64 0,.int .u32 0,.int .u64 0,nilV,nilV] 31))
 have hT1R : ¬ w3.heap.size = R := by omega
 obtain ⟨k0,k1,k2,k3,k4,k5,k6,k7,k8⟩ := NineAt.of_block HT14.out
 go_wp2_with fail
 clear k0 k1 k2 k3 k4 k5 k6 k7 k8 HR3 HT3 HT03
 generalize w3.alloc (.cells #[.int .i64 6,.int .i64 0,.complex .f64 0 0,.string ⟨#[]⟩,.int .i64 0,.int .u32 0,.int .u64 0,nilV,nilV] 31) = w4 at *
 generalize w3.heap.size = T at *
 have HSN := hid hsn
 have HSub := hid hsub
 have HNM := hid hnm
 clear hsn hsub hnm
 have HW := wide_any R p m v bv bs s1 w4 HR4.out
 have hNT : ¬ N = T := by omega
 cases hw : wideN bs s1 with
 | error x =>
  rw [hw] at HW
  have HK := hid (show kindP bs sub 6 s1 = .error x by simp [kindP,hw])
  have HW := hid HW
  clear hw
  refine HW.out.mono ?_
  rintro e w5 ⟨rfl,hT5⟩
  go_wp2_with fail
  refine ⟨rfl,?_⟩
  rw [HK.out]
  exact ⟨rfl,HT4.out.trans (turnR hT5)⟩
 | ok y =>
  obtain ⟨k,s2⟩ := y
  rw [hw] at HW
  have hk64 := wideN_lt hw
  have hs2 := wide_names _ _ _ _ _ _ hw
  have HNM2 := hid (show s2.names.length ≤ s2.n by rw [hs2.1,hs2.2.1]; exact HNM.out)
  have HK := hid (show kindP bs sub 6 s1 = if 256 < k then .error 73 else match manyP sub k s2 with
    | .error e => .error e
    | .ok (l,s) => .ok (.mk { kind := (6 : Nat) } l,s) by simp only [kindP,hw]; rfl)
  have HW := hid HW
  clear hw hs2
  refine HW.out.mono ?_
  rintro e w5 ⟨rfl,hR5,hT5⟩
  have HR5 := hid hR5
  have HT5 := hid (HT4.out.trans (turnR hT5))
  have HT05 := hid ((hT5.block N (blk_lt HT04.out) hT0R).trans HT04.out)
  have HT15 := hid ((hT5.block T (blk_lt HT14.out) hT1R).trans HT14.out)
  clear hR5 hT5 HR4 HT4 HT04 HT14
  clear HW
  by_cases hbig : 256 < k
  ·rw [if_pos hbig] at HK
   have hbd : decide (k ≤ 256) = false := decide_eq_false (by omega)
   have hbd2 : decide ((k : Int) ≤ 256) = false := decide_eq_false (by omega)
   clear hbig
   go_wp2_with fail
   refine (must_no _ _).mono ?_
   rintro e w6 ⟨rfl,rfl⟩
   go_wp2_with fail
   refine ⟨rfl,?_⟩
   rw [HK.out]
   exact ⟨rfl,HT5.out⟩
  ·rw [if_neg hbig] at HK
   have hkk : (k : Int) ≤ 256 := by omega
   have HKN := hid (show k ≤ 256 by omega)
   clear hbig
   go_wp2_with fail
   refine (must_yes _ _).mono ?_
   rintro e w6 ⟨rfl,rfl⟩
   go_wp2_with fail
   have hNw := HN.out
   have hwT := hid (show w.heap.size ≤ T by omega)
   have hwN := hid (show w.heap.size ≤ N by omega)
   have hNlT := hid (show N < T by omega)
   clear hNw
   obtain ⟨i0,hi,hz0,hz1,hz2⟩ := info_parts infoTm
   have X1 := hid hi
   have X2 := hid hz0
   have X3 := hid hz1
   have X4 := hid hz2
   clear hi hz0 hz1 hz2
   have HA := hid (show LsAt R p m N T 0 6 none 0 v v bv bs s2 [] [] w w6 from ⟨rfl,HT15.out,HT05.out,World.ownsRow_nil _ _ _ _,fun _ => rfl,rfl,(fun b e => by cases e),HR5.out,HT5.out,.inl rfl,HNM2.out⟩)
   clear HR5 HT5 HT05 HT15
   go_loopw [109] (fun t109 wr => ∃ (j : Nat) (a : Option Addr) (c : Nat) (vj : Value) (sj : St) (l : List Tm) (vs : List (Array Value)),j ≤ k ∧ t109 = .int .u64 j ∧ LsAt R p m N T j 6 a c v vj bv bs sj l vs w wr ∧ manyP sub k s2 = behind l (manyP sub (k - j) sj)) (fun t109 _ => k - (intOf t109).toNat)
   case atStart => exact ⟨0,none,0,v,s2,[],[],by omega,rfl,HA.out,by rw [Nat.sub_zero]; cases manyP sub k s2 with | error e => rfl | ok y => rfl⟩
   case round =>
    obtain ⟨j,a,c,vj,sj,l,vs,hj,rfl,hL,hM⟩ := hrel
    have HL := hid hL
    have HM := hid hM
    clear hL hM HA
    have HT1r := hid HL.out.tb
    by_cases hlt : j < k
    ·have hj1 : (j : Int) < (k : Int) := by omega
     have hw1 : IntKind.u64.wrap ((j : Int) + 1) = (j : Int) + 1 := wraps_u64 _ (by omega) (by omega)
     have hwd : IntKind.i64.wrap (d + 1) = d + 1 := IntWalk.i64_in _ (by omega)
     have xr := (NineAt.of_block HT1r.out).2.2.2.2.2.2.2.2
     have H1 := HSub.out vj sj wr.drew (HL.out.rd.drewN 1) HL.out.nms
     cases hs : sub sj with
     | error x =>
      rw [hs] at H1
      have HK2 := hid (show kindP bs sub 6 s1 = .error x by rw [HK.out,many_err HM.out hlt hs])
      have HT := hid HL.out.turn
      have HV := hid HL.out.vv
      have H1 := hid H1
      clear hs
      go_wp2_with fail
      refine wp_region_any (by kernel_rfl) ?_
      change wpAny _ _ _ _ _ _ _ (World.drew _)
      refine wpAny_take (i := 0) (v := .pointer (some ⟨T,8,none⟩)) rfl (by kernel_rfl) (by kernel_rfl) (by kernel_rfl) (fun _ _ _ h => h) (Or.inl ⟨by rfl,by intro w; go_simp⟩) ?_
      refine wpAny_take (i := 2) (v := .pointer (some ⟨R,0,none⟩)) rfl (by kernel_rfl) (by kernel_rfl) (by kernel_rfl) (fun _ _ _ h => h) (Or.inl ⟨by rfl,by intro w; go_simp⟩) ?_
      refine wpAny_take (i := 3) (v := .int .i64 d) rfl (by kernel_rfl) (by kernel_rfl) (by kernel_rfl) (fun _ _ _ h => h) (Or.inl ⟨by rfl,by intro w; go_simp⟩) ?_
      refine wpAny_take (i := 4) (v := .int .i64 (d + 1)) rfl (by kernel_rfl) (by kernel_rfl) (by kernel_rfl) (fun _ _ _ h => h) (Or.inl ⟨by rfl,by intro w; go_simp⟩) ?_
      refine wpAny_ready (rs := [1,5]) (by kernel_rfl) (by simp) ?_
      refine AllReady.cons rfl (fun K hK => ?_) (AllReady.cons rfl (fun K hK => ?_) AllReady.nil)
      ·go_simp
       refine hK _ _ ?_
       clear hK K
       refine wpAny_ready (rs := [5]) (by kernel_rfl) (by simp) ?_
       refine AllReady.cons rfl (fun K hK => ?_) AllReady.nil
       go_simp
       go_wp2_with (refine H1.out.mono ?_; rintro e w7 ⟨rfl,hT7⟩)
       refine ⟨rfl,?_⟩
       rw [HK2.out]
       exact ⟨rfl,ls_turn hwT.out HV.out HT.out hT7⟩
      ·go_simp
       go_wp2_with (refine H1.out.mono ?_; rintro e w7 ⟨rfl,hT7⟩)
       refine ⟨rfl,?_⟩
       rw [HK2.out]
       exact ⟨rfl,ls_turn hwT.out HV.out HT.out hT7⟩
     | ok y =>
      obtain ⟨t,s'⟩ := y
      rw [hs] at H1
      have HM2 := hid (many_ok HM.out hlt hs)
      have HN2 := hid (HSN.out _ _ _ HL.out.nms hs)
      have H1 := hid H1
      clear hs
      have HM1 := hid (show j + 1 ≤ maxLen by have := HKN.out; unfold maxLen; omega)
      have HMB := hid (show (j + 1) * 120 ≤ 140737488355328 by have := HKN.out; omega)
      go_wp2_with fail
      go_region_law (first
       | (refine step_app (by rfl) (.tmp 112) (.tmp 117) 29 29 (by rfl) (T + 1) 31 i0 (.agg zC) 9 120 Try.underlying29 X1.out X2.out X3.out X4.out rfl (by decide) (.slice a j c) j (cat vs) (by rfl) (HMid.out.row.alloc _) (.slice (some ⟨w7.heap.size,0,none⟩) 1 1) 1 _ (by rfl) (Src.ofSlice _ Try.underlying29 _ _ _ _ rfl (World.news_of_block (heap_alloc_new w7 _)) HOne.out) HM1.out HMB.out HB7.out ?_; intro a8 c8 w8 ho8 hg8 hl8; have HLN := hid (LsMid.next H.out hwT.out hNlT.out HMid.out HL.out.len HN2.out hg8 ho8 hl8); have HK8 := hid (app_keep HMid.out.row hg8); have y8 : w8.cell? ⟨T,8,none⟩ = some (.slice a j c) := (World.cell?_of_block (HK8.out.1 T (by omega) HTB7.out)).trans x7; have z8 : w8.frozen? ⟨T,8,none⟩ = false := (World.frozen?_of_block (HK8.out.1 T (by omega) HTB7.out)).trans f7; clear ho8 hg8 hl8)
       | (go_simp; refine H1.out.mono ?_; rintro e w7 ⟨v',cs,rfl,hR7,hT7,hv7,hrep⟩; have HMid := hid (LsAt.mid H.out hwT.out hNlT.out hwN.out HL.out hR7 hT7 hv7 hrep); clear hR7 hT7 hv7 hrep; obtain ⟨q0,q1,q2,q3,q4,q5,q6,q7,q8,q9,q10,q11,q12,q13,rfl,ht⟩ := rep_nine HMid.out.rep; have x7 : w7.cell? ⟨T,8,none⟩ = some (.slice a j c) := (NineAt.of_block HMid.out.tb).2.2.2.2.2.2.2.2; have f7 := blk_fz HMid.out.tb 8; have HTB7 := hid (blk_lt HMid.out.tb); have x7b : (w7.alloc (.cells #[.int .i64 q0,.int .i64 q1,.complex .f64 q2 q3,.string q4,.int .i64 q5,.int .u32 q6,.int .u64 q7,.slice q8 q9 q10,.slice q11 q12 q13] 31)).cell? ⟨T,8,none⟩ = some (.slice a j c) := (((Below.refl _ w7).alloc (Nat.le_refl _) _).cell (p := ⟨T,8,none⟩) HTB7.out).trans x7; have HB7 := hid (show T + 1 ≤ (w7.alloc (.cells #[.int .i64 q0,.int .i64 q1,.complex .f64 q2 q3,.string q4,.int .i64 q5,.int .u32 q6,.int .u64 q7,.slice q8 q9 q10,.slice q11 q12 q13] 31)).heap.size by have := HTB7.out; simp; omega); have HOne := hid (nine_one q0 q1 q2 q3 q4 q5 q6 q7 q8 q9 q10 q11 q12 q13); clear ht))
      all_goals
       clear x7 f7 y8 z8 xr
       go_wp2_with fail
       go_round
       case rel => exact ⟨j + 1,a8,c8,v',s',_,_,by omega,by go_num,HLN.out,HM2.out⟩
       case measure => simp [intOf]; omega
    ·obtain rfl : j = k := by omega
     have HK2 := hid (show kindP bs sub 6 s1 = .ok (.mk { kind := (6 : Nat) } l,sj) by rw [HK.out,many_end HM.out])
     have HRep := hid (ls_rep hNlT.out HL.out)
     have HVN := hid (show vj.ownBlock = v.ownBlock ∨ ∀ b,vj.ownBlock = some b → N < b from HL.out.vv.imp id fun h b e => by have := h b e; have := hNlT.out; omega)
     have HRr := hid HL.out.rd
     have HTr := hid HL.out.turn
     have HT0r := hid HL.out.nb
     obtain ⟨k0,k1,k2,k3,k4,k5,k6,k7,k8⟩ := NineAt.of_block HT1r.out
     go_wp2_with (refine wpList_store_row rfl 31 (.tmp 4) (.tmp 155) rfl N #[.int .i64 6,.int .i64 0,.complex .f64 0 0,.string ⟨#[]⟩,.int .i64 0,.int .u32 0,.int .u64 0,nilV,(.slice a j c)] rfl rfl 31 #[.int .i64 0,.int .i64 0,.complex .f64 0 0,.string ⟨#[]⟩,.int .i64 0,.int .u32 0,.int .u64 0,nilV,nilV] HT0r.out infoT rfl (by simp [Array.all,Value.oneCell']) ?_)
     clear k0 k1 k2 k3 k4 k5 k6 k7 k8
     have ht9 := NineAt.of_block (setRow_heap wr N #[.int .i64 0,.int .i64 0,.complex .f64 0 0,.string ⟨#[]⟩,.int .i64 0,.int .u32 0,.int .u64 0,nilV,nilV] #[.int .i64 6,.int .i64 0,.complex .f64 0 0,.string ⟨#[]⟩,.int .i64 0,.int .u32 0,.int .u64 0,nilV,(.slice a j c)] 31 (0,0) HT0r.out)
     have HC := hid (rp_close (cs := #[.int .i64 6,.int .i64 0,.complex .f64 0 0,.string ⟨#[]⟩,.int .i64 0,.int .u32 0,.int .u64 0,nilV,(.slice a j c)]) H.out HRr.out HTr.out HN.out HVN.out HRep.out)
     generalize wr.setRow N #[.int .i64 6,.int .i64 0,.complex .f64 0 0,.string ⟨#[]⟩,.int .i64 0,.int .u32 0,.int .u64 0,nilV,(.slice a j c)] = wz at *
     obtain ⟨k0,k1,k2,k3,k4,k5,k6,k7,k8⟩ := ht9
     exact bodyPost_ret (v := .agg #[.int .i64 6,.int .i64 0,.complex .f64 0 0,.string ⟨#[]⟩,.int .i64 0,.int .u32 0,.int .u64 0,nilV,(.slice a j c)]) (by simp [results,Try.results25,go_sem,k0,k1,k2,k3,k4,k5,k6,k7,k8]) rfl (by rw [HK2.out]; exact ⟨vj,_,rfl,HC.out⟩)
set_option maxHeartbeats 2000000 in
theorem rp7 (R p m : Nat) (v bv : Value) (bs : List UInt8) (s s1 : St) (sub : Rd Tm) (d : Int) (hd : d ≤ 24) (w : World) (h : RdAt w R p m v bv bs s) (hn : s.n + 1 ≤ 4096) (ho : oneP bs { s with n := s.n + 1 } = .ok (7,s1)) (hs1 : s1.n = s.n + 1) (hnm : s1.names.length ≤ s1.n) (hd0 : 1 ≤ d)
  (hsn : ∀ s t s',s.names.length ≤ s.n → sub s = .ok (t,s') → s'.names.length ≤ s'.n)
  (hsub : ∀ v s w,RdAt w R p m v bv bs s → s.names.length ≤ s.n → Calls Try.prog 25 #[.pointer (some ⟨R,0,none⟩),.int .i64 (d + 1)] w (PartPost R p m v bv bs w (sub s))) :
  Calls Try.prog 25 #[.pointer (some ⟨R,0,none⟩),.int .i64 d] w (PartPost R p m v bv bs w (kindP bs sub 7 s1)) := by
 have H := hid h
 have HO := hid ho
 have HA := hid (h.below ((Below.refl _ w).alloc (Nat.le_refl _) (.cells #[.int .i64 0,.int .i64 0,.complex .f64 0 0,.string ⟨#[]⟩,.int .i64 0,.int .u32 0,.int .u64 0,nilV,nilV] 31)))
 have r2 := HA.out.c2
 have rf := HA.out.fz 2
 have hn' : (s.n : Int) + 1 ≤ 4096 := by omega
 clear h ho
 go_enter Try.func25,Try.ntmps25
 go_wp2_with fail
 have HR2 : Hid (RdAt ((w.alloc (.cells #[.int .i64 0,.int .i64 0,.complex .f64 0 0,.string ⟨#[]⟩,.int .i64 0,.int .u32 0,.int .u64 0,nilV,nilV] 31)).setCell ⟨R,2,none⟩ (.int .i64 ((s.n : Int) + 1))) R p m v bv bs { s with n := s.n + 1 }) := HA.out.store (by simp) rfl HA.out.ile (show s.n + 1 ≤ 4097 by omega)
 have HT2 := hid ((Turn.alloc (fun i => i = R) w (.cells #[.int .i64 0,.int .i64 0,.complex .f64 0 0,.string ⟨#[]⟩,.int .i64 0,.int .u32 0,.int .u64 0,nilV,nilV] 31)).trans (Turn.setCell _ R 2 (.int .i64 ((s.n : Int) + 1))))
 have hRl := H.out.lt R (.inl rfl)
 have hT0R : ¬ w.heap.size = R := by omega
 have HT0 := hid ((Below.heap_setCell (w.alloc (.cells #[.int .i64 0,.int .i64 0,.complex .f64 0 0,.string ⟨#[]⟩,.int .i64 0,.int .u32 0,.int .u64 0,nilV,nilV] 31)) ⟨R,2,none⟩ (.int .i64 ((s.n : Int) + 1)) _ hT0R).trans (heap_new w _))
 generalize (w.alloc (.cells #[.int .i64 0,.int .i64 0,.complex .f64 0 0,.string ⟨#[]⟩,.int .i64 0,.int .u32 0,.int .u64 0,nilV,nilV] 31)).setCell ⟨R,2,none⟩ (.int .i64 ((s.n : Int) + 1)) = w2 at *
 have H1 := one_any R p m v bv bs _ w2 HR2.out
 rw [HO.out] at H1
 obtain ⟨N,hN⟩ : ∃ N,w.heap.size = N := ⟨_,rfl⟩
 rw [hN] at hRl hT0R HT0 ⊢
 have HN := hid hN
 refine H1.mono ?_
 rintro e w3 ⟨rfl,hR3,hT3⟩
 have HR3 := hid hR3
 have HT3 := hid (HT2.out.trans hT3)
 have HT03 := hid ((hT3.block N (blk_lt HT0.out) hT0R).trans HT0.out)
 have hNl : N < w3.heap.size := blk_lt HT03.out
 clear hR3 hT3 hN HA HR2 HT2 HT0 H1 r2 rf hn' HO
 have HR4 := hid (HR3.out.below ((Below.refl _ w3).alloc (Nat.le_refl _) (.cells #[.int .i64 7,.int .i64 0,.complex .f64 0 0,.string ⟨#[]⟩,.int .i64 0,.int .u32 0,.int .u64 0,nilV,nilV] 31)))
 have HT4 := hid (turnR (p := p) (m := m) (v := v) (HT3.out.trans (Turn.alloc (fun i => i = R) w3 (.cells #[.int .i64 7,.int .i64 0,.complex .f64 0 0,.string ⟨#[]⟩,.int .i64 0,.int .u32 0,.int .u64 0,nilV,nilV] 31))))
 have HT04 := hid ((Below.heap_alloc w3 (.cells #[.int .i64 7,.int .i64 0,.complex .f64 0 0,.string ⟨#[]⟩,.int .i64 0,.int .u32 0,.int .u64 0,nilV,nilV] 31) N hNl).trans HT03.out)
 have HT14 := hid (heap_new w3 (.cells #[.int .i64 7,.int .i64 0,.complex .f64 0 0,.string ⟨#[]⟩,.int .i64 0,.int .u32 0,.int .u64 0,nilV,nilV] 31))
 have hT1R : ¬ w3.heap.size = R := by omega
 obtain ⟨k0,k1,k2,k3,k4,k5,k6,k7,k8⟩ := NineAt.of_block HT14.out
 go_wp2_with fail
 clear k0 k1 k2 k3 k4 k5 k6 k7 k8 HR3 HT3 HT03
 generalize w3.alloc (.cells #[.int .i64 7,.int .i64 0,.complex .f64 0 0,.string ⟨#[]⟩,.int .i64 0,.int .u32 0,.int .u64 0,nilV,nilV] 31) = w4 at *
 generalize w3.heap.size = T at *
 have HSN := hid hsn
 have HSub := hid hsub
 have HNM := hid hnm
 clear hsn hsub hnm
 have HW := wide_any R p m v bv bs s1 w4 HR4.out
 have hNT : ¬ N = T := by omega
 cases hw : wideN bs s1 with
 | error x =>
  rw [hw] at HW
  have HK := hid (show kindP bs sub 7 s1 = .error x by simp [kindP,hw])
  have HW := hid HW
  clear hw
  refine HW.out.mono ?_
  rintro e w5 ⟨rfl,hT5⟩
  go_wp2_with fail
  refine ⟨rfl,?_⟩
  rw [HK.out]
  exact ⟨rfl,HT4.out.trans (turnR hT5)⟩
 | ok y =>
  obtain ⟨k,s2⟩ := y
  rw [hw] at HW
  have hk64 := wideN_lt hw
  have hs2 := wide_names _ _ _ _ _ _ hw
  have HNM2 := hid (show s2.names.length ≤ s2.n by rw [hs2.1,hs2.2.1]; exact HNM.out)
  have HK := hid (show kindP bs sub 7 s1 = if 256 < k then .error 73 else match manyP sub k s2 with
    | .error e => .error e
    | .ok (l,s) => .ok (.mk { kind := (7 : Nat) } l,s) by simp only [kindP,hw]; rfl)
  have HW := hid HW
  clear hw hs2
  refine HW.out.mono ?_
  rintro e w5 ⟨rfl,hR5,hT5⟩
  have HR5 := hid hR5
  have HT5 := hid (HT4.out.trans (turnR hT5))
  have HT05 := hid ((hT5.block N (blk_lt HT04.out) hT0R).trans HT04.out)
  have HT15 := hid ((hT5.block T (blk_lt HT14.out) hT1R).trans HT14.out)
  clear hR5 hT5 HR4 HT4 HT04 HT14
  clear HW
  by_cases hbig : 256 < k
  ·rw [if_pos hbig] at HK
   have hbd : decide (k ≤ 256) = false := decide_eq_false (by omega)
   have hbd2 : decide ((k : Int) ≤ 256) = false := decide_eq_false (by omega)
   clear hbig
   go_wp2_with fail
   refine (must_no _ _).mono ?_
   rintro e w6 ⟨rfl,rfl⟩
   go_wp2_with fail
   refine ⟨rfl,?_⟩
   rw [HK.out]
   exact ⟨rfl,HT5.out⟩
  ·rw [if_neg hbig] at HK
   have hkk : (k : Int) ≤ 256 := by omega
   have HKN := hid (show k ≤ 256 by omega)
   clear hbig
   go_wp2_with fail
   refine (must_yes _ _).mono ?_
   rintro e w6 ⟨rfl,rfl⟩
   go_wp2_with fail
   have hNw := HN.out
   have hwT := hid (show w.heap.size ≤ T by omega)
   have hwN := hid (show w.heap.size ≤ N by omega)
   have hNlT := hid (show N < T by omega)
   clear hNw
   obtain ⟨i0,hi,hz0,hz1,hz2⟩ := info_parts infoTm
   have X1 := hid hi
   have X2 := hid hz0
   have X3 := hid hz1
   have X4 := hid hz2
   clear hi hz0 hz1 hz2
   have HA := hid (show LsAt R p m N T 0 7 none 0 v v bv bs s2 [] [] w w6 from ⟨rfl,HT15.out,HT05.out,World.ownsRow_nil _ _ _ _,fun _ => rfl,rfl,(fun b e => by cases e),HR5.out,HT5.out,.inl rfl,HNM2.out⟩)
   clear HR5 HT5 HT05 HT15
   go_loopw [109] (fun t109 wr => ∃ (j : Nat) (a : Option Addr) (c : Nat) (vj : Value) (sj : St) (l : List Tm) (vs : List (Array Value)),j ≤ k ∧ t109 = .int .u64 j ∧ LsAt R p m N T j 7 a c v vj bv bs sj l vs w wr ∧ manyP sub k s2 = behind l (manyP sub (k - j) sj)) (fun t109 _ => k - (intOf t109).toNat)
   case atStart => exact ⟨0,none,0,v,s2,[],[],by omega,rfl,HA.out,by rw [Nat.sub_zero]; cases manyP sub k s2 with | error e => rfl | ok y => rfl⟩
   case round =>
    obtain ⟨j,a,c,vj,sj,l,vs,hj,rfl,hL,hM⟩ := hrel
    have HL := hid hL
    have HM := hid hM
    clear hL hM HA
    have HT1r := hid HL.out.tb
    by_cases hlt : j < k
    ·have hj1 : (j : Int) < (k : Int) := by omega
     have hw1 : IntKind.u64.wrap ((j : Int) + 1) = (j : Int) + 1 := wraps_u64 _ (by omega) (by omega)
     have hwd : IntKind.i64.wrap (d + 1) = d + 1 := IntWalk.i64_in _ (by omega)
     have xr := (NineAt.of_block HT1r.out).2.2.2.2.2.2.2.2
     have H1 := HSub.out vj sj wr.drew (HL.out.rd.drewN 1) HL.out.nms
     cases hs : sub sj with
     | error x =>
      rw [hs] at H1
      have HK2 := hid (show kindP bs sub 7 s1 = .error x by rw [HK.out,many_err HM.out hlt hs])
      have HT := hid HL.out.turn
      have HV := hid HL.out.vv
      have H1 := hid H1
      clear hs
      go_wp2_with fail
      refine wp_region_any (by kernel_rfl) ?_
      change wpAny _ _ _ _ _ _ _ (World.drew _)
      refine wpAny_take (i := 0) (v := .pointer (some ⟨T,8,none⟩)) rfl (by kernel_rfl) (by kernel_rfl) (by kernel_rfl) (fun _ _ _ h => h) (Or.inl ⟨by rfl,by intro w; go_simp⟩) ?_
      refine wpAny_take (i := 2) (v := .pointer (some ⟨R,0,none⟩)) rfl (by kernel_rfl) (by kernel_rfl) (by kernel_rfl) (fun _ _ _ h => h) (Or.inl ⟨by rfl,by intro w; go_simp⟩) ?_
      refine wpAny_take (i := 3) (v := .int .i64 d) rfl (by kernel_rfl) (by kernel_rfl) (by kernel_rfl) (fun _ _ _ h => h) (Or.inl ⟨by rfl,by intro w; go_simp⟩) ?_
      refine wpAny_take (i := 4) (v := .int .i64 (d + 1)) rfl (by kernel_rfl) (by kernel_rfl) (by kernel_rfl) (fun _ _ _ h => h) (Or.inl ⟨by rfl,by intro w; go_simp⟩) ?_
      refine wpAny_ready (rs := [1,5]) (by kernel_rfl) (by simp) ?_
      refine AllReady.cons rfl (fun K hK => ?_) (AllReady.cons rfl (fun K hK => ?_) AllReady.nil)
      ·go_simp
       refine hK _ _ ?_
       clear hK K
       refine wpAny_ready (rs := [5]) (by kernel_rfl) (by simp) ?_
       refine AllReady.cons rfl (fun K hK => ?_) AllReady.nil
       go_simp
       go_wp2_with (refine H1.out.mono ?_; rintro e w7 ⟨rfl,hT7⟩)
       refine ⟨rfl,?_⟩
       rw [HK2.out]
       exact ⟨rfl,ls_turn hwT.out HV.out HT.out hT7⟩
      ·go_simp
       go_wp2_with (refine H1.out.mono ?_; rintro e w7 ⟨rfl,hT7⟩)
       refine ⟨rfl,?_⟩
       rw [HK2.out]
       exact ⟨rfl,ls_turn hwT.out HV.out HT.out hT7⟩
     | ok y =>
      obtain ⟨t,s'⟩ := y
      rw [hs] at H1
      have HM2 := hid (many_ok HM.out hlt hs)
      have HN2 := hid (HSN.out _ _ _ HL.out.nms hs)
      have H1 := hid H1
      clear hs
      have HM1 := hid (show j + 1 ≤ maxLen by have := HKN.out; unfold maxLen; omega)
      have HMB := hid (show (j + 1) * 120 ≤ 140737488355328 by have := HKN.out; omega)
      go_wp2_with fail
      go_region_law (first
       | (refine step_app (by rfl) (.tmp 112) (.tmp 117) 29 29 (by rfl) (T + 1) 31 i0 (.agg zC) 9 120 Try.underlying29 X1.out X2.out X3.out X4.out rfl (by decide) (.slice a j c) j (cat vs) (by rfl) (HMid.out.row.alloc _) (.slice (some ⟨w7.heap.size,0,none⟩) 1 1) 1 _ (by rfl) (Src.ofSlice _ Try.underlying29 _ _ _ _ rfl (World.news_of_block (heap_alloc_new w7 _)) HOne.out) HM1.out HMB.out HB7.out ?_; intro a8 c8 w8 ho8 hg8 hl8; have HLN := hid (LsMid.next H.out hwT.out hNlT.out HMid.out HL.out.len HN2.out hg8 ho8 hl8); have HK8 := hid (app_keep HMid.out.row hg8); have y8 : w8.cell? ⟨T,8,none⟩ = some (.slice a j c) := (World.cell?_of_block (HK8.out.1 T (by omega) HTB7.out)).trans x7; have z8 : w8.frozen? ⟨T,8,none⟩ = false := (World.frozen?_of_block (HK8.out.1 T (by omega) HTB7.out)).trans f7; clear ho8 hg8 hl8)
       | (go_simp; refine H1.out.mono ?_; rintro e w7 ⟨v',cs,rfl,hR7,hT7,hv7,hrep⟩; have HMid := hid (LsAt.mid H.out hwT.out hNlT.out hwN.out HL.out hR7 hT7 hv7 hrep); clear hR7 hT7 hv7 hrep; obtain ⟨q0,q1,q2,q3,q4,q5,q6,q7,q8,q9,q10,q11,q12,q13,rfl,ht⟩ := rep_nine HMid.out.rep; have x7 : w7.cell? ⟨T,8,none⟩ = some (.slice a j c) := (NineAt.of_block HMid.out.tb).2.2.2.2.2.2.2.2; have f7 := blk_fz HMid.out.tb 8; have HTB7 := hid (blk_lt HMid.out.tb); have x7b : (w7.alloc (.cells #[.int .i64 q0,.int .i64 q1,.complex .f64 q2 q3,.string q4,.int .i64 q5,.int .u32 q6,.int .u64 q7,.slice q8 q9 q10,.slice q11 q12 q13] 31)).cell? ⟨T,8,none⟩ = some (.slice a j c) := (((Below.refl _ w7).alloc (Nat.le_refl _) _).cell (p := ⟨T,8,none⟩) HTB7.out).trans x7; have HB7 := hid (show T + 1 ≤ (w7.alloc (.cells #[.int .i64 q0,.int .i64 q1,.complex .f64 q2 q3,.string q4,.int .i64 q5,.int .u32 q6,.int .u64 q7,.slice q8 q9 q10,.slice q11 q12 q13] 31)).heap.size by have := HTB7.out; simp; omega); have HOne := hid (nine_one q0 q1 q2 q3 q4 q5 q6 q7 q8 q9 q10 q11 q12 q13); clear ht))
      all_goals
       clear x7 f7 y8 z8 xr
       go_wp2_with fail
       go_round
       case rel => exact ⟨j + 1,a8,c8,v',s',_,_,by omega,by go_num,HLN.out,HM2.out⟩
       case measure => simp [intOf]; omega
    ·obtain rfl : j = k := by omega
     have HK2 := hid (show kindP bs sub 7 s1 = .ok (.mk { kind := (7 : Nat) } l,sj) by rw [HK.out,many_end HM.out])
     have HRep := hid (ls_rep hNlT.out HL.out)
     have HVN := hid (show vj.ownBlock = v.ownBlock ∨ ∀ b,vj.ownBlock = some b → N < b from HL.out.vv.imp id fun h b e => by have := h b e; have := hNlT.out; omega)
     have HRr := hid HL.out.rd
     have HTr := hid HL.out.turn
     have HT0r := hid HL.out.nb
     obtain ⟨k0,k1,k2,k3,k4,k5,k6,k7,k8⟩ := NineAt.of_block HT1r.out
     go_wp2_with (refine wpList_store_row rfl 31 (.tmp 4) (.tmp 155) rfl N #[.int .i64 7,.int .i64 0,.complex .f64 0 0,.string ⟨#[]⟩,.int .i64 0,.int .u32 0,.int .u64 0,nilV,(.slice a j c)] rfl rfl 31 #[.int .i64 0,.int .i64 0,.complex .f64 0 0,.string ⟨#[]⟩,.int .i64 0,.int .u32 0,.int .u64 0,nilV,nilV] HT0r.out infoT rfl (by simp [Array.all,Value.oneCell']) ?_)
     clear k0 k1 k2 k3 k4 k5 k6 k7 k8
     have ht9 := NineAt.of_block (setRow_heap wr N #[.int .i64 0,.int .i64 0,.complex .f64 0 0,.string ⟨#[]⟩,.int .i64 0,.int .u32 0,.int .u64 0,nilV,nilV] #[.int .i64 7,.int .i64 0,.complex .f64 0 0,.string ⟨#[]⟩,.int .i64 0,.int .u32 0,.int .u64 0,nilV,(.slice a j c)] 31 (0,0) HT0r.out)
     have HC := hid (rp_close (cs := #[.int .i64 7,.int .i64 0,.complex .f64 0 0,.string ⟨#[]⟩,.int .i64 0,.int .u32 0,.int .u64 0,nilV,(.slice a j c)]) H.out HRr.out HTr.out HN.out HVN.out HRep.out)
     generalize wr.setRow N #[.int .i64 7,.int .i64 0,.complex .f64 0 0,.string ⟨#[]⟩,.int .i64 0,.int .u32 0,.int .u64 0,nilV,(.slice a j c)] = wz at *
     obtain ⟨k0,k1,k2,k3,k4,k5,k6,k7,k8⟩ := ht9
     exact bodyPost_ret (v := .agg #[.int .i64 7,.int .i64 0,.complex .f64 0 0,.string ⟨#[]⟩,.int .i64 0,.int .u32 0,.int .u64 0,nilV,(.slice a j c)]) (by simp [results,Try.results25,go_sem,k0,k1,k2,k3,k4,k5,k6,k7,k8]) rfl (by rw [HK2.out]; exact ⟨vj,_,rfl,HC.out⟩)
end Go.Proofs.Ytgadkiljnebicaa
