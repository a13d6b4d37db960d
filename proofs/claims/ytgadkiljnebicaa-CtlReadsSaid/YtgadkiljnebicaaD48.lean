/- Several texts in one. -/
import Derived.Test.YtgadkiljnebicaaD46
import Derived.Deep.CutRange
set_option linter.unusedVariables false
set_option linter.unusedSimpArgs false
namespace Go.Proofs.Ytgadkiljnebicaa
open Go.Lib (hid)
open Go.RowKit
set_option maxRecDepth 100000
attribute [local go_sem] run_store_complex
set_option maxHeartbeats 2000000 in
theorem has_rw (s : ByteArray) (c : Nat) (hc : c < 256) (w : World) (hs : s.size ≤ maxLen) : Calls Try.prog 33 #[.string s,.int .u8 c] w (fun e w' => e = .returned (.bool (hasB s c)) ∧ w' = w) := by
 unfold maxLen at hs
 go_enter Try.func33,Try.ntmps33
 go_wp2
 go_loop [4,5] (fun r i => ∃ k : Nat,k ≤ s.size ∧ i = .int .i64 k ∧ r = .bool false ∧ ∀ j (hj : j < s.size),j < k → ¬ (s[j]'hj).toNat = c) (fun _ i => s.size - (intOf i).toNat)
 case atStart => exact ⟨0,Nat.zero_le _,rfl,rfl,fun j _ h => absurd h (Nat.not_lt_zero j)⟩
 case round =>
  obtain ⟨k,hk,rfl,rfl,hall⟩ := hrel
  have HA := hid hall
  clear hall
  by_cases hlt : k < s.size
  ·by_cases he : (s[k]'hlt).toNat = c
   ·have HE := hid he
    have he2 : (((s[k]'hlt).toNat : Int) == (c : Int)) = true := by simp [he]
    clear he
    go_wp2
    go_ret
    exact ⟨ret_bool (hasB_true hlt HE.out).symm,rfl⟩
   ·have HE := hid he
    have he2 : (((s[k]'hlt).toNat : Int) == (c : Int)) = false := by rw [beq_eq_false_iff_ne]; omega
    clear he
    go_wp2
    go_round
    case rel =>
     refine ⟨k + 1,by omega,by go_num,rfl,fun j hj h => ?_⟩
     rcases Nat.lt_succ_iff_lt_or_eq.1 h with h | rfl
     ·exact HA.out j hj h
     ·exact HE.out
    case measure => simp [intOf]; omega
  ·go_wp2
   go_ret
   obtain rfl : k = s.size := by omega
   exact ⟨ret_bool (hasB_false fun j hj => HA.out j hj hj).symm,rfl⟩
theorem letters (k : Int) (h1 : 1 ≤ k) (h2 : k ≤ 11) : hasB (letK k) 102 = (hasK k).f ∧ hasB (letK k) 116 = (hasK k).t ∧ hasB (letK k) 114 = (hasK k).r ∧ hasB (letK k) 110 = hasN k ∧ hasB (letK k) 120 = hasX k ∧ (letK k).size ≤ maxLen ∧ 0 < (letK k).size := by
 rcases kind_cases h1 h2 with rfl | rfl | rfl | rfl | rfl | rfl | rfl | rfl | rfl | rfl | rfl <;> (refine ⟨?_,?_,?_,?_,?_,?_,?_⟩ <;> decide)
theorem has_ways (k : Int) (h1 : 1 ≤ k) (h2 : k ≤ 11) : hasK k = ⟨true,true,false⟩ ∨ (hasK k = ⟨true,true,true⟩ ∧ hasN k = false) ∨ (hasK k = ⟨true,false,true⟩ ∧ hasN k = false) ∨ (hasK k = ⟨false,true,true⟩ ∧ hasN k = false) := by
 rcases kind_cases h1 h2 with rfl | rfl | rfl | rfl | rfl | rfl | rfl | rfl | rfl | rfl | rfl <;> first | exact .inl rfl | exact .inr (.inl ⟨rfl,rfl⟩) | exact .inr (.inr (.inl ⟨rfl,rfl⟩)) | exact .inr (.inr (.inr ⟨rfl,rfl⟩))
theorem ok_pos {x : I3} (h : x.ok = true) : (x.a == 0) = false ∧ (x.a != 0) = true := by
 have : 1 ≤ x.a := by simp [I3.ok,idOk] at h; omega
 have h2 : ¬ x.a = 0 := by omega
 exact ⟨beq_eq_false_iff_ne.2 h2,bne_iff_ne.2 h2⟩
theorem zero_no : I3.zero.ok = false := by decide
def preB (k : Int) (f t r : I3) (n : Int) : Bool := idsB k f t r && (!hasN k || decide (n = 1 ∨ n = 2))
theorem ids_of {k : Int} {a b c : Bool} (hp : hasK k = ⟨a,b,c⟩) {f t r : I3} : idsB k f t r = ((!a || f.ok) && ((!b || t.ok) && (!c || r.ok))) := by
 unfold idsB
 rw [hp]
 cases a <;> cases b <;> cases c <;> simp [Has.all,Has.p2,Has.p1,idAt]
set_option maxHeartbeats 2000000 in
theorem rightD_any (k : Int) (h1 : 1 ≤ k) (h2 : k ≤ 11) (f t r : I3) (x : Tm) (n : Int) (a1 : Option Addr) (m1 c1 : Nat) (a2 : Option Addr) (m2 c2 : Nat) (w : World) (hrep : Rep w (fun b => b < w.heap.size) x (hdC x.hd (.slice a1 m1 c1) (.slice a2 m2 c2)))
  (hf : (hasK k).f = false → f = I3.zero) (ht : (hasK k).t = false → t = I3.zero) (hr : (hasK k).r = false → r = I3.zero) (of : f = I3.zero ∨ f.ok = true) (ot : t = I3.zero ∨ t.ok = true) (or : r = I3.zero ∨ r.ok = true) (hn : hasN k = false → n = 0) (hn0 : 0 ≤ n) (hx : hasX k = false → x = .mk {} []) (hg : hasX k = true → GoodT 24 x ∧ sizeT x ≤ 4096) :
  Calls Try.prog 16 #[.agg (sgC k f t r x.hd (.slice a1 m1 c1) (.slice a2 m2 c2) n)] w (RB w (.bool (wholeB k f t r x n))) := by
 obtain ⟨e1,e2,e3,e4,e5,e6,e7⟩ := letters k h1 h2
 have hle := isEmpty_false (s := letK k) (by omega)
 have HX0 := hid hx
 have HG0 := hid hg
 have HP0 := hid hn
 have HRep := hid hrep
 clear hx hg hn hrep
 go_enter Try.func16,Try.ntmps16
 go_wp2_with fail
 have HX := hid (heap_new w (.cells (sgC k f t r x.hd (.slice a1 m1 c1) (.slice a2 m2 c2) n) 33))
 have HB := hid ((Below.refl w.heap.size w).alloc (Nat.le_refl _) (.cells (sgC k f t r x.hd (.slice a1 m1 c1) (.slice a2 m2 c2) n) 33))
 have HRp1 := hid (Rep.keep (fun b e hb => HB.out.block b hb) _ _ HRep.out)
 obtain ⟨B,hB⟩ : ∃ b,w.heap.size = b := ⟨_,rfl⟩
 rw [hB] at HX HB HRp1 ⊢
 have HBw := hid hB
 clear hB HRep
 have hl1 := blk_lt HX.out
 generalize w.alloc (.cells (sgC k f t r x.hd (.slice a1 m1 c1) (.slice a2 m2 c2) n) 33) = w1 at *
 refine (fieldsD_any k h1 h2 _).mono ?_
 rintro e w2 ⟨rfl,hb⟩
 have HX2 := hid ((hb.block _ (blk_lt HX.out)).trans HX.out)
 have HB2 := hid (HB.out.trans (hb.mono (Nat.le_of_lt hl1)))
 have HRp2 := hid (Rep.keep (fun b e hb2 => hb.block b hb2) _ _ HRp1.out)
 clear hb HRp1 HB HX
 obtain ⟨hv,hall,v1,v2,v3,v4,v5⟩ : ∃ hv : Int → Bool,(∀ c : Int,0 ≤ c ∧ c < 256 → ∀ w : World,Calls Try.prog 33 #[.string (letK k),.int .u8 c] w (fun e w' => e = .returned (.bool (hv c)) ∧ w' = w)) ∧ hv 102 = (hasK k).f ∧ hv 116 = (hasK k).t ∧ hv 114 = (hasK k).r ∧ hv 110 = hasN k ∧ hv 120 = hasX k :=
  ⟨fun c => hasB (letK k) c.toNat,fun c hc w => by have := has_rw (letK k) c.toNat (by omega) w e6; rw [show ((c.toNat : Nat) : Int) = c by omega] at this; exact this,e1,e2,e3,e4,e5⟩
 have HAll := hid hall
 have HV5 := hid v5
 clear e1 e2 e3 e4 e5 e6 e7 hall v5
 generalize letK k = L at *
 go_upto_region 3 with fail
 have HX3 := hid ((Below.heap_alloc w2 (.cells #[.int .i64 0,.int .u32 0,.int .u64 0] 27) _ (blk_lt HX2.out)).trans HX2.out)
 have HZ3 := hid (heap_new w2 (.cells #[.int .i64 0,.int .u32 0,.int .u64 0] 27))
 have hb3 := (Below.refl w2.heap.size w2).alloc (Nat.le_refl _) (.cells #[.int .i64 0,.int .u32 0,.int .u64 0] 27)
 have HB3 := hid (HB2.out.trans (hb3.mono (Nat.le_of_lt (blk_lt HX2.out))))
 have HRp3 := hid (Rep.keep (fun b e hb2 => hb3.block b hb2) _ _ HRp2.out)
 clear hb3 HB2 HX2 HRp2
 generalize w2.heap.size = Z at *
 generalize w2.alloc (.cells #[.int .i64 0,.int .u32 0,.int .u64 0] 27) = w3 at *
 go_cut [50] from 9 to 50 (fun t50 wx => t50 = .bool (!preB k f t r n) ∧ Below w3.heap.size w3 wx)
 case first =>
  obtain ⟨k0,k1,k2,k3,k4,k5,k6,k7,k8,k9,k10,k11,k12,k13,k14,k15,k16,k17,k18,k19⟩ := sg_cells HX3.out
  have z0 : w3.cell? ⟨Z,0,none⟩ = some (.int .i64 0) := by rw [cell_of_row _ _ _ _ _ _ HZ3.out]; rfl
  have z1 : w3.cell? ⟨Z,1,none⟩ = some (.int .u32 0) := by rw [cell_of_row _ _ _ _ _ _ HZ3.out]; rfl
  have z2 : w3.cell? ⟨Z,2,none⟩ = some (.int .u64 0) := by rw [cell_of_row _ _ _ _ _ _ HZ3.out]; rfl
  have HFb := hid (Below.refl w3.heap.size w3)
  clear HB3 HX3 HZ3 HRp3 HX0 HG0
  rcases has_ways k h1 h2 with hp | ⟨hp,hN⟩ | ⟨hp,hN⟩ | ⟨hp,hN⟩
  ·have hI := ids_of hp (f := f) (t := t) (r := r)
   simp only [hp] at v1 v2 v3
   obtain rfl := hr (by rw [hp])
   clear hf
   clear ht
   clear hr
   rcases of with rfl | okf
   ·have HV := hid (show preB k I3.zero t I3.zero n = false by unfold preB; rw [hI]; simp [zero_no])
    clear hI
    go_quiet ((go_at_call 33; refine Calls.quiet_of_same (HAll.out _ ?_ _); decide))
    go_wp2_with fail
    go_meet
    exact ⟨by rw [HV.out]; rfl,below_drewN HFb.out _⟩
   obtain ⟨pf,qf⟩ := ok_pos okf
   rcases ot with rfl | okt
   ·have HV := hid (show preB k f I3.zero I3.zero n = false by unfold preB; rw [hI]; simp [zero_no])
    clear hI
    go_quiet ((go_at_call 33; refine Calls.quiet_of_same (HAll.out _ ?_ _); decide))
    go_wp2_with fail
    go_meet
    exact ⟨by rw [HV.out]; rfl,below_drewN HFb.out _⟩
   obtain ⟨pt,qt⟩ := ok_pos okt
   cases hN : hasN k
   ·have hn := HP0.out hN
    subst hn
    rw [hN] at v4
    have HV := hid (show preB k f t I3.zero 0 = true by unfold preB; rw [hI,hN]; simp [okf,okt])
    clear hI
    go_quiet ((go_at_call 33; refine Calls.quiet_of_same (HAll.out _ ?_ _); decide))
    go_wp2_with fail
    go_meet
    exact ⟨by rw [HV.out]; rfl,below_drewN HFb.out _⟩
   ·rw [hN] at v4
    by_cases hz : n = 0
    ·subst hz
     have HV := hid (show preB k f t I3.zero 0 = false by unfold preB; rw [hI,hN]; simp)
     clear hI
     go_quiet ((go_at_call 33; refine Calls.quiet_of_same (HAll.out _ ?_ _); decide))
     go_wp2_with fail
     go_meet
     exact ⟨by rw [HV.out]; rfl,below_drewN HFb.out _⟩
    have nz : (n != 0) = true := bne_iff_ne.2 hz
    by_cases h2n : 2 < n
    ·have g2 : decide ((2 : Int) < n) = true := decide_eq_true h2n
     have HV := hid (show preB k f t I3.zero n = false by unfold preB; rw [hI,hN]; simp; omega)
     clear hI
     go_quiet ((go_at_call 33; refine Calls.quiet_of_same (HAll.out _ ?_ _); decide))
     go_wp2_with fail
     go_meet
     exact ⟨by rw [HV.out]; rfl,below_drewN HFb.out _⟩
    have g2 : decide ((2 : Int) < n) = false := decide_eq_false h2n
    have HV := hid (show preB k f t I3.zero n = true by unfold preB; rw [hI,hN]; simp [okf,okt]; omega)
    clear hI
    go_quiet ((go_at_call 33; refine Calls.quiet_of_same (HAll.out _ ?_ _); decide))
    go_wp2_with fail
    go_meet
    exact ⟨by rw [HV.out]; rfl,below_drewN HFb.out _⟩
  ·have hI := ids_of hp (f := f) (t := t) (r := r)
   simp only [hp] at v1 v2 v3
   have hn := HP0.out hN
   subst hn
   rw [hN] at v4
   clear hf
   clear ht
   clear hr
   rcases of with rfl | okf
   ·have HV := hid (show preB k I3.zero t r 0 = false by unfold preB; rw [hI]; simp [zero_no])
    clear hI
    go_quiet ((go_at_call 33; refine Calls.quiet_of_same (HAll.out _ ?_ _); decide))
    go_wp2_with fail
    go_meet
    exact ⟨by rw [HV.out]; rfl,below_drewN HFb.out _⟩
   obtain ⟨pf,qf⟩ := ok_pos okf
   rcases ot with rfl | okt
   ·have HV := hid (show preB k f I3.zero r 0 = false by unfold preB; rw [hI]; simp [zero_no])
    clear hI
    go_quiet ((go_at_call 33; refine Calls.quiet_of_same (HAll.out _ ?_ _); decide))
    go_wp2_with fail
    go_meet
    exact ⟨by rw [HV.out]; rfl,below_drewN HFb.out _⟩
   obtain ⟨pt,qt⟩ := ok_pos okt
   rcases or with rfl | okr
   ·have HV := hid (show preB k f t I3.zero 0 = false by unfold preB; rw [hI]; simp [zero_no])
    clear hI
    go_quiet ((go_at_call 33; refine Calls.quiet_of_same (HAll.out _ ?_ _); decide))
    go_wp2_with fail
    go_meet
    exact ⟨by rw [HV.out]; rfl,below_drewN HFb.out _⟩
   obtain ⟨pr,qr⟩ := ok_pos okr
   have HV := hid (show preB k f t r 0 = true by unfold preB; rw [hI,hN]; simp [okf,okt,okr])
   clear hI
   go_quiet ((go_at_call 33; refine Calls.quiet_of_same (HAll.out _ ?_ _); decide))
   go_wp2_with fail
   go_meet
   exact ⟨by rw [HV.out]; rfl,below_drewN HFb.out _⟩
  ·have hI := ids_of hp (f := f) (t := t) (r := r)
   simp only [hp] at v1 v2 v3
   obtain rfl := ht (by rw [hp])
   have hn := HP0.out hN
   subst hn
   rw [hN] at v4
   clear hf
   clear ht
   clear hr
   rcases of with rfl | okf
   ·have HV := hid (show preB k I3.zero I3.zero r 0 = false by unfold preB; rw [hI]; simp [zero_no])
    clear hI
    go_quiet ((go_at_call 33; refine Calls.quiet_of_same (HAll.out _ ?_ _); decide))
    go_wp2_with fail
    go_meet
    exact ⟨by rw [HV.out]; rfl,below_drewN HFb.out _⟩
   obtain ⟨pf,qf⟩ := ok_pos okf
   rcases or with rfl | okr
   ·have HV := hid (show preB k f I3.zero I3.zero 0 = false by unfold preB; rw [hI]; simp [zero_no])
    clear hI
    go_quiet ((go_at_call 33; refine Calls.quiet_of_same (HAll.out _ ?_ _); decide))
    go_wp2_with fail
    go_meet
    exact ⟨by rw [HV.out]; rfl,below_drewN HFb.out _⟩
   obtain ⟨pr,qr⟩ := ok_pos okr
   have HV := hid (show preB k f I3.zero r 0 = true by unfold preB; rw [hI,hN]; simp [okf,okr])
   clear hI
   go_quiet ((go_at_call 33; refine Calls.quiet_of_same (HAll.out _ ?_ _); decide))
   go_wp2_with fail
   go_meet
   exact ⟨by rw [HV.out]; rfl,below_drewN HFb.out _⟩
  ·have hI := ids_of hp (f := f) (t := t) (r := r)
   simp only [hp] at v1 v2 v3
   obtain rfl := hf (by rw [hp])
   have hn := HP0.out hN
   subst hn
   rw [hN] at v4
   clear hf
   clear ht
   clear hr
   rcases ot with rfl | okt
   ·have HV := hid (show preB k I3.zero I3.zero r 0 = false by unfold preB; rw [hI]; simp [zero_no])
    clear hI
    go_quiet ((go_at_call 33; refine Calls.quiet_of_same (HAll.out _ ?_ _); decide))
    go_wp2_with fail
    go_meet
    exact ⟨by rw [HV.out]; rfl,below_drewN HFb.out _⟩
   obtain ⟨pt,qt⟩ := ok_pos okt
   rcases or with rfl | okr
   ·have HV := hid (show preB k I3.zero t I3.zero 0 = false by unfold preB; rw [hI]; simp [zero_no])
    clear hI
    go_quiet ((go_at_call 33; refine Calls.quiet_of_same (HAll.out _ ?_ _); decide))
    go_wp2_with fail
    go_meet
    exact ⟨by rw [HV.out]; rfl,below_drewN HFb.out _⟩
   obtain ⟨pr,qr⟩ := ok_pos okr
   have HV := hid (show preB k I3.zero t r 0 = true by unfold preB; rw [hI,hN]; simp [okt,okr])
   clear hI
   go_quiet ((go_at_call 33; refine Calls.quiet_of_same (HAll.out _ ?_ _); decide))
   go_wp2_with fail
   go_meet
   exact ⟨by rw [HV.out]; rfl,below_drewN HFb.out _⟩
 case rest =>
  obtain ⟨rfl,hb4⟩ := hcut
  have HX4 := hid ((hb4.block _ (blk_lt HX3.out)).trans HX3.out)
  have HZ4 := hid ((hb4.block _ (blk_lt HZ3.out)).trans HZ3.out)
  have HB4 := hid (HB3.out.trans (hb4.mono (Nat.le_of_lt (blk_lt HX3.out))))
  have HRp4 := hid (Rep.keep (fun b e hb2 => hb4.block b hb2) _ _ HRp3.out)
  clear hb4 HX3 HZ3 HB3 HRp3 v1 v2 v3 v4
  have HWh := hid (show wholeB k f t r x n = (preB k f t r n && (!hasX k || shapedB k x)) from rfl)
  cases hpb : preB k f t r n
  ·have HNo := hid (show wholeB k f t r x n = false by rw [HWh.out,hpb]; rfl)
   clear of ot or hf ht hr
   go_wp2_with fail
   go_ret
   exact ⟨ret_bool HNo.out.symm,HBw.out ▸ HB4.out⟩
  have HPb := hid hpb
  go_upto_region 5 with fail
  go_cut [84] from 51 to 84 (fun t84 wx => t84 = .bool false ∧ Below wc.heap.size wc wx)
  case first =>
   have hib : idsB k f t r = true := by unfold preB at hpb; rw [Bool.and_eq_true] at hpb; exact hpb.1
   clear hpb HRp4 HB4 HX0 HG0 HWh hle
   rcases has_ways k h1 h2 with hp | ⟨hp,_⟩ | ⟨hp,_⟩ | ⟨hp,_⟩
   ·rw [ids_of hp (f := f) (t := t) (r := r)] at hib
    obtain rfl := hr (by rw [hp])
    have hib2 : f.ok = true ∧ t.ok = true := by simpa [zero_no] using hib
    obtain ⟨okf,okt⟩ := hib2
    clear hf ht hr of ot or hib
    obtain ⟨pf,qf⟩ := ok_pos okf
    have HIf := hid (fun w => by have := refid_any f.a f.b f.c w; rw [show idOk f.a f.b f.c = true from okf] at this; exact this)
    obtain ⟨pt,qt⟩ := ok_pos okt
    have HIt := hid (fun w => by have := refid_any t.a t.b t.c w; rw [show idOk t.a t.b t.c = true from okt] at this; exact this)
    have HB0 := hid (Below.refl wc.heap.size wc)
    obtain ⟨k0,k1,k2,k3,k4,k5,k6,k7,k8,k9,k10,k11,k12,k13,k14,k15,k16,k17,k18,k19⟩ := sg_cells HX4.out
    have z0 : wc.cell? ⟨Z,0,none⟩ = some (.int .i64 0) := by rw [cell_of_row _ _ _ _ _ _ HZ4.out]; rfl
    have z1 : wc.cell? ⟨Z,1,none⟩ = some (.int .u32 0) := by rw [cell_of_row _ _ _ _ _ _ HZ4.out]; rfl
    have z2 : wc.cell? ⟨Z,2,none⟩ = some (.int .u64 0) := by rw [cell_of_row _ _ _ _ _ _ HZ4.out]; rfl
    go_wp2_with fail
    refine (HIf.out _).mono ?_
    rintro e w50 ⟨rfl,hb⟩
    have HX50 := hid ((hb.block _ (blk_lt HX4.out)).trans HX4.out)
    have HZ50 := hid ((hb.block _ (blk_lt HZ4.out)).trans HZ4.out)
    have HB1 := hid (HB0.out.trans (hb.mono HB0.out.size))
    clear hb k0 k1 k2 k3 k4 k5 k6 k7 k8 k9 k10 k11 k12 k13 k14 k15 k16 k17 k18 k19 z0 z1 z2
    obtain ⟨k0,k1,k2,k3,k4,k5,k6,k7,k8,k9,k10,k11,k12,k13,k14,k15,k16,k17,k18,k19⟩ := sg_cells HX50.out
    have z0 : w50.cell? ⟨Z,0,none⟩ = some (.int .i64 0) := by rw [cell_of_row _ _ _ _ _ _ HZ50.out]; rfl
    have z1 : w50.cell? ⟨Z,1,none⟩ = some (.int .u32 0) := by rw [cell_of_row _ _ _ _ _ _ HZ50.out]; rfl
    have z2 : w50.cell? ⟨Z,2,none⟩ = some (.int .u64 0) := by rw [cell_of_row _ _ _ _ _ _ HZ50.out]; rfl
    go_wp2_with fail
    refine (HIt.out _).mono ?_
    rintro e w51 ⟨rfl,hb⟩
    have HX51 := hid ((hb.block _ (blk_lt HX50.out)).trans HX50.out)
    have HZ51 := hid ((hb.block _ (blk_lt HZ50.out)).trans HZ50.out)
    have HB2 := hid (HB1.out.trans (hb.mono HB1.out.size))
    clear hb k0 k1 k2 k3 k4 k5 k6 k7 k8 k9 k10 k11 k12 k13 k14 k15 k16 k17 k18 k19 z0 z1 z2
    obtain ⟨k0,k1,k2,k3,k4,k5,k6,k7,k8,k9,k10,k11,k12,k13,k14,k15,k16,k17,k18,k19⟩ := sg_cells HX51.out
    have z0 : w51.cell? ⟨Z,0,none⟩ = some (.int .i64 0) := by rw [cell_of_row _ _ _ _ _ _ HZ51.out]; rfl
    have z1 : w51.cell? ⟨Z,1,none⟩ = some (.int .u32 0) := by rw [cell_of_row _ _ _ _ _ _ HZ51.out]; rfl
    have z2 : w51.cell? ⟨Z,2,none⟩ = some (.int .u64 0) := by rw [cell_of_row _ _ _ _ _ _ HZ51.out]; rfl
    go_wp2_with fail
    go_meet
    exact ⟨rfl,HB2.out⟩
   ·rw [ids_of hp (f := f) (t := t) (r := r)] at hib
    have hib2 : f.ok = true ∧ t.ok = true ∧ r.ok = true := by simpa [zero_no] using hib
    obtain ⟨okf,okt,okr⟩ := hib2
    clear hf ht hr of ot or hib
    obtain ⟨pf,qf⟩ := ok_pos okf
    have HIf := hid (fun w => by have := refid_any f.a f.b f.c w; rw [show idOk f.a f.b f.c = true from okf] at this; exact this)
    obtain ⟨pt,qt⟩ := ok_pos okt
    have HIt := hid (fun w => by have := refid_any t.a t.b t.c w; rw [show idOk t.a t.b t.c = true from okt] at this; exact this)
    obtain ⟨pr,qr⟩ := ok_pos okr
    have HIr := hid (fun w => by have := refid_any r.a r.b r.c w; rw [show idOk r.a r.b r.c = true from okr] at this; exact this)
    have HB0 := hid (Below.refl wc.heap.size wc)
    obtain ⟨k0,k1,k2,k3,k4,k5,k6,k7,k8,k9,k10,k11,k12,k13,k14,k15,k16,k17,k18,k19⟩ := sg_cells HX4.out
    have z0 : wc.cell? ⟨Z,0,none⟩ = some (.int .i64 0) := by rw [cell_of_row _ _ _ _ _ _ HZ4.out]; rfl
    have z1 : wc.cell? ⟨Z,1,none⟩ = some (.int .u32 0) := by rw [cell_of_row _ _ _ _ _ _ HZ4.out]; rfl
    have z2 : wc.cell? ⟨Z,2,none⟩ = some (.int .u64 0) := by rw [cell_of_row _ _ _ _ _ _ HZ4.out]; rfl
    go_wp2_with fail
    refine (HIf.out _).mono ?_
    rintro e w50 ⟨rfl,hb⟩
    have HX50 := hid ((hb.block _ (blk_lt HX4.out)).trans HX4.out)
    have HZ50 := hid ((hb.block _ (blk_lt HZ4.out)).trans HZ4.out)
    have HB1 := hid (HB0.out.trans (hb.mono HB0.out.size))
    clear hb k0 k1 k2 k3 k4 k5 k6 k7 k8 k9 k10 k11 k12 k13 k14 k15 k16 k17 k18 k19 z0 z1 z2
    obtain ⟨k0,k1,k2,k3,k4,k5,k6,k7,k8,k9,k10,k11,k12,k13,k14,k15,k16,k17,k18,k19⟩ := sg_cells HX50.out
    have z0 : w50.cell? ⟨Z,0,none⟩ = some (.int .i64 0) := by rw [cell_of_row _ _ _ _ _ _ HZ50.out]; rfl
    have z1 : w50.cell? ⟨Z,1,none⟩ = some (.int .u32 0) := by rw [cell_of_row _ _ _ _ _ _ HZ50.out]; rfl
    have z2 : w50.cell? ⟨Z,2,none⟩ = some (.int .u64 0) := by rw [cell_of_row _ _ _ _ _ _ HZ50.out]; rfl
    go_wp2_with fail
    refine (HIt.out _).mono ?_
    rintro e w51 ⟨rfl,hb⟩
    have HX51 := hid ((hb.block _ (blk_lt HX50.out)).trans HX50.out)
    have HZ51 := hid ((hb.block _ (blk_lt HZ50.out)).trans HZ50.out)
    have HB2 := hid (HB1.out.trans (hb.mono HB1.out.size))
    clear hb k0 k1 k2 k3 k4 k5 k6 k7 k8 k9 k10 k11 k12 k13 k14 k15 k16 k17 k18 k19 z0 z1 z2
    obtain ⟨k0,k1,k2,k3,k4,k5,k6,k7,k8,k9,k10,k11,k12,k13,k14,k15,k16,k17,k18,k19⟩ := sg_cells HX51.out
    have z0 : w51.cell? ⟨Z,0,none⟩ = some (.int .i64 0) := by rw [cell_of_row _ _ _ _ _ _ HZ51.out]; rfl
    have z1 : w51.cell? ⟨Z,1,none⟩ = some (.int .u32 0) := by rw [cell_of_row _ _ _ _ _ _ HZ51.out]; rfl
    have z2 : w51.cell? ⟨Z,2,none⟩ = some (.int .u64 0) := by rw [cell_of_row _ _ _ _ _ _ HZ51.out]; rfl
    go_wp2_with fail
    refine (HIr.out _).mono ?_
    rintro e w52 ⟨rfl,hb⟩
    have HX52 := hid ((hb.block _ (blk_lt HX51.out)).trans HX51.out)
    have HZ52 := hid ((hb.block _ (blk_lt HZ51.out)).trans HZ51.out)
    have HB3 := hid (HB2.out.trans (hb.mono HB2.out.size))
    clear hb k0 k1 k2 k3 k4 k5 k6 k7 k8 k9 k10 k11 k12 k13 k14 k15 k16 k17 k18 k19 z0 z1 z2
    obtain ⟨k0,k1,k2,k3,k4,k5,k6,k7,k8,k9,k10,k11,k12,k13,k14,k15,k16,k17,k18,k19⟩ := sg_cells HX52.out
    have z0 : w52.cell? ⟨Z,0,none⟩ = some (.int .i64 0) := by rw [cell_of_row _ _ _ _ _ _ HZ52.out]; rfl
    have z1 : w52.cell? ⟨Z,1,none⟩ = some (.int .u32 0) := by rw [cell_of_row _ _ _ _ _ _ HZ52.out]; rfl
    have z2 : w52.cell? ⟨Z,2,none⟩ = some (.int .u64 0) := by rw [cell_of_row _ _ _ _ _ _ HZ52.out]; rfl
    go_wp2_with fail
    go_meet
    exact ⟨rfl,HB3.out⟩
   ·rw [ids_of hp (f := f) (t := t) (r := r)] at hib
    obtain rfl := ht (by rw [hp])
    have hib2 : f.ok = true ∧ r.ok = true := by simpa [zero_no] using hib
    obtain ⟨okf,okr⟩ := hib2
    clear hf ht hr of ot or hib
    obtain ⟨pf,qf⟩ := ok_pos okf
    have HIf := hid (fun w => by have := refid_any f.a f.b f.c w; rw [show idOk f.a f.b f.c = true from okf] at this; exact this)
    obtain ⟨pr,qr⟩ := ok_pos okr
    have HIr := hid (fun w => by have := refid_any r.a r.b r.c w; rw [show idOk r.a r.b r.c = true from okr] at this; exact this)
    have HB0 := hid (Below.refl wc.heap.size wc)
    obtain ⟨k0,k1,k2,k3,k4,k5,k6,k7,k8,k9,k10,k11,k12,k13,k14,k15,k16,k17,k18,k19⟩ := sg_cells HX4.out
    have z0 : wc.cell? ⟨Z,0,none⟩ = some (.int .i64 0) := by rw [cell_of_row _ _ _ _ _ _ HZ4.out]; rfl
    have z1 : wc.cell? ⟨Z,1,none⟩ = some (.int .u32 0) := by rw [cell_of_row _ _ _ _ _ _ HZ4.out]; rfl
    have z2 : wc.cell? ⟨Z,2,none⟩ = some (.int .u64 0) := by rw [cell_of_row _ _ _ _ _ _ HZ4.out]; rfl
    go_wp2_with fail
    refine (HIf.out _).mono ?_
    rintro e w50 ⟨rfl,hb⟩
    have HX50 := hid ((hb.block _ (blk_lt HX4.out)).trans HX4.out)
    have HZ50 := hid ((hb.block _ (blk_lt HZ4.out)).trans HZ4.out)
    have HB1 := hid (HB0.out.trans (hb.mono HB0.out.size))
    clear hb k0 k1 k2 k3 k4 k5 k6 k7 k8 k9 k10 k11 k12 k13 k14 k15 k16 k17 k18 k19 z0 z1 z2
    obtain ⟨k0,k1,k2,k3,k4,k5,k6,k7,k8,k9,k10,k11,k12,k13,k14,k15,k16,k17,k18,k19⟩ := sg_cells HX50.out
    have z0 : w50.cell? ⟨Z,0,none⟩ = some (.int .i64 0) := by rw [cell_of_row _ _ _ _ _ _ HZ50.out]; rfl
    have z1 : w50.cell? ⟨Z,1,none⟩ = some (.int .u32 0) := by rw [cell_of_row _ _ _ _ _ _ HZ50.out]; rfl
    have z2 : w50.cell? ⟨Z,2,none⟩ = some (.int .u64 0) := by rw [cell_of_row _ _ _ _ _ _ HZ50.out]; rfl
    go_wp2_with fail
    refine (HIr.out _).mono ?_
    rintro e w51 ⟨rfl,hb⟩
    have HX51 := hid ((hb.block _ (blk_lt HX50.out)).trans HX50.out)
    have HZ51 := hid ((hb.block _ (blk_lt HZ50.out)).trans HZ50.out)
    have HB2 := hid (HB1.out.trans (hb.mono HB1.out.size))
    clear hb k0 k1 k2 k3 k4 k5 k6 k7 k8 k9 k10 k11 k12 k13 k14 k15 k16 k17 k18 k19 z0 z1 z2
    obtain ⟨k0,k1,k2,k3,k4,k5,k6,k7,k8,k9,k10,k11,k12,k13,k14,k15,k16,k17,k18,k19⟩ := sg_cells HX51.out
    have z0 : w51.cell? ⟨Z,0,none⟩ = some (.int .i64 0) := by rw [cell_of_row _ _ _ _ _ _ HZ51.out]; rfl
    have z1 : w51.cell? ⟨Z,1,none⟩ = some (.int .u32 0) := by rw [cell_of_row _ _ _ _ _ _ HZ51.out]; rfl
    have z2 : w51.cell? ⟨Z,2,none⟩ = some (.int .u64 0) := by rw [cell_of_row _ _ _ _ _ _ HZ51.out]; rfl
    go_wp2_with fail
    go_meet
    exact ⟨rfl,HB2.out⟩
   ·rw [ids_of hp (f := f) (t := t) (r := r)] at hib
    obtain rfl := hf (by rw [hp])
    have hib2 : t.ok = true ∧ r.ok = true := by simpa [zero_no] using hib
    obtain ⟨okt,okr⟩ := hib2
    clear hf ht hr of ot or hib
    obtain ⟨pt,qt⟩ := ok_pos okt
    have HIt := hid (fun w => by have := refid_any t.a t.b t.c w; rw [show idOk t.a t.b t.c = true from okt] at this; exact this)
    obtain ⟨pr,qr⟩ := ok_pos okr
    have HIr := hid (fun w => by have := refid_any r.a r.b r.c w; rw [show idOk r.a r.b r.c = true from okr] at this; exact this)
    have HB0 := hid (Below.refl wc.heap.size wc)
    obtain ⟨k0,k1,k2,k3,k4,k5,k6,k7,k8,k9,k10,k11,k12,k13,k14,k15,k16,k17,k18,k19⟩ := sg_cells HX4.out
    have z0 : wc.cell? ⟨Z,0,none⟩ = some (.int .i64 0) := by rw [cell_of_row _ _ _ _ _ _ HZ4.out]; rfl
    have z1 : wc.cell? ⟨Z,1,none⟩ = some (.int .u32 0) := by rw [cell_of_row _ _ _ _ _ _ HZ4.out]; rfl
    have z2 : wc.cell? ⟨Z,2,none⟩ = some (.int .u64 0) := by rw [cell_of_row _ _ _ _ _ _ HZ4.out]; rfl
    go_wp2_with fail
    refine (HIt.out _).mono ?_
    rintro e w50 ⟨rfl,hb⟩
    have HX50 := hid ((hb.block _ (blk_lt HX4.out)).trans HX4.out)
    have HZ50 := hid ((hb.block _ (blk_lt HZ4.out)).trans HZ4.out)
    have HB1 := hid (HB0.out.trans (hb.mono HB0.out.size))
    clear hb k0 k1 k2 k3 k4 k5 k6 k7 k8 k9 k10 k11 k12 k13 k14 k15 k16 k17 k18 k19 z0 z1 z2
    obtain ⟨k0,k1,k2,k3,k4,k5,k6,k7,k8,k9,k10,k11,k12,k13,k14,k15,k16,k17,k18,k19⟩ := sg_cells HX50.out
    have z0 : w50.cell? ⟨Z,0,none⟩ = some (.int .i64 0) := by rw [cell_of_row _ _ _ _ _ _ HZ50.out]; rfl
    have z1 : w50.cell? ⟨Z,1,none⟩ = some (.int .u32 0) := by rw [cell_of_row _ _ _ _ _ _ HZ50.out]; rfl
    have z2 : w50.cell? ⟨Z,2,none⟩ = some (.int .u64 0) := by rw [cell_of_row _ _ _ _ _ _ HZ50.out]; rfl
    go_wp2_with fail
    refine (HIr.out _).mono ?_
    rintro e w51 ⟨rfl,hb⟩
    have HX51 := hid ((hb.block _ (blk_lt HX50.out)).trans HX50.out)
    have HZ51 := hid ((hb.block _ (blk_lt HZ50.out)).trans HZ50.out)
    have HB2 := hid (HB1.out.trans (hb.mono HB1.out.size))
    clear hb k0 k1 k2 k3 k4 k5 k6 k7 k8 k9 k10 k11 k12 k13 k14 k15 k16 k17 k18 k19 z0 z1 z2
    obtain ⟨k0,k1,k2,k3,k4,k5,k6,k7,k8,k9,k10,k11,k12,k13,k14,k15,k16,k17,k18,k19⟩ := sg_cells HX51.out
    have z0 : w51.cell? ⟨Z,0,none⟩ = some (.int .i64 0) := by rw [cell_of_row _ _ _ _ _ _ HZ51.out]; rfl
    have z1 : w51.cell? ⟨Z,1,none⟩ = some (.int .u32 0) := by rw [cell_of_row _ _ _ _ _ _ HZ51.out]; rfl
    have z2 : w51.cell? ⟨Z,2,none⟩ = some (.int .u64 0) := by rw [cell_of_row _ _ _ _ _ _ HZ51.out]; rfl
    go_wp2_with fail
    go_meet
    exact ⟨rfl,HB2.out⟩
  case rest =>
   obtain ⟨rfl,hb5⟩ := hcut
   have HX5 := hid ((hb5.block _ (blk_lt HX4.out)).trans HX4.out)
   have HB5 := hid (HB4.out.trans (hb5.mono (Nat.le_of_lt (blk_lt HX4.out))))
   have HRp5 := hid (Rep.keep (fun b e hb2 => hb5.block b hb2) _ _ HRp4.out)
   have HZ5 := hid ((hb5.block _ (blk_lt HZ4.out)).trans HZ4.out)
   clear hb5 HX4 HZ4 HB4 HRp4 of ot or hf ht hr hpb
   go_wp2_with fail
   refine (HAll.out 120 (by decide) _).mono ?_
   rintro e w6 ⟨rfl,rfl⟩
   rw [HV5.out]
   obtain ⟨k0,k1,k2,k3,k4,k5,k6,k7,k8,k9,k10,k11,k12,k13,k14,k15,k16,k17,k18,k19⟩ := sg_cells HX5.out
   cases hX : hasX k
   ·have hx := HX0.out hX
    have HYes := hid (show wholeB k f t r x n = true by rw [HWh.out,HPb.out,hX]; rfl)
    have he := HRp5.out
    rw [hx] at he
    have he := rep_empty he
    have h0 : x.hd = {} := by rw [hx]; rfl
    rw [h0] at k10 k11 k12 k13 k14 k15 k16
    have g1 : Value.slice a1 m1 c1 = nilV := by have := congrArg (fun q : Array Value => q[7]?) he; simpa using this
    have g2 : Value.slice a2 m2 c2 = nilV := by have := congrArg (fun q : Array Value => q[8]?) he; simpa using this
    rw [g1] at k17
    rw [g2] at k18
    have k17' : w6.cell? ⟨B,17,none⟩ = some (.slice none 0 0) := k17
    have k18' : w6.cell? ⟨B,18,none⟩ = some (.slice none 0 0) := k18
    clear k17 k18 he g1 g2
    have z0 : w6.cell? ⟨Z,0,none⟩ = some (.int .i64 0) := by rw [cell_of_row _ _ _ _ _ _ HZ5.out]; rfl
    have z1 : w6.cell? ⟨Z,1,none⟩ = some (.int .u32 0) := by rw [cell_of_row _ _ _ _ _ _ HZ5.out]; rfl
    have z2 : w6.cell? ⟨Z,2,none⟩ = some (.int .u64 0) := by rw [cell_of_row _ _ _ _ _ _ HZ5.out]; rfl
    go_wp2_with fail
    go_ret
    exact ⟨ret_bool HYes.out.symm,HBw.out ▸ HB5.out⟩
   ·obtain ⟨hg1,hg2⟩ := HG0.out hX
    have HG1 := hid hg1
    have HG2 := hid hg2
    have hll : x.l.length ≤ 1000000 := good_len hg1
    have HSh := hid (show wholeB k f t r x n = shapedB k x by rw [HWh.out,HPb.out,hX]; simp)
    clear hg1 hg2
    go_wp2_with fail
    refine (rcheck_good x HG1.out HG2.out _ _ w6 HRp5.out).mono ?_
    rintro e w7 ⟨rfl,hb7⟩
    have HB7 := hid (HB5.out.trans (hb7.mono (Nat.le_of_lt (blk_lt HX5.out))))
    have HRp7 := hid (Rep.keep (fun b e hb2 => hb7.block b hb2) _ _ HRp5.out)
    have hx7 := (hb7.block _ (blk_lt HX5.out)).trans HX5.out
    have hl7 := blk_lt hx7
    have HL7 := hid (Nat.le_of_lt hl7)
    clear hb7 k0 k1 k2 k3 k4 k5 k6 k7 k8 k9 k10 k11 k12 k13 k14 k15 k16 k17 k18 k19 HX5 HB5 HRp5 hl7
    obtain ⟨k0,k1,k2,k3,k4,k5,k6,k7,k8,k9,k10,k11,k12,k13,k14,k15,k16,k17,k18,k19⟩ := sg_cells hx7
    clear hx7
    go_wp2_with fail
    refine (shapedD_any k x _ _ w7 HRp7.out hll).mono ?_
    rintro e w8 ⟨rfl,hb8⟩
    have HB8 := hid (HB7.out.trans (hb8.mono HL7.out))
    clear hb8
    go_wp2_with fail
    go_ret
    exact ⟨ret_bool HSh.out.symm,HBw.out ▸ HB8.out⟩
end Go.Proofs.Ytgadkiljnebicaa
