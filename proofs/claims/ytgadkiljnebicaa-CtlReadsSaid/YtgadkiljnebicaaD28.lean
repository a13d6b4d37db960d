/- Several texts in one. -/
import Derived.Test.YtgadkiljnebicaaD25
import Derived.StillTailTactics
namespace Go.Proofs.Ytgadkiljnebicaa
open Go.Lib (hid)
open Go.RowKit
set_option maxRecDepth 100000
attribute [local go_sem] run_store_complex
set_option maxHeartbeats 40000000 in
theorem flat_kind (h g : Hd) (hk : ¬ h.kind = g.kind) (hf : HdFin h) (v1 v2 : Value) (a1 a2 : Option Addr) (m1 m2 c1 c2 : Nat) (F1 F2 : Nat → Prop) (w : World) (h1 : Row w F1 5 1 v1 h.b.length (h.b.map cellB)) (h2 : Row w F2 5 1 v2 g.b.length (g.b.map cellB)) :
  Calls Try.prog 38 #[.agg (hdC h v1 (.slice a1 m1 c1)),.agg (hdC g v2 (.slice a2 m2 c2))] w (RB w (.bool false)) := by
 have HB := hid (((Below.refl w.heap.size w).alloc (Nat.le_refl _) (.cells (hdC h v1 (.slice a1 m1 c1)) 31)).alloc (by simp) (.cells (hdC g v2 (.slice a2 m2 c2)) 31))
 obtain ⟨b1,d1,rfl⟩ := row_slice h1.1
 obtain ⟨b2,d2,rfl⟩ := row_slice h2.1
 obtain ⟨f1,f2⟩ := hf
 have f3 : (FloatKind.f64.format.order h.re h.re != some .eq) = false := by rw [bne,f1]; rfl
 have f4 : (FloatKind.f64.format.order h.im h.im != some .eq) = false := by rw [bne,f2]; rfl
 have hkb : (h.kind == g.kind) = false := beq_eq_false_iff_ne.2 hk
 obtain ⟨z,hz⟩ : ∃ z : Bool,(FloatKind.f64.format.order h.re g.re == some .eq) = z := ⟨_,rfl⟩
 obtain ⟨y,hy⟩ : ∃ z : Bool,(FloatKind.f64.format.order h.im g.im == some .eq) = z := ⟨_,rfl⟩
 have hkd : decide (h.kind = g.kind) = false := decide_eq_false hk
 clear h1 h2
 obtain ⟨k,n0,re,im,s,node,boot,idn,b⟩ := h
 obtain ⟨k',n0',re',im',s',node',boot',idn',b'⟩ := g
 generalize b.length = bl at *
 generalize b'.length = bl' at *
 simp only at *
 go_enter Try.func38,Try.ntmps38
 go_upto_region 1 with fail
 go_cut [2,3,5,6] from 7 to 56 (fun t2 t3 t5 t6 wx => t2 = .pointer (some ⟨w.heap.size,0,none⟩) ∧ t3 = .pointer (some ⟨w.heap.size + 1,0,none⟩) ∧ (∃ b : Bool,t5 = .bool b) ∧ t6 = undef ∧ wx = ((w.alloc (.cells (hdC ⟨k,n0,re,im,s,node,boot,idn,b⟩ (.slice b1 bl d1) (.slice a1 m1 c1)) 31)).alloc (.cells (hdC ⟨k',n0',re',im',s',node',boot',idn',b'⟩ (.slice b2 bl' d2) (.slice a2 m2 c2)) 31)))
 case first =>
  cases z
  all_goals
   go_wp2_with fail
   go_meet
   exact ⟨rfl,rfl,⟨_,rfl⟩,rfl,rfl⟩
 obtain ⟨rfl,rfl,⟨zz,rfl⟩,rfl,rfl⟩ := hcut
 clear hz
 go_upto_region 2 with fail
 go_cut [2,3,5,6] from 32 to 56 (fun t2 t3 t5 t6 wx => t2 = .pointer (some ⟨w.heap.size,0,none⟩) ∧ t3 = .pointer (some ⟨w.heap.size + 1,0,none⟩) ∧ t5 = .bool zz ∧ (∃ b : Bool,t6 = .bool b) ∧ wx = ((w.alloc (.cells (hdC ⟨k,n0,re,im,s,node,boot,idn,b⟩ (.slice b1 bl d1) (.slice a1 m1 c1)) 31)).alloc (.cells (hdC ⟨k',n0',re',im',s',node',boot',idn',b'⟩ (.slice b2 bl' d2) (.slice a2 m2 c2)) 31)))
 case first =>
  cases y
  all_goals
   go_wp2_with fail
   go_meet
   exact ⟨rfl,rfl,rfl,⟨_,rfl⟩,rfl⟩
 obtain ⟨rfl,rfl,rfl,⟨yy,rfl⟩,rfl⟩ := hcut
 clear hy f1 f2 f3 f4
 have x0 : ((w.alloc (.cells (hdC ⟨k,n0,re,im,s,node,boot,idn,b⟩ (.slice b1 bl d1) (.slice a1 m1 c1)) 31)).alloc (.cells (hdC ⟨k',n0',re',im',s',node',boot',idn',b'⟩ (.slice b2 bl' d2) (.slice a2 m2 c2)) 31)).cell? ⟨w.heap.size,0,none⟩ = some (.int .i64 k) := (NineAt.of_block al2_fst).1
 have y0 : ((w.alloc (.cells (hdC ⟨k,n0,re,im,s,node,boot,idn,b⟩ (.slice b1 bl d1) (.slice a1 m1 c1)) 31)).alloc (.cells (hdC ⟨k',n0',re',im',s',node',boot',idn',b'⟩ (.slice b2 bl' d2) (.slice a2 m2 c2)) 31)).cell? ⟨w.heap.size + 1,0,none⟩ = some (.int .i64 k') := (NineAt.of_block (heap_new_at (by simp))).1
 generalize ((w.alloc (.cells (hdC ⟨k,n0,re,im,s,node,boot,idn,b⟩ (.slice b1 bl d1) (.slice a1 m1 c1)) 31)).alloc (.cells (hdC ⟨k',n0',re',im',s',node',boot',idn',b'⟩ (.slice b2 bl' d2) (.slice a2 m2 c2)) 31)) = W2 at *
 go_wp2_with fail
 go_ret
 exact ⟨rfl,HB.out⟩
set_option maxHeartbeats 4000000 in
theorem same_gen (t1 t2 : Tm) (hfin : ∀ x ∈ flatT t1,HdFin x.1 ∧ x.1.b.length ≤ 9223372036854775807) (hfin2 : ∀ x ∈ flatT t2,HdFin x.1) (hlen : (flatT t1).length ≤ 5000) (hl2 : (flatT t2).length = (flatT t1).length) (hdiff : ∀ (i : Nat) (h1 : i < (flatT t1).length) (h2 : i < (flatT t2).length),(flatT t1)[i] = (flatT t2)[i] ∨ ¬ (flatT t1)[i].1.kind = (flatT t2)[i].1.kind) (b : Bool) (hb : b = true ↔ flatT t1 = flatT t2) (F1 F2 : Nat → Prop) (c1 c2 : Array Value) (w : World) (h1 : Rep w F1 t1 c1) (h2 : Rep w F2 t2 c2) (hF1 : ∀ b,F1 b → b < w.heap.size) (hF2 : ∀ b,F2 b → b < w.heap.size) :
  Calls Try.prog 17 #[.agg c1,.agg c2] w (RB w (.bool b)) := by
 have HFin2 := hid hfin2
 have HL2 := hid hl2
 have HDf := hid hdiff
 have HBb := hid hb
 have HFin := hid hfin
 have HLen := hid hlen
 have HF1 := hid hF1
 have HF2 := hid hF2
 have hB0 := (((Below.refl w.heap.size w).alloc (Nat.le_refl _) (.cells c1 31)).alloc (by simp) (.cells c2 31))
 have HR1 := hid (Rep.keep (fun b _ hb => hB0.block b hb) _ _ h1)
 have HR2 := hid (Rep.keep (fun b _ hb => hB0.block b hb) _ _ h2)
 have HB0 := hid hB0
 obtain ⟨q0,q1,q2,q3,q4,q5,q6,q7,q8,q9,q10,q11,q12,q13,rfl,_⟩ := rep_nine h1
 obtain ⟨r0,r1,r2,r3,r4,r5,r6,r7,r8,r9,r10,r11,r12,r13,rfl,_⟩ := rep_nine h2
 clear hfin hlen h1 h2 hF1 hF2 hB0 hfin2 hl2 hdiff hb
 go_enter Try.func17,Try.ntmps17
 go_wp2_with fail
 have HX := hid (al2_fst (w5 := w) (o1 := #[.int .i64 q0,.int .i64 q1,.complex .f64 q2 q3,.string q4,.int .i64 q5,.int .u32 q6,.int .u64 q7,.slice q8 q9 q10,.slice q11 q12 q13]) (o2 := #[.int .i64 r0,.int .i64 r1,.complex .f64 r2 r3,.string r4,.int .i64 r5,.int .u32 r6,.int .u64 r7,.slice r8 r9 r10,.slice r11 r12 r13]) (t1 := 31) (t2 := 31))
 have hY : ((w.alloc (.cells #[.int .i64 q0,.int .i64 q1,.complex .f64 q2 q3,.string q4,.int .i64 q5,.int .u32 q6,.int .u64 q7,.slice q8 q9 q10,.slice q11 q12 q13] 31)).alloc (.cells #[.int .i64 r0,.int .i64 r1,.complex .f64 r2 r3,.string r4,.int .i64 r5,.int .u32 r6,.int .u64 r7,.slice r8 r9 r10,.slice r11 r12 r13] 31)).heap[w.heap.size + 1]? = some (.cells #[.int .i64 r0,.int .i64 r1,.complex .f64 r2 r3,.string r4,.int .i64 r5,.int .u32 r6,.int .u64 r7,.slice r8 r9 r10,.slice r11 r12 r13] 31 (0,0)) := heap_new_at (by simp)
 have HY := hid hY
 clear hY
 generalize (w.alloc (.cells #[.int .i64 q0,.int .i64 q1,.complex .f64 q2 q3,.string q4,.int .i64 q5,.int .u32 q6,.int .u64 q7,.slice q8 q9 q10,.slice q11 q12 q13] 31)).alloc (.cells #[.int .i64 r0,.int .i64 r1,.complex .f64 r2 r3,.string r4,.int .i64 r5,.int .u32 r6,.int .u64 r7,.slice r8 r9 r10,.slice r11 r12 r13] 31) = w2 at *
 refine (all_any _ t1 (Nat.le_refl _) 5000 5000 F1 _ w2 rfl HR1.out (fun b e => Nat.lt_of_lt_of_le (HF1.out b e) HB0.out.size) HLen.out (Nat.le_refl _)).mono ?_
 rintro e w3 ⟨a1,d1,ps1,rfl,ho1,hp1,hb3⟩
 have HO1 := hid ho1
 have HP1 := hid hp1
 have HB3 := hid hb3
 have HR2' := hid (Rep.keep (fun b _ hb => hb3.block b hb) _ _ HR2.out)
 obtain ⟨y0,y1,y2,y3,y4,y5,y6,y7,y8⟩ := NineAt.of_block ((hb3.block _ (blk_lt HY.out)).trans HY.out)
 clear ho1 hp1 hb3 HR1 HR2 HX HY
 go_wp2_with fail
 clear y0 y1 y2 y3 y4 y5 y6 y7 y8
 refine (all_any _ t2 (Nat.le_refl _) 5000 5000 F2 _ w3 rfl HR2'.out (fun b e => Nat.lt_of_lt_of_le (HF2.out b e) (Nat.le_trans HB0.out.size HB3.out.size)) (by rw [HL2.out]; exact HLen.out) (Nat.le_refl _)).mono ?_
 rintro e w4 ⟨a2,d2,ps2,rfl,ho2,hp2,hb4⟩
 have HO2 := hid ho2
 have HP2 := hid hp2
 have HB4 := hid hb4
 have HO1' := hid (row_same (w' := w4) HO1.out (fun b e hb => hb4.block b hb))
 have HP1' := hid (PartsOk.keep (fun b _ hb => hb4.block b hb) HP1.out)
 have HBw := hid (HB0.out.trans ((HB3.out.mono HB0.out.size).trans (hb4.mono (Nat.le_trans HB0.out.size HB3.out.size))))
 clear ho2 hp2 hb4 HO1 HP1 HR2' HB0 HB3 HB4
 obtain ⟨ys,hys⟩ : ∃ ys,flatT t2 = ys := ⟨_,rfl⟩
 obtain ⟨xs,hxs⟩ : ∃ xs,flatT t1 = xs := ⟨_,rfl⟩
 have HDf : Hid (∀ (i : Nat) (h1 : i < xs.length) (h2 : i < ys.length),xs[i] = ys[i] ∨ ¬ xs[i].1.kind = ys[i].1.kind) := hid (by subst hxs; subst hys; exact HDf.out)
 have HBb : Hid (b = true ↔ xs = ys) := hid (by subst hxs; subst hys; exact HBb.out)
 rw [hys] at HFin2 HP2 HO2 HL2 ⊢
 rw [hxs] at HFin HLen HP1' HO1' HL2 ⊢
 rw [HL2.out] at HO2 ⊢
 clear hxs hys
 have hl5 : xs.length ≤ 5000 := HLen.out
 have hne : ((xs.length : Int) != (xs.length : Int)) = false := by simp
 go_wp2_with fail
 clear hne
 go_loopw [7] (fun t7 wr => ∃ i : Nat,i ≤ xs.length ∧ t7 = .int .i64 i ∧ xs.take i = ys.take i ∧ Below w4.heap.size w4 wr) (fun t7 _ => xs.length - (intOf t7).toNat)
 case atStart => exact ⟨0,Nat.zero_le _,rfl,rfl,Below.refl _ _⟩
 case round =>
  obtain ⟨i,hi,rfl,htk,hB⟩ := hrel
  have HTk := hid htk
  clear htk
  have HB := hid hB
  clear hB
  by_cases hlt : i < xs.length
  ·obtain ⟨g1,cap1,hv1,hg1,hgl1,bv1,e1,n1,hr1,h91⟩ := owns_nine HO1'.out HP1'.out hlt
   have hlt2 : i < ys.length := by rw [HL2.out]; exact hlt
   obtain ⟨g2,cap2,hv2,hg2,hgl2,bv2,e2,n2,hr2,h92⟩ := owns_nine (xs := ys) (by rw [HL2.out]; exact HO2.out) HP2.out hlt2
   obtain ⟨hf,hbl⟩ := HFin.out _ (List.getElem_mem hlt)
   have h91' := h91.block (HB.out.block g1 hgl1)
   have h92' := h92.block (HB.out.block g2 hgl2)
   have HRow1 := hid (hr1.keep (fun b _ hb => HB.out.block b hb))
   have HRow2 := hid (hr2.keep (fun b _ hb => HB.out.block b hb))
   have hdf := HDf.out i hlt hlt2
   have htk : xs[i] = ys[i] → xs.take (i + 1) = ys.take (i + 1) := fun e => by rw [List.take_succ_eq_append_getElem hlt,List.take_succ_eq_append_getElem hlt2,HTk.out,e]
   have hne : ¬ xs[i] = ys[i] → b = false := fun e => by
    cases hb : b
    ·rfl
    ·have h3 := HBb.out.1 hb
     subst h3
     exact absurd rfl e
   rw [HL2.out] at hv2
   cases hv1
   cases hv2
   obtain ⟨x1,y1,rfl⟩ := row_slice hr1.1
   obtain ⟨x2,y2,rfl⟩ := row_slice hr2.1
   have hi0 : (0 : Int) ≤ (i : Int) := by omega
   have hi1 : (i : Int) < (xs.length : Int) := by omega
   have hwi : IntKind.i64.wrap ((i : Int) + 1) = (i : Int) + 1 := IntWalk.i64_in _ (by omega)
   clear h91 h92 hg1 hg2 hgl1 hgl2 hr1 hr2
   generalize xs[i] = x at *
   generalize ys[i] = y at *
   rcases hdf with e | e
   ·subst e
    have HFl := hid (flat_same x.1 hf hbl (.slice x1 x.1.b.length y1) (.slice x2 x.1.b.length y2) e1 e2 x.2 n1 n2 F1 F2)
    have HTk2 := hid (htk rfl)
    clear hf hbl htk hne
    obtain ⟨⟨k,n,re,im,s,node,boot,idn,bb⟩,m⟩ := x
    simp only at *
    obtain ⟨k0,k1,k2,k3,k4,k5,k6,k7,k8⟩ := h91'
    obtain ⟨l0,l1,l2,l3,l4,l5,l6,l7,l8⟩ := h92'
    go_wp2_with fail
    go_still_tail 8,(by kernel_rfl)
    change wpList _ _ _ _ _ wr.drew
    have HF2 := hid (HFl.out wr.drew HRow1.out HRow2.out)
    clear k0 k1 k2 k3 k4 k5 k6 k7 k8 l0 l1 l2 l3 l4 l5 l6 l7 l8 HFl
    go_wp2_with (refine HF2.out.mono ?_; rintro e w5 ⟨rfl,hb⟩; have HB5 := hid (HB.out.drew.trans (hb.mono (show w4.heap.size ≤ wr.drew.heap.size from HB.out.size))); clear hb)
    go_round
    case rel => exact ⟨i + 1,by omega,by go_num,HTk2.out,HB5.out⟩
    case measure => simp [intOf]; omega
   ·have HFl := hid (flat_kind x.1 y.1 e hf (.slice x1 x.1.b.length y1) (.slice x2 y.1.b.length y2) e1 e2 x.2 y.2 n1 n2 F1 F2)
    have hbf := hne (fun e2 => e (by rw [e2]))
    subst hbf
    clear hf hbl htk hne e
    obtain ⟨⟨k,n,re,im,s,node,boot,idn,bb⟩,m⟩ := x
    obtain ⟨⟨k',n',re',im',s',node',boot',idn',bb'⟩,m'⟩ := y
    simp only at *
    obtain ⟨k0,k1,k2,k3,k4,k5,k6,k7,k8⟩ := h91'
    obtain ⟨l0,l1,l2,l3,l4,l5,l6,l7,l8⟩ := h92'
    go_wp2_with fail
    go_still_tail 8,(by kernel_rfl)
    change wpList _ _ _ _ _ wr.drew
    have HF2 := hid (HFl.out wr.drew HRow1.out HRow2.out)
    clear k0 k1 k2 k3 k4 k5 k6 k7 k8 l0 l1 l2 l3 l4 l5 l6 l7 l8 HFl
    go_wp2_with (refine HF2.out.mono ?_; rintro e w5 ⟨rfl,hb⟩; have HB5 := hid (HB.out.drew.trans (hb.mono (show w4.heap.size ≤ wr.drew.heap.size from HB.out.size))); clear hb)
    go_ret
    exact ⟨rfl,HBw.out.trans (HB5.out.mono HBw.out.size)⟩
  ·obtain rfl : i = xs.length := by omega
   have hd1 : decide (xs.length < xs.length) = false := decide_eq_false (by omega)
   have hbt : b = true := HBb.out.2 (by have := HTk.out; rw [List.take_length,← HL2.out,List.take_length] at this; exact this)
   subst hbt
   go_wp2_with fail
   go_ret
   exact ⟨rfl,HBw.out.trans (HB.out.mono HBw.out.size)⟩
end Go.Proofs.Ytgadkiljnebicaa
