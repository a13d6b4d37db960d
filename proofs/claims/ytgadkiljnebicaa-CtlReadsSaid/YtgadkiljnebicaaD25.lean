/- Several texts in one. -/
import Derived.Test.YtgadkiljnebicaaD24
import Derived.Test.YtgadkiljnebicaaD23
import Derived.StillTailTactics
namespace Go.Proofs.Ytgadkiljnebicaa
open Go.Lib (hid)
open Go.RowKit
set_option maxRecDepth 100000
attribute [local go_sem] run_store_complex
def EncPost (W : World) (bs : List UInt8) (e : Ending) (w' : World) : Prop :=
 (bs.length ≤ 131072 ∧ ∃ (a : Option Addr) (c : Nat),e = .returned (.tuple #[.slice a bs.length c,.int .i64 0]) ∧ w'.ownsRow W.heap.size 5 1 (.slice a bs.length c) bs.length (bs.map cellB) ∧ Below W.heap.size W w') ∨
 (131072 < bs.length ∧ e = .returned (.tuple #[nilV,.int .i64 70]) ∧ Below W.heap.size W w')
theorem rep_nine' {w : World} {F : Nat → Prop} {t : Tm} {c : Array Value} (h : Rep w F t c) : ∃ (q0 q1 : Int) (q2 q3 : Nat) (q4 : ByteArray) (q5 q6 q7 : Int) (q8 : Option Addr) (q9 q10 : Nat) (q11 : Option Addr) (q12 q13 : Nat),
  c = #[.int .i64 q0,.int .i64 q1,.complex .f64 q2 q3,.string q4,.int .i64 q5,.int .u32 q6,.int .u64 q7,.slice q8 q9 q10,.slice q11 q12 q13] := by
 obtain ⟨hd,l⟩ := t
 obtain ⟨bv,lv,rfl,hb,vs,hlv,_⟩ := h
 obtain ⟨a1,c1,rfl⟩ := row_slice hb.1
 obtain ⟨a2,c2,rfl⟩ := row_slice hlv.1
 exact ⟨_,_,_,_,_,_,_,_,_,_,_,_,_,_,rfl⟩
theorem wr_new {B : Nat} {w2 w4 : World} (hB : B ≤ w2.heap.size) (ht : Tab w4 (w2.heap.size + 1 + 1) (w2.heap.size + 1) (.slice none 0 0) []) (hb : Below (w2.heap.size + 1) (w2.alloc (.cells #[.int .u8 69] 5)) w4) :
  WrAt B w4.heap.size (w2.heap.size + 1 + 1) (w2.heap.size + 1) (.slice none 0 0) (some ⟨w2.heap.size,0,none⟩) 1 [69] [] (w4.alloc (.cells #[.slice (some ⟨w2.heap.size,0,none⟩) 1 1,.pointer (some ⟨w2.heap.size + 1 + 1,0,none⟩)] 93)) := by
 have hs3 : (w2.alloc (.cells #[.int .u8 69] 5)).heap.size = w2.heap.size + 1 := by simp
 have hcell : (w2.alloc (.cells #[.int .u8 69] 5)).heap[w2.heap.size]? = some (.cells #[.int .u8 69] 5 (0,0)) := heap_new w2 _
 have hlt := ht.lt
 have h4 := hb.size
 rw [hs3] at h4
 have hrow4 : w4.heap[w2.heap.size]? = some (.cells #[.int .u8 69] 5 (0,0)) := (hb.block _ (by omega)).trans hcell
 have hrow5 := (Below.heap_alloc w4 (.cells #[.slice (some ⟨w2.heap.size,0,none⟩) 1 1,.pointer (some ⟨w2.heap.size + 1 + 1,0,none⟩)] 93) w2.heap.size (by omega)).trans hrow4
 refine ⟨heap_new w4 _,⟨rfl,.inr ⟨w2.heap.size,1,#[.int .u8 69],rfl,hB,hrow5,Nat.le_refl _,by decide,rfl,rfl⟩⟩,ht.below ((Below.refl _ w4).alloc (Nat.le_refl _) _),?_,?_,by omega,?_⟩
 ·intro b e
  have eb : w2.heap.size = b := by injection e
  subst eb
  refine ⟨by omega,?_⟩
  rintro (e | e | e)
  ·omega
  ·omega
  ·cases e
 ·rintro (e | e | e)
  ·omega
  ·omega
  ·cases e
 ·rintro i (e | e | e)
  ·omega
  ·omega
  ·cases e
set_option maxHeartbeats 2000000 in
theorem encode_good (t : Tm) (hg : GoodT 24 t) (hs : sizeT t ≤ 4096) (F : Nat → Prop) (cs : Array Value) (w : World) (hrep : Rep w F t cs) (hF : ∀ b,F b → b < w.heap.size) :
  Calls Try.prog 20 #[.agg cs] w (EncPost w (69 :: (encT t []).1)) := by
 have HF := hid hF
 have HG := hid hg
 have HSz := hid hs
 obtain ⟨q0,q1,q2,q3,q4,q5,q6,q7,q8,q9,q10,q11,q12,q13,rfl⟩ := rep_nine' hrep
 obtain ⟨C,hC⟩ : ∃ C : Array Value,#[Value.int .i64 q0,.int .i64 q1,.complex .f64 q2 q3,.string q4,.int .i64 q5,.int .u32 q6,.int .u64 q7,.slice q8 q9 q10,.slice q11 q12 q13] = C := ⟨_,rfl⟩
 have HR1 := hid (Rep.keep (fun b _ hb => ((Below.refl _ w).alloc (Nat.le_refl _) (.cells #[.int .i64 q0,.int .i64 q1,.complex .f64 q2 q3,.string q4,.int .i64 q5,.int .u32 q6,.int .u64 q7,.slice q8 q9 q10,.slice q11 q12 q13] 31)).block b hb) _ _ hrep)
 have HB1 := hid ((Below.refl w.heap.size w).alloc (Nat.le_refl _) (.cells #[.int .i64 q0,.int .i64 q1,.complex .f64 q2 q3,.string q4,.int .i64 q5,.int .u32 q6,.int .u64 q7,.slice q8 q9 q10,.slice q11 q12 q13] 31))
 have HX1 := hid (heap_new w (.cells #[.int .i64 q0,.int .i64 q1,.complex .f64 q2 q3,.string q4,.int .i64 q5,.int .u32 q6,.int .u64 q7,.slice q8 q9 q10,.slice q11 q12 q13] 31))
 clear hF hg hs hrep hC C
 go_enter Try.func20,Try.ntmps20
 go_wp2_with fail
 obtain ⟨b0,hb0⟩ : ∃ b,w.heap.size = b := ⟨_,rfl⟩
 rw [hb0] at HB1 HX1 ⊢
 have HN := hid hb0
 clear hb0
 generalize w.alloc (.cells #[.int .i64 q0,.int .i64 q1,.complex .f64 q2 q3,.string q4,.int .i64 q5,.int .u32 q6,.int .u64 q7,.slice q8 q9 q10,.slice q11 q12 q13] 31) = w1 at *
 have HL1 := hid (blk_lt HX1.out)
 refine (check_good t HG.out HSz.out F _ w1 HR1.out (fun b e => by have := HF.out b e; have := HN.out; have := HL1.out; omega)).mono ?_
 rintro e w2 ⟨rfl,hb2⟩
 have HX2 := hid ((hb2.block _ HL1.out).trans HX1.out)
 have HB2 := hid (HB1.out.trans (hb2.mono (Nat.le_of_lt HL1.out)))
 have HR2 := hid (Rep.keep (fun b _ hb => hb2.block b hb) _ _ HR1.out)
 clear hb2 HX1 HB1 HR1 HL1
 go_wp2_with fail
 refine (new_any _).mono ?_
 rintro e w4 ⟨rfl,ht,hb⟩
 have hs3 : (w2.alloc (.cells #[.int .u8 69] 5)).heap.size = w2.heap.size + 1 := by simp
 rw [hs3] at ht hb
 clear hs3
 have HW := hid (wr_new (B := b0) (Nat.le_of_lt (blk_lt HX2.out)) ht hb)
 have HB24 := hid (((Below.refl _ w2).alloc (Nat.le_refl _) (.cells #[.int .u8 69] 5)).trans (hb.mono (Nat.le_succ _)))
 clear ht hb
 have HB25 := hid (HB24.out.alloc HB24.out.size (.cells #[.slice (some ⟨w2.heap.size,0,none⟩) 1 1,.pointer (some ⟨w2.heap.size + 1 + 1,0,none⟩)] 93))
 have hx5 := (HB25.out.block _ (blk_lt HX2.out)).trans HX2.out
 have HB5 := hid (HB2.out.trans (HB25.out.mono (Nat.le_of_lt (blk_lt HX2.out))))
 have HR5 := hid (Rep.keep (fun b _ hb => HB25.out.block b hb) _ _ HR2.out)
 obtain ⟨k0,k1,k2,k3,k4,k5,k6,k7,k8⟩ := NineAt.of_block hx5
 clear hx5 HB24 HB25 HR2
 go_wp2_with fail
 clear k0 k1 k2 k3 k4 k5 k6 k7 k8
 generalize w4.alloc (.cells #[.slice (some ⟨w2.heap.size,0,none⟩) 1 1,.pointer (some ⟨w2.heap.size + 1 + 1,0,none⟩)] 93) = w5 at *
 generalize w4.heap.size = Wb at *
 refine (wpart_any b0 Wb (w2.heap.size + 1 + 1) (w2.heap.size + 1) 24 t HG.out F (fun b e => by have := HF.out b e; have := HN.out; omega) _ _ _ [69] [] _ w5 HW.out HR5.out (by have := HSz.out; simp; omega) (by have := HSz.out; simp; omega)).mono ?_
 rintro e w6 ⟨rfl,v6,a6,c6,hs6⟩
 have e6 : [69] ++ (encT t []).1 = 69 :: (encT t []).1 := rfl
 rw [e6] at hs6
 have HB6 := hid (HB5.out.trans (WrStep.below HW.out hs6))
 have HS6 := hid hs6.wr
 clear hs6 e6 HW HB5 HR5
 have hl6 : (encT t []).1.length ≤ 180224 := by have := encT_len 24 t HG.out []; have := HSz.out; omega
 generalize hbs : 69 :: (encT t []).1 = bs at *
 have hlb : bs.length ≤ 180225 := by rw [← hbs]; simp; omega
 have wc0 := HS6.out.c0
 clear hbs hl6
 by_cases hbig : 131072 < bs.length
 ·have hbi : (131072 : Int) < (bs.length : Int) := by omega
  go_wp2_with fail
  go_ret2
  exact .inr ⟨hbig,rfl,HN.out ▸ HB6.out⟩
 ·have hbi : ¬ (131072 : Int) < (bs.length : Int) := by omega
  have hd : decide ((131072 : Int) < (bs.length : Int)) = false := decide_eq_false hbi
  have hd2 : decide (131072 < bs.length) = false := decide_eq_false hbig
  go_wp2_with fail
  go_ret2
  exact .inl ⟨by omega,a6,c6,rfl,HN.out ▸ HS6.out.row,HN.out ▸ HB6.out⟩
end Go.Proofs.Ytgadkiljnebicaa
namespace Go.Proofs.Ytgadkiljnebicaa
open Go.Lib (hid)
open Go.RowKit
set_option maxRecDepth 100000
theorem Strs.drew {w : World} {v : Value} {l : List ByteArray} (h : Strs w v l) : Strs w.drew v l := h
theorem sl_nil (w : World) : Sl w nilV (([] : List UInt8).map cellB) := Sl.nil w
theorem wideN_ile {bs : List UInt8} {s s' : St} {n : Nat} (h : wideN bs s = .ok (n,s')) : s'.i ≤ bs.length := by
 have key : ∀ (rest k acc : Nat) (s : St),wideP bs rest k acc s = .ok (n,s') → s'.i ≤ bs.length := by
  intro rest
  induction rest with
  | zero => intro k acc s h; cases h
  | succ rest ih =>
   intro k acc s h
   simp only [wideP] at h
   cases ho : oneP bs s with
   | error e => rw [ho] at h; cases h
   | ok y =>
    obtain ⟨c,s2⟩ := y
    obtain ⟨_,o2,o3⟩ := oneP_ok ho
    rw [ho] at h
    simp only at h
    split at h
    ·cases h
    ·split at h
     ·exact ih _ _ _ h
     ·split at h
      ·cases h
      ·cases h; rw [o2]; exact o3
 exact key 10 0 0 s h
set_option maxHeartbeats 2000000 in
theorem rname_short (ba : Option Addr) (bc : Nat) (bs : List UInt8) (s s1 : St) (na : Option Addr) (nc : Nat) (w : World) (h : RfAt w ba bc bs s na nc) (hw : wideN bs s = .ok (s.names.length,s1)) (hnl : s.names.length ≤ 4096) (ho : oneP bs s1 = .error 72) :
  Calls Try.prog 53 #[stV ba bs.length bc s.i s.n na s.names.length nc 0] w (RP2 ba bs.length bc na s.names w .string (nameP bs s)) := by
 have H := hid h
 have hs1 := wide_names _ _ _ _ _ _ hw
 have HNM := hid hs1.1
 have HS1N := hid hs1.2.1
 have HW := hid hw
 have HI1 := hid (wideN_ile hw)
 clear h hs1 hw
 have HK := hid (show nameP bs s = .error 72 by rw [nameP_eq,HW.out]; unfold nameK; simp only; rw [if_neg (by rw [HNM.out]; omega),if_neg (by rw [HNM.out]; omega)]; rw [ho])
 have hle : ((s.names.length : Int) ≤ (s.names.length : Int)) := by omega
 have hlt : decide (s.names.length < s.names.length) = false := decide_eq_false (by omega)
 have hwl := wrap_u64_nat s.names.length (by omega)
 go_enter Try.func53,Try.ntmps53
 go_wp2_with fail
 have hXY : ¬ w.heap.size = w.heap.size + 1 := by omega
 have HX1 : Hid (((w.alloc (.cells #[.slice ba bs.length bc,.int .i64 (s.i : Int),.int .i64 (s.n : Int),.slice na s.names.length nc,.int .i64 0] 80)).alloc (.cells #[nilV,.int .i64 0,.int .i64 0,nilV,.int .i64 0] 80)).heap[w.heap.size]? = some (.cells #[.slice ba bs.length bc,.int .i64 (s.i : Int),.int .i64 (s.n : Int),.slice na s.names.length nc,.int .i64 0] 80 (0,0))) := (Below.heap_alloc _ _ _ (by simp)).trans (heap_new w _)
 have HY1 : Hid (((w.alloc (.cells #[.slice ba bs.length bc,.int .i64 (s.i : Int),.int .i64 (s.n : Int),.slice na s.names.length nc,.int .i64 0] 80)).alloc (.cells #[nilV,.int .i64 0,.int .i64 0,nilV,.int .i64 0] 80)).heap[w.heap.size + 1]? = some (.cells #[nilV,.int .i64 0,.int .i64 0,nilV,.int .i64 0] 80 (0,0))) := heap_new_at (by simp)
 have HB1 := hid (((Below.refl w.heap.size w).alloc (Nat.le_refl _) (.cells #[.slice ba bs.length bc,.int .i64 (s.i : Int),.int .i64 (s.n : Int),.slice na s.names.length nc,.int .i64 0] 80)).alloc (by simp) (.cells #[nilV,.int .i64 0,.int .i64 0,nilV,.int .i64 0] 80))
 generalize ((w.alloc (.cells #[.slice ba bs.length bc,.int .i64 (s.i : Int),.int .i64 (s.n : Int),.slice na s.names.length nc,.int .i64 0] 80)).alloc (.cells #[nilV,.int .i64 0,.int .i64 0,nilV,.int .i64 0] 80)) = w1 at *
 have HRf1 := hid (show RfAt w1 ba bc bs s na nc from ⟨H.out.src.below HB1.out,H.out.nms.below HB1.out,H.out.len,H.out.ile,H.out.nle⟩)
 have H1 := rwide_any ba bc bs s na nc w1 HRf1.out
 rw [HW.out] at H1
 refine H1.mono ?_
 rintro e w2 ⟨rfl,hb⟩
 clear H1 HRf1
 have HX2 := hid ((hb.block _ (blk_lt HX1.out)).trans HX1.out)
 have HY2 := hid ((hb.block _ (blk_lt HY1.out)).trans HY1.out)
 have HB2 := hid (HB1.out.trans (hb.mono HB1.out.size))
 clear hb HB1 HX1 HY1
 obtain ⟨k0,k1,k2,k3,k4⟩ := FiveAt.of_block HX2.out
 have kf := blk_fz HX2.out
 go_upto_region 2 with fail
 clear k0 k1 k2 k3 k4 kf
 have HX3 := hid (five_set HX2.out (d0 := .slice ba bs.length bc) (d1 := .int .i64 (s1.i : Int)) (d2 := .int .i64 (s1.n : Int)) (d3 := .slice na s.names.length nc) (d4 := .int .i64 0))
 have hTs := five_turn w2 (w.heap.size) (.slice ba bs.length bc) (.int .i64 (s1.i : Int)) (.int .i64 (s1.n : Int)) (.slice na s.names.length nc) (.int .i64 0)
 have HY3 := hid ((hTs.block (w.heap.size + 1) (blk_lt HY2.out) (by omega)).trans HY2.out)
 have HB3 := hid (HB2.out.trans (hTs.below HB2.out.size (fun i e => by omega)))
 clear hTs HB2 HX2 HY2
 simp only [set5] at HX3 HY3 HB3
 generalize ((((w2.setCell ⟨w.heap.size,0,none⟩ (.slice ba bs.length bc)).setCell ⟨w.heap.size,1,none⟩ (.int .i64 (s1.i : Int))).setCell ⟨w.heap.size,2,none⟩ (.int .i64 (s1.n : Int))).setCell ⟨w.heap.size,3,none⟩ (.slice na s.names.length nc)).setCell ⟨w.heap.size,4,none⟩ (.int .i64 0) = w3 at *
 obtain ⟨k0,k1,k2,k3,k4⟩ := FiveAt.of_block HX3.out
 go_wp2_with fail
 refine (rmust_any _ _ _ _ _ _ _ _ 0 true _).mono ?_
 rintro e w4 ⟨rfl,hb⟩
 clear k0 k1 k2 k3 k4
 have HX4 := hid ((hb.block _ (blk_lt HX3.out)).trans HX3.out)
 have HY4 := hid ((hb.block _ (blk_lt HY3.out)).trans HY3.out)
 have HB4 := hid (HB3.out.trans (hb.mono HB3.out.size))
 clear hb HB3 HX3 HY3
 go_upto_region 3 with (refine wpList_store_row rfl 80 (.tmp 1) (.tmp 20) rfl (w.heap.size) #[.slice ba bs.length bc,.int .i64 (s1.i : Int),.int .i64 (s1.n : Int),.slice na s.names.length nc,.int .i64 0] rfl rfl 80 #[.slice ba bs.length bc,.int .i64 (s1.i : Int),.int .i64 (s1.n : Int),.slice na s.names.length nc,.int .i64 0] HX4.out infoS rfl (by simp [Array.all,Value.oneCell']) ?_)
 have HX5 := hid (setRow_heap w4 (w.heap.size) #[.slice ba bs.length bc,.int .i64 (s1.i : Int),.int .i64 (s1.n : Int),.slice na s.names.length nc,.int .i64 0] #[.slice ba bs.length bc,.int .i64 (s1.i : Int),.int .i64 (s1.n : Int),.slice na s.names.length nc,.int .i64 0] 80 (0,0) HX4.out)
 have HY5 := hid ((setRow_other w4 (w.heap.size) (w.heap.size + 1) #[.slice ba bs.length bc,.int .i64 (s1.i : Int),.int .i64 (s1.n : Int),.slice na s.names.length nc,.int .i64 0] (by omega)).trans HY4.out)
 have HB5 := hid (HB4.out.trans ((setRow_turn w4 (w.heap.size) #[.slice ba bs.length bc,.int .i64 (s1.i : Int),.int .i64 (s1.n : Int),.slice na s.names.length nc,.int .i64 0]).below HB4.out.size (fun i e => by omega)))
 clear HB4 HX4 HY4
 generalize w4.setRow (w.heap.size) #[.slice ba bs.length bc,.int .i64 (s1.i : Int),.int .i64 (s1.n : Int),.slice na s.names.length nc,.int .i64 0] = w5 at *
 obtain ⟨k0,k1,k2,k3,k4⟩ := FiveAt.of_block HX5.out
 have HRf5 := hid (show RfAt w5 ba bc bs s1 na nc from ⟨H.out.src.below HB5.out,by rw [HNM.out]; exact H.out.nms.below HB5.out,H.out.len,HI1.out,by rw [HS1N.out]; exact H.out.nle⟩)
 have H1 := rone_any ba bc bs s1 na nc w5 HRf5.out
 rw [HNM.out] at H1
 clear HRf5
 rw [ho] at H1
 have H1 := hid H1
 clear ho
 go_wp2_with fail
 refine H1.out.mono ?_
 rintro e w6 ⟨i',n',u',rfl,rfl,hb⟩
 clear k0 k1 k2 k3 k4
 have HX6 := hid ((hb.block _ (blk_lt HX5.out)).trans HX5.out)
 have HY6 := hid ((hb.block _ (blk_lt HY5.out)).trans HY5.out)
 have HB6 := hid (HB5.out.trans (hb.mono HB5.out.size))
 clear hb HB5 HX5 HY5
 obtain ⟨k0,k1,k2,k3,k4⟩ := FiveAt.of_block HX6.out
 have kf := blk_fz HX6.out
 go_upto_region 8 with fail
 clear k0 k1 k2 k3 k4 kf
 have HX7 := hid (five_set HX6.out (d0 := .slice ba bs.length bc) (d1 := .int .i64 i') (d2 := .int .i64 n') (d3 := .slice na s.names.length nc) (d4 := .int .i64 72))
 have hTs := five_turn w6 (w.heap.size) (.slice ba bs.length bc) (.int .i64 i') (.int .i64 n') (.slice na s.names.length nc) (.int .i64 72)
 have HY7 := hid ((hTs.block (w.heap.size + 1) (blk_lt HY6.out) (by omega)).trans HY6.out)
 have HB7 := hid (HB6.out.trans (hTs.below HB6.out.size (fun i e => by omega)))
 clear hTs HB6 HX6 HY6
 simp only [set5] at HX7 HY7 HB7
 generalize ((((w6.setCell ⟨w.heap.size,0,none⟩ (.slice ba bs.length bc)).setCell ⟨w.heap.size,1,none⟩ (.int .i64 i')).setCell ⟨w.heap.size,2,none⟩ (.int .i64 n')).setCell ⟨w.heap.size,3,none⟩ (.slice na s.names.length nc)).setCell ⟨w.heap.size,4,none⟩ (.int .i64 72) = w7 at *
 obtain ⟨k0,k1,k2,k3,k4⟩ := FiveAt.of_block HX7.out
 go_wp2_with fail
 refine (rmust_e _ _ _ _ _ _ _ _ 72 (by decide) _ _).mono ?_
 rintro e w8 ⟨rfl,hb⟩
 clear k0 k1 k2 k3 k4
 have HX8 := hid ((hb.block _ (blk_lt HX7.out)).trans HX7.out)
 have HY8 := hid ((hb.block _ (blk_lt HY7.out)).trans HY7.out)
 have HB8 := hid (HB7.out.trans (hb.mono HB7.out.size))
 clear hb HB7 HX7 HY7
 go_upto_region 9 with (refine wpList_store_row rfl 80 (.tmp 1) (.tmp 49) rfl (w.heap.size) #[.slice ba bs.length bc,.int .i64 i',.int .i64 n',.slice na s.names.length nc,.int .i64 72] rfl rfl 80 #[.slice ba bs.length bc,.int .i64 i',.int .i64 n',.slice na s.names.length nc,.int .i64 72] HX8.out infoS rfl (by simp [Array.all,Value.oneCell']) ?_)
 have HX9 := hid (setRow_heap w8 (w.heap.size) #[.slice ba bs.length bc,.int .i64 i',.int .i64 n',.slice na s.names.length nc,.int .i64 72] #[.slice ba bs.length bc,.int .i64 i',.int .i64 n',.slice na s.names.length nc,.int .i64 72] 80 (0,0) HX8.out)
 have HY9 := hid ((setRow_other w8 (w.heap.size) (w.heap.size + 1) #[.slice ba bs.length bc,.int .i64 i',.int .i64 n',.slice na s.names.length nc,.int .i64 72] (by omega)).trans HY8.out)
 have HB9 := hid (HB8.out.trans ((setRow_turn w8 (w.heap.size) #[.slice ba bs.length bc,.int .i64 i',.int .i64 n',.slice na s.names.length nc,.int .i64 72]).below HB8.out.size (fun i e => by omega)))
 clear HB8 HX8 HY8
 generalize w8.setRow (w.heap.size) #[.slice ba bs.length bc,.int .i64 i',.int .i64 n',.slice na s.names.length nc,.int .i64 72] = w9 at *
 obtain ⟨k0,k1,k2,k3,k4⟩ := FiveAt.of_block HX9.out
 go_wp2_with fail
 refine (rsome_e _ _ _ _ _ _ _ _ 72 (by decide) 0 (by decide) _).mono ?_
 rintro e w10 ⟨rfl,hb⟩
 clear k0 k1 k2 k3 k4
 have HX10 := hid ((hb.block _ (blk_lt HX9.out)).trans HX9.out)
 have HY10 := hid ((hb.block _ (blk_lt HY9.out)).trans HY9.out)
 have HB10 := hid (HB9.out.trans (hb.mono HB9.out.size))
 clear hb HB9 HX9 HY9
 obtain ⟨k0,k1,k2,k3,k4⟩ := FiveAt.of_block HX10.out
 have kf := blk_fz HX10.out
 go_upto_region 10 with fail
 clear k0 k1 k2 k3 k4 kf
 have HX11 := hid (five_set HX10.out (d0 := .slice ba bs.length bc) (d1 := .int .i64 i') (d2 := .int .i64 n') (d3 := .slice na s.names.length nc) (d4 := .int .i64 72))
 have hTs := five_turn w10 (w.heap.size) (.slice ba bs.length bc) (.int .i64 i') (.int .i64 n') (.slice na s.names.length nc) (.int .i64 72)
 have HY11 := hid ((hTs.block (w.heap.size + 1) (blk_lt HY10.out) (by omega)).trans HY10.out)
 have HB11 := hid (HB10.out.trans (hTs.below HB10.out.size (fun i e => by omega)))
 clear hTs HB10 HX10 HY10
 simp only [set5] at HX11 HY11 HB11
 generalize ((((w10.setCell ⟨w.heap.size,0,none⟩ (.slice ba bs.length bc)).setCell ⟨w.heap.size,1,none⟩ (.int .i64 i')).setCell ⟨w.heap.size,2,none⟩ (.int .i64 n')).setCell ⟨w.heap.size,3,none⟩ (.slice na s.names.length nc)).setCell ⟨w.heap.size,4,none⟩ (.int .i64 72) = w11 at *
 have HSl := hid (sl_nil w11)
 have hsz : (⟨([] : List UInt8).toArray⟩ : ByteArray).size ≤ maxLen := by decide
 have hcv := conv_any w11 Try.underlying22 Try.underlying5 Try.underlying9 HSl.out
 have HNs := hid (H.out.nms.below HB11.out)
 cases hd : nameB ⟨([] : List UInt8).toArray⟩ with
 | false =>
  have HName := hid (show Calls Try.prog 80 #[.string ⟨([] : List UInt8).toArray⟩] w11.drew (fun e w' => e = .returned (.bool false) ∧ w' = w11.drew) from hd ▸ name_rw _ _ hsz)
  clear hd
  go_upto_region 11 with fail
  obtain ⟨k0,k1,k2,k3,k4⟩ := FiveAt.of_block HX11.out
  refine wp_region_still_tail 13 (by kernel_rfl) (by kernel_rfl) ?_
  simp only [List.take_succ_cons,List.take_zero,List.drop_succ_cons,List.drop_zero]
  with_reducible refine wpStill_step (fun K hK => ?_)
  go_simp
  with_reducible refine hK _ ?_
  clear hK K
  with_reducible refine wpStill_step (fun K hK => ?_)
  go_simp
  with_reducible refine hK _ ?_
  clear hK K
  with_reducible refine wpStill_step (fun K hK => ?_)
  go_simp
  refine ⟨_,HName.out,?_⟩
  with_reducible refine hK _ ?_
  clear hK K
  with_reducible refine wpStill_step (fun K hK => ?_)
  go_simp
  with_reducible refine hK _ ?_
  clear hK K
  with_reducible refine wpStill_step (fun K hK => ?_)
  go_simp
  with_reducible refine hK _ ?_
  clear hK K
  with_reducible refine wpStill_step (fun K hK => ?_)
  go_simp
  with_reducible refine hK _ ?_
  clear hK K
  with_reducible refine wpStill_step (fun K hK => ?_)
  go_simp
  with_reducible refine hK _ ?_
  clear hK K
  with_reducible refine wpStill_step (fun K hK => ?_)
  go_simp
  with_reducible refine hK _ ?_
  clear hK K
  with_reducible refine wpStill_step (fun K hK => ?_)
  go_simp
  with_reducible refine hK _ ?_
  clear hK K
  with_reducible refine wpStill_step (fun K hK => ?_)
  go_simp
  with_reducible refine hK _ ?_
  clear hK K
  with_reducible refine wpStill_step (fun K hK => ?_)
  go_simp
  with_reducible refine hK _ ?_
  clear hK K
  with_reducible refine wpStill_step (fun K hK => ?_)
  go_simp
  with_reducible refine hK _ ?_
  clear hK K
  with_reducible refine wpStill_step (fun K hK => ?_)
  go_simp
  with_reducible refine hK _ ?_
  clear hK K
  with_reducible refine wpStill_nil ?_
  change wpList _ _ _ _ _ w11.drew
  have HX12 : Hid (w11.drew.heap[w.heap.size]? = _) := HX11.out
  have HY12 : Hid (w11.drew.heap[w.heap.size + 1]? = _) := HY11.out
  have HB12 : Hid (Below w.heap.size w w11.drew) := HB11.out.drew
  clear k0 k1 k2 k3 k4 HX11 HY11 HB11 HName hcv
  generalize w11.drew = w12 at *
  go_wp2_with fail
  refine (rmust_e _ _ _ _ _ _ _ _ 72 (by decide) _ _).mono ?_
  rintro e w13 ⟨rfl,hb⟩
  have HX13 := hid ((hb.block _ (blk_lt HX12.out)).trans HX12.out)
  have HY13 := hid ((hb.block _ (blk_lt HY12.out)).trans HY12.out)
  have HB13 := hid (HB12.out.trans (hb.mono HB12.out.size))
  clear hb HB12 HX12 HY12
  go_upto_region 12 with (refine wpList_store_row rfl 80 (.tmp 1) (.tmp 72) rfl (w.heap.size) #[.slice ba bs.length bc,.int .i64 i',.int .i64 n',.slice na s.names.length nc,.int .i64 72] rfl rfl 80 #[.slice ba bs.length bc,.int .i64 i',.int .i64 n',.slice na s.names.length nc,.int .i64 72] HX13.out infoS rfl (by simp [Array.all,Value.oneCell']) ?_)
  have HX14 := hid (setRow_heap w13 (w.heap.size) #[.slice ba bs.length bc,.int .i64 i',.int .i64 n',.slice na s.names.length nc,.int .i64 72] #[.slice ba bs.length bc,.int .i64 i',.int .i64 n',.slice na s.names.length nc,.int .i64 72] 80 (0,0) HX13.out)
  have HY14 := hid ((setRow_other w13 (w.heap.size) (w.heap.size + 1) #[.slice ba bs.length bc,.int .i64 i',.int .i64 n',.slice na s.names.length nc,.int .i64 72] (by omega)).trans HY13.out)
  have HB14 := hid (HB13.out.trans ((setRow_turn w13 (w.heap.size) #[.slice ba bs.length bc,.int .i64 i',.int .i64 n',.slice na s.names.length nc,.int .i64 72]).below HB13.out.size (fun i e => by omega)))
  clear HB13 HX13 HY13
  generalize w13.setRow (w.heap.size) #[.slice ba bs.length bc,.int .i64 i',.int .i64 n',.slice na s.names.length nc,.int .i64 72] = w14 at *
  obtain ⟨k0,k1,k2,k3,k4⟩ := FiveAt.of_block HX14.out
  go_wp2_with (refine wpList_store_row rfl 80 (.tmp 2) (.tmp 84) rfl (w.heap.size + 1) #[.slice ba bs.length bc,.int .i64 i',.int .i64 n',.slice na s.names.length nc,.int .i64 72] rfl rfl 80 #[nilV,.int .i64 0,.int .i64 0,nilV,.int .i64 0] HY14.out infoS rfl (by simp [Array.all,Value.oneCell']) ?_)
  have HY15 := hid (setRow_heap w14 (w.heap.size + 1) #[nilV,.int .i64 0,.int .i64 0,nilV,.int .i64 0] #[.slice ba bs.length bc,.int .i64 i',.int .i64 n',.slice na s.names.length nc,.int .i64 72] 80 (0,0) HY14.out)
  have HX15 := hid ((setRow_other w14 (w.heap.size + 1) (w.heap.size) #[.slice ba bs.length bc,.int .i64 i',.int .i64 n',.slice na s.names.length nc,.int .i64 72] (by omega)).trans HX14.out)
  have HB15 := hid (HB14.out.trans ((setRow_turn w14 (w.heap.size + 1) #[.slice ba bs.length bc,.int .i64 i',.int .i64 n',.slice na s.names.length nc,.int .i64 72]).below HB14.out.size (fun i e => by omega)))
  clear HB14 HY14 HX14
  generalize w14.setRow (w.heap.size + 1) #[.slice ba bs.length bc,.int .i64 i',.int .i64 n',.slice na s.names.length nc,.int .i64 72] = w15 at *
  clear k0 k1 k2 k3 k4
  go_wp2_with fail
  obtain ⟨k0,k1,k2,k3,k4⟩ := FiveAt.of_block HY15.out
  exact bodyPost_ret (v := .tuple #[.agg #[.slice ba bs.length bc,.int .i64 i',.int .i64 n',.slice na s.names.length nc,.int .i64 72],.string ⟨([] : List UInt8).toArray⟩]) (by simp [results,Try.results53,go_sem,k0,k1,k2,k3,k4]) rfl (by rw [HK.out]; exact ⟨_,_,_,_,_,_,rfl,HB15.out⟩)
 | true =>
  have HName := hid (show Calls Try.prog 80 #[.string ⟨([] : List UInt8).toArray⟩] w11.drew (fun e w' => e = .returned (.bool true) ∧ w' = w11.drew) from hd ▸ name_rw _ _ hsz)
  clear hd
  go_upto_region 11 with fail
  obtain ⟨k0,k1,k2,k3,k4⟩ := FiveAt.of_block HX11.out
  refine wp_region_still_tail 13 (by kernel_rfl) (by kernel_rfl) ?_
  simp only [List.take_succ_cons,List.take_zero,List.drop_succ_cons,List.drop_zero]
  with_reducible refine wpStill_step (fun K hK => ?_)
  go_simp
  with_reducible refine hK _ ?_
  clear hK K
  with_reducible refine wpStill_step (fun K hK => ?_)
  go_simp
  with_reducible refine hK _ ?_
  clear hK K
  with_reducible refine wpStill_step (fun K hK => ?_)
  go_simp
  refine ⟨_,HName.out,?_⟩
  with_reducible refine hK _ ?_
  clear hK K
  with_reducible refine wpStill_step (fun K hK => ?_)
  go_simp
  with_reducible refine hK _ ?_
  clear hK K
  with_reducible refine wpStill_step (fun K hK => ?_)
  go_simp
  with_reducible refine hK _ ?_
  clear hK K
  with_reducible refine wpStill_step (fun K hK => ?_)
  go_simp
  with_reducible refine hK _ ?_
  clear hK K
  with_reducible refine wpStill_step (fun K hK => ?_)
  go_simp
  with_reducible refine hK _ ?_
  clear hK K
  with_reducible refine wpStill_step (fun K hK => ?_)
  go_simp
  refine ⟨_,find_still _ _ _ _ HNs.out.drew,?_⟩
  with_reducible refine hK _ ?_
  clear hK K
  with_reducible refine wpStill_step (fun K hK => ?_)
  go_simp
  with_reducible refine hK _ ?_
  clear hK K
  with_reducible refine wpStill_step (fun K hK => ?_)
  go_simp
  with_reducible refine hK _ ?_
  clear hK K
  with_reducible refine wpStill_step (fun K hK => ?_)
  go_simp
  with_reducible refine hK _ ?_
  clear hK K
  with_reducible refine wpStill_step (fun K hK => ?_)
  go_simp
  with_reducible refine hK _ ?_
  clear hK K
  with_reducible refine wpStill_step (fun K hK => ?_)
  go_simp
  with_reducible refine hK _ ?_
  clear hK K
  with_reducible refine wpStill_nil ?_
  change wpList _ _ _ _ _ w11.drew
  have HX12 : Hid (w11.drew.heap[w.heap.size]? = _) := HX11.out
  have HY12 : Hid (w11.drew.heap[w.heap.size + 1]? = _) := HY11.out
  have HB12 : Hid (Below w.heap.size w w11.drew) := HB11.out.drew
  clear k0 k1 k2 k3 k4 HX11 HY11 HB11 HName hcv
  generalize w11.drew = w12 at *
  go_wp2_with fail
  refine (rmust_e _ _ _ _ _ _ _ _ 72 (by decide) _ _).mono ?_
  rintro e w13 ⟨rfl,hb⟩
  have HX13 := hid ((hb.block _ (blk_lt HX12.out)).trans HX12.out)
  have HY13 := hid ((hb.block _ (blk_lt HY12.out)).trans HY12.out)
  have HB13 := hid (HB12.out.trans (hb.mono HB12.out.size))
  clear hb HB12 HX12 HY12
  go_upto_region 12 with (refine wpList_store_row rfl 80 (.tmp 1) (.tmp 72) rfl (w.heap.size) #[.slice ba bs.length bc,.int .i64 i',.int .i64 n',.slice na s.names.length nc,.int .i64 72] rfl rfl 80 #[.slice ba bs.length bc,.int .i64 i',.int .i64 n',.slice na s.names.length nc,.int .i64 72] HX13.out infoS rfl (by simp [Array.all,Value.oneCell']) ?_)
  have HX14 := hid (setRow_heap w13 (w.heap.size) #[.slice ba bs.length bc,.int .i64 i',.int .i64 n',.slice na s.names.length nc,.int .i64 72] #[.slice ba bs.length bc,.int .i64 i',.int .i64 n',.slice na s.names.length nc,.int .i64 72] 80 (0,0) HX13.out)
  have HY14 := hid ((setRow_other w13 (w.heap.size) (w.heap.size + 1) #[.slice ba bs.length bc,.int .i64 i',.int .i64 n',.slice na s.names.length nc,.int .i64 72] (by omega)).trans HY13.out)
  have HB14 := hid (HB13.out.trans ((setRow_turn w13 (w.heap.size) #[.slice ba bs.length bc,.int .i64 i',.int .i64 n',.slice na s.names.length nc,.int .i64 72]).below HB13.out.size (fun i e => by omega)))
  clear HB13 HX13 HY13
  generalize w13.setRow (w.heap.size) #[.slice ba bs.length bc,.int .i64 i',.int .i64 n',.slice na s.names.length nc,.int .i64 72] = w14 at *
  obtain ⟨k0,k1,k2,k3,k4⟩ := FiveAt.of_block HX14.out
  go_wp2_with (refine wpList_store_row rfl 80 (.tmp 2) (.tmp 84) rfl (w.heap.size + 1) #[.slice ba bs.length bc,.int .i64 i',.int .i64 n',.slice na s.names.length nc,.int .i64 72] rfl rfl 80 #[nilV,.int .i64 0,.int .i64 0,nilV,.int .i64 0] HY14.out infoS rfl (by simp [Array.all,Value.oneCell']) ?_)
  have HY15 := hid (setRow_heap w14 (w.heap.size + 1) #[nilV,.int .i64 0,.int .i64 0,nilV,.int .i64 0] #[.slice ba bs.length bc,.int .i64 i',.int .i64 n',.slice na s.names.length nc,.int .i64 72] 80 (0,0) HY14.out)
  have HX15 := hid ((setRow_other w14 (w.heap.size + 1) (w.heap.size) #[.slice ba bs.length bc,.int .i64 i',.int .i64 n',.slice na s.names.length nc,.int .i64 72] (by omega)).trans HX14.out)
  have HB15 := hid (HB14.out.trans ((setRow_turn w14 (w.heap.size + 1) #[.slice ba bs.length bc,.int .i64 i',.int .i64 n',.slice na s.names.length nc,.int .i64 72]).below HB14.out.size (fun i e => by omega)))
  clear HB14 HY14 HX14
  generalize w14.setRow (w.heap.size + 1) #[.slice ba bs.length bc,.int .i64 i',.int .i64 n',.slice na s.names.length nc,.int .i64 72] = w15 at *
  clear k0 k1 k2 k3 k4
  go_wp2_with fail
  obtain ⟨k0,k1,k2,k3,k4⟩ := FiveAt.of_block HY15.out
  exact bodyPost_ret (v := .tuple #[.agg #[.slice ba bs.length bc,.int .i64 i',.int .i64 n',.slice na s.names.length nc,.int .i64 72],.string ⟨([] : List UInt8).toArray⟩]) (by simp [results,Try.results53,go_sem,k0,k1,k2,k3,k4]) rfl (by rw [HK.out]; exact ⟨_,_,_,_,_,_,rfl,HB15.out⟩)
end Go.Proofs.Ytgadkiljnebicaa
namespace Go.Proofs.Ytgadkiljnebicaa
open Go.Lib (hid)
open Go.RowKit
set_option maxRecDepth 100000
attribute [local go_sem] run_store_complex
set_option maxHeartbeats 4000000 in
theorem same_any (t : Tm) (hfin : ∀ x ∈ flatT t,HdFin x.1 ∧ x.1.b.length ≤ 9223372036854775807) (hlen : (flatT t).length ≤ 5000) (F1 F2 : Nat → Prop) (c1 c2 : Array Value) (w : World) (h1 : Rep w F1 t c1) (h2 : Rep w F2 t c2) (hF1 : ∀ b,F1 b → b < w.heap.size) (hF2 : ∀ b,F2 b → b < w.heap.size) :
  Calls Try.prog 17 #[.agg c1,.agg c2] w (RB w (.bool true)) := by
 have HFin := hid hfin
 have HLen := hid hlen
 have HF1 := hid hF1
 have HF2 := hid hF2
 have hB0 := (((Below.refl w.heap.size w).alloc (Nat.le_refl _) (.cells c1 31)).alloc (by simp) (.cells c2 31))
 have HR1 := hid (Rep.keep (fun b _ hb => hB0.block b hb) _ _ h1)
 have HR2 := hid (Rep.keep (fun b _ hb => hB0.block b hb) _ _ h2)
 have HB0 := hid hB0
 obtain ⟨q0,q1,q2,q3,q4,q5,q6,q7,q8,q9,q10,q11,q12,q13,rfl,_⟩ := rep_nine h1
 obtain ⟨r0,r1,r2,r3,r4,r5,r6,r7,r8,r9,r10,r11,r12,r13,rfl,_⟩ := rep_nine h2
 clear hfin hlen h1 h2 hF1 hF2 hB0
 go_enter Try.func17,Try.ntmps17
 go_wp2_with fail
 have HX := hid (al2_fst (w5 := w) (o1 := #[.int .i64 q0,.int .i64 q1,.complex .f64 q2 q3,.string q4,.int .i64 q5,.int .u32 q6,.int .u64 q7,.slice q8 q9 q10,.slice q11 q12 q13]) (o2 := #[.int .i64 r0,.int .i64 r1,.complex .f64 r2 r3,.string r4,.int .i64 r5,.int .u32 r6,.int .u64 r7,.slice r8 r9 r10,.slice r11 r12 r13]) (t1 := 31) (t2 := 31))
 have hY : ((w.alloc (.cells #[.int .i64 q0,.int .i64 q1,.complex .f64 q2 q3,.string q4,.int .i64 q5,.int .u32 q6,.int .u64 q7,.slice q8 q9 q10,.slice q11 q12 q13] 31)).alloc (.cells #[.int .i64 r0,.int .i64 r1,.complex .f64 r2 r3,.string r4,.int .i64 r5,.int .u32 r6,.int .u64 r7,.slice r8 r9 r10,.slice r11 r12 r13] 31)).heap[w.heap.size + 1]? = some (.cells #[.int .i64 r0,.int .i64 r1,.complex .f64 r2 r3,.string r4,.int .i64 r5,.int .u32 r6,.int .u64 r7,.slice r8 r9 r10,.slice r11 r12 r13] 31 (0,0)) := heap_new_at (by simp)
 have HY := hid hY
 clear hY
 generalize (w.alloc (.cells #[.int .i64 q0,.int .i64 q1,.complex .f64 q2 q3,.string q4,.int .i64 q5,.int .u32 q6,.int .u64 q7,.slice q8 q9 q10,.slice q11 q12 q13] 31)).alloc (.cells #[.int .i64 r0,.int .i64 r1,.complex .f64 r2 r3,.string r4,.int .i64 r5,.int .u32 r6,.int .u64 r7,.slice r8 r9 r10,.slice r11 r12 r13] 31) = w2 at *
 refine (all_any _ t (Nat.le_refl _) 5000 5000 F1 _ w2 rfl HR1.out (fun b e => Nat.lt_of_lt_of_le (HF1.out b e) HB0.out.size) HLen.out (Nat.le_refl _)).mono ?_
 rintro e w3 ⟨a1,d1,ps1,rfl,ho1,hp1,hb3⟩
 have HO1 := hid ho1
 have HP1 := hid hp1
 have HB3 := hid hb3
 have HR2' := hid (Rep.keep (fun b _ hb => hb3.block b hb) _ _ HR2.out)
 obtain ⟨y0,y1,y2,y3,y4,y5,y6,y7,y8⟩ := NineAt.of_block ((hb3.block _ (blk_lt HY.out)).trans HY.out)
 clear ho1 hp1 hb3 HR1 HR2 HX HY
 go_wp2_with fail
 clear y0 y1 y2 y3 y4 y5 y6 y7 y8
 refine (all_any _ t (Nat.le_refl _) 5000 5000 F2 _ w3 rfl HR2'.out (fun b e => Nat.lt_of_lt_of_le (HF2.out b e) (Nat.le_trans HB0.out.size HB3.out.size)) HLen.out (Nat.le_refl _)).mono ?_
 rintro e w4 ⟨a2,d2,ps2,rfl,ho2,hp2,hb4⟩
 have HO2 := hid ho2
 have HP2 := hid hp2
 have HB4 := hid hb4
 have HO1' := hid (row_same (w' := w4) HO1.out (fun b e hb => hb4.block b hb))
 have HP1' := hid (PartsOk.keep (fun b _ hb => hb4.block b hb) HP1.out)
 have HBw := hid (HB0.out.trans ((HB3.out.mono HB0.out.size).trans (hb4.mono (Nat.le_trans HB0.out.size HB3.out.size))))
 clear ho2 hp2 hb4 HO1 HP1 HR2' HB0 HB3 HB4
 obtain ⟨xs,hxs⟩ : ∃ xs,flatT t = xs := ⟨_,rfl⟩
 rw [hxs] at HFin HLen HP2 HP1' HO2 HO1' ⊢
 clear hxs
 have hl5 : xs.length ≤ 5000 := HLen.out
 have hne : ((xs.length : Int) != (xs.length : Int)) = false := by simp
 go_wp2_with fail
 clear hne
 go_loopw [7] (fun t7 wr => ∃ i : Nat,i ≤ xs.length ∧ t7 = .int .i64 i ∧ Below w4.heap.size w4 wr) (fun t7 _ => xs.length - (intOf t7).toNat)
 case atStart => exact ⟨0,Nat.zero_le _,rfl,Below.refl _ _⟩
 case round =>
  obtain ⟨i,hi,rfl,hB⟩ := hrel
  have HB := hid hB
  clear hB
  by_cases hlt : i < xs.length
  ·obtain ⟨g1,cap1,hv1,hg1,hgl1,bv1,e1,n1,hr1,h91⟩ := owns_nine HO1'.out HP1'.out hlt
   obtain ⟨g2,cap2,hv2,hg2,hgl2,bv2,e2,n2,hr2,h92⟩ := owns_nine HO2.out HP2.out hlt
   obtain ⟨hf,hbl⟩ := HFin.out _ (List.getElem_mem hlt)
   have h91' := h91.block (HB.out.block g1 hgl1)
   have h92' := h92.block (HB.out.block g2 hgl2)
   have HRow1 := hid (hr1.keep (fun b _ hb => HB.out.block b hb))
   have HRow2 := hid (hr2.keep (fun b _ hb => HB.out.block b hb))
   cases hv1
   cases hv2
   obtain ⟨x1,y1,rfl⟩ := row_slice hr1.1
   obtain ⟨x2,y2,rfl⟩ := row_slice hr2.1
   have HFl := hid (flat_same xs[i].1 hf hbl (.slice x1 xs[i].1.b.length y1) (.slice x2 xs[i].1.b.length y2) e1 e2 xs[i].2 n1 n2 F1 F2)
   clear hr1 hr2 h91 h92 hf hbl hg1 hg2 hgl1 hgl2
   generalize xs[i] = x at *
   obtain ⟨⟨k,n,re,im,s,node,boot,idn,b⟩,m⟩ := x
   simp only at *
   obtain ⟨k0,k1,k2,k3,k4,k5,k6,k7,k8⟩ := h91'
   obtain ⟨l0,l1,l2,l3,l4,l5,l6,l7,l8⟩ := h92'
   have hi0 : (0 : Int) ≤ (i : Int) := by omega
   have hi1 : (i : Int) < (xs.length : Int) := by omega
   have hwi : IntKind.i64.wrap ((i : Int) + 1) = (i : Int) + 1 := IntWalk.i64_in _ (by omega)
   go_wp2_with fail
   go_still_tail 8,(by kernel_rfl)
   change wpList _ _ _ _ _ wr.drew
   have HF2 := hid (HFl.out wr.drew HRow1.out HRow2.out)
   clear k0 k1 k2 k3 k4 k5 k6 k7 k8 l0 l1 l2 l3 l4 l5 l6 l7 l8 HFl
   go_wp2_with (refine HF2.out.mono ?_; rintro e w5 ⟨rfl,hb⟩; have HB5 := hid (HB.out.drew.trans (hb.mono (show w4.heap.size ≤ wr.drew.heap.size from HB.out.size))); clear hb)
   go_round
   case rel => exact ⟨i + 1,by omega,by go_num,HB5.out⟩
   case measure => simp [intOf]; omega
  ·obtain rfl : i = xs.length := by omega
   have hd1 : decide (xs.length < xs.length) = false := decide_eq_false (by omega)
   go_wp2_with fail
   go_ret
   exact ⟨rfl,HBw.out.trans (HB.out.mono HBw.out.size)⟩
end Go.Proofs.Ytgadkiljnebicaa
