/- Several texts in one. -/
import Derived.Test.YtgadkiljnebicaaD14
import Derived.Test.YtgadkiljnebicaaD13
import Derived.Test.YtgadkiljnebicaaD08
namespace Go.Proofs.Ytgadkiljnebicaa
open Go.Lib (hid)
open Go.RowKit
set_option maxRecDepth 100000
structure RfAt (W : World) (ba : Option Addr) (bc : Nat) (bs : List UInt8) (s : St) (na : Option Addr) (nc : Nat) : Prop where
 src : Sl W (.slice ba bs.length bc) (bs.map cellB)
 nms : Strs W (.slice na s.names.length nc) s.names
 len : bs.length ≤ 131072
 ile : s.i ≤ bs.length
 nle : s.n ≤ 4097
theorem RfAt.below {W W' : World} {ba : Option Addr} {bc : Nat} {bs : List UInt8} {s : St} {na : Option Addr} {nc : Nat} (h : RfAt W ba bc bs s na nc) (hb : Below W.heap.size W W') : RfAt W' ba bc bs s na nc :=
 ⟨h.src.below hb,h.nms.below hb,h.len,h.ile,h.nle⟩
theorem RfAt.at {W : World} {ba : Option Addr} {bc : Nat} {bs : List UInt8} {s : St} {na : Option Addr} {nc : Nat} (h : RfAt W ba bc bs s na nc) (hi : s.i < bs.length) : ∃ b off,ba = some ⟨b,off,none⟩ ∧ W.cell? ⟨b,off + s.i,none⟩ = some (cellB bs[s.i]) := by
 obtain ⟨a,c,hbv,hl,hc⟩ := h.src
 obtain ⟨b,off,ha,hcell⟩ := hc (by simpa using Nat.lt_of_le_of_lt (Nat.zero_le _) hi)
 have hx := hcell s.i (by simpa using hi)
 rw [List.getElem_map] at hx
 have e : ba = a := by injection hbv
 exact ⟨b,off,e.trans ha,hx⟩
def RP1 {α : Type} (ba : Option Addr) (bl bc : Nat) (na : Option Addr) (nl nc : Nat) (W : World) (res : α → Value) (U : Value → Prop) (r : Except Int (α × St)) (e : Ending) (w' : World) : Prop :=
 match r with
 | .ok (a,s') => e = .returned (.tuple #[stV ba bl bc s'.i s'.n na nl nc 0,res a]) ∧ Below W.heap.size W w'
 | .error x => ∃ (i n : Int) (u : Value),e = .returned (.tuple #[stV ba bl bc i n na nl nc x,u]) ∧ U u ∧ Below W.heap.size W w'
theorem rone_e (ba : Option Addr) (bl bc : Nat) (i n : Int) (na : Option Addr) (nl nc : Nat) (c : Int) (hc : ¬ c = 0) (w : World) : Calls Try.prog 30 #[stV ba bl bc i n na nl nc c] w (RB w (.tuple #[stV ba bl bc i n na nl nc c,.int .u8 0])) := by
 have h1 : (c != 0) = true := bne_iff_ne.2 hc
 go_enter Try.func30,Try.ntmps30
 go_wp2_with fail
 exact bodyPost_ret (v := .tuple #[stV ba bl bc i n na nl nc c,.int .u8 0]) (by simp [results,Try.results30,go_sem]) rfl ⟨rfl,((Below.refl w.heap.size w).alloc (Nat.le_refl _) _).alloc (by simp) _⟩
theorem rone_no (ba : Option Addr) (bl bc : Nat) (n : Int) (na : Option Addr) (nl nc : Nat) (_ : bl ≤ 131072) (w : World) : Calls Try.prog 30 #[stV ba bl bc bl n na nl nc 0] w (RB w (.tuple #[stV ba bl bc bl n na nl nc 72,.int .u8 0])) := by
 go_enter Try.func30,Try.ntmps30
 go_wp2_with fail
 have hXY : ¬ w.heap.size = w.heap.size + 1 := by omega
 have HX1 : Hid (((w.alloc (.cells #[.slice ba bl bc,.int .i64 (bl : Int),.int .i64 n,.slice na nl nc,.int .i64 0] 80)).alloc (.cells #[nilV,.int .i64 0,.int .i64 0,nilV,.int .i64 0] 80)).heap[w.heap.size]? = some (.cells #[.slice ba bl bc,.int .i64 (bl : Int),.int .i64 n,.slice na nl nc,.int .i64 0] 80 (0,0))) := (Below.heap_alloc _ _ _ (by simp)).trans (heap_new w _)
 have HY1 : Hid (((w.alloc (.cells #[.slice ba bl bc,.int .i64 (bl : Int),.int .i64 n,.slice na nl nc,.int .i64 0] 80)).alloc (.cells #[nilV,.int .i64 0,.int .i64 0,nilV,.int .i64 0] 80)).heap[w.heap.size + 1]? = some (.cells #[nilV,.int .i64 0,.int .i64 0,nilV,.int .i64 0] 80 (0,0))) := heap_new_at (by simp)
 have HB1 := hid (((Below.refl w.heap.size w).alloc (Nat.le_refl _) (.cells #[.slice ba bl bc,.int .i64 (bl : Int),.int .i64 n,.slice na nl nc,.int .i64 0] 80)).alloc (by simp) (.cells #[nilV,.int .i64 0,.int .i64 0,nilV,.int .i64 0] 80))
 generalize ((w.alloc (.cells #[.slice ba bl bc,.int .i64 (bl : Int),.int .i64 n,.slice na nl nc,.int .i64 0] 80)).alloc (.cells #[nilV,.int .i64 0,.int .i64 0,nilV,.int .i64 0] 80)) = w1 at *
 refine (rfail0 _ _ _ _ _ _ _ _ 72 _).mono ?_
 rintro e w2 ⟨rfl,hb⟩
 have HX2 := hid ((hb.block _ (blk_lt HX1.out)).trans HX1.out)
 have HY2 := hid ((hb.block _ (blk_lt HY1.out)).trans HY1.out)
 have HB2 := hid (HB1.out.trans (hb.mono HB1.out.size))
 clear hb HB1 HX1 HY1
 go_wp2_with (refine wpList_store_row rfl 80 (.tmp 2) (.tmp 16) rfl (w.heap.size + 1) #[.slice ba bl bc,.int .i64 (bl : Int),.int .i64 n,.slice na nl nc,.int .i64 72] rfl rfl 80 #[nilV,.int .i64 0,.int .i64 0,nilV,.int .i64 0] HY2.out infoS rfl (by simp [Array.all,Value.oneCell']) ?_)
 have HY3 := hid (setRow_heap w2 (w.heap.size + 1) #[nilV,.int .i64 0,.int .i64 0,nilV,.int .i64 0] #[.slice ba bl bc,.int .i64 (bl : Int),.int .i64 n,.slice na nl nc,.int .i64 72] 80 (0,0) HY2.out)
 have HX3 := hid ((setRow_other w2 (w.heap.size + 1) (w.heap.size) #[.slice ba bl bc,.int .i64 (bl : Int),.int .i64 n,.slice na nl nc,.int .i64 72] (by omega)).trans HX2.out)
 have HB3 := hid (HB2.out.trans ((setRow_turn w2 (w.heap.size + 1) #[.slice ba bl bc,.int .i64 (bl : Int),.int .i64 n,.slice na nl nc,.int .i64 72]).below HB2.out.size (fun i e => by omega)))
 clear HB2 HY2 HX2
 generalize w2.setRow (w.heap.size + 1) #[.slice ba bl bc,.int .i64 (bl : Int),.int .i64 n,.slice na nl nc,.int .i64 72] = w3 at *
 go_wp2_with fail
 obtain ⟨k0,k1,k2,k3,k4⟩ := FiveAt.of_block HY3.out
 exact bodyPost_ret (v := .tuple #[stV ba bl bc bl n na nl nc 72,.int .u8 0]) (by simp [results,Try.results30,go_sem,k0,k1,k2,k3,k4]) rfl ⟨rfl,HB3.out⟩
theorem rone_yes (b off : Nat) (bl bc i : Nat) (n : Int) (na : Option Addr) (nl nc : Nat) (x : Int) (hbl : bl ≤ 131072) (hi : i < bl) (w : World) (hx : w.cell? ⟨b,off + i,none⟩ = some (.int .u8 x)) : Calls Try.prog 30 #[stV (some ⟨b,off,none⟩) bl bc i n na nl nc 0] w (RB w (.tuple #[stV (some ⟨b,off,none⟩) bl bc ((i : Int) + 1) n na nl nc 0,.int .u8 x])) := by
 have hB := ((Below.refl w.heap.size w).alloc (Nat.le_refl _) (.cells #[.slice (some ⟨b,off,none⟩) bl bc,.int .i64 (i : Int),.int .i64 n,.slice na nl nc,.int .i64 0] 80)).alloc (by simp) (.cells #[nilV,.int .i64 0,.int .i64 0,nilV,.int .i64 0] 80)
 have hx2 : ((w.alloc (.cells #[.slice (some ⟨b,off,none⟩) bl bc,.int .i64 (i : Int),.int .i64 n,.slice na nl nc,.int .i64 0] 80)).alloc (.cells #[nilV,.int .i64 0,.int .i64 0,nilV,.int .i64 0] 80)).cell? ⟨b,off + i,none⟩ = some (.int .u8 x) := (hB.cell (p := ⟨b,off + i,none⟩) (cell_lt hx)).trans hx
 have hHB := hid hB
 have hd : decide ((i : Int) = (bl : Int)) = false := decide_eq_false (by omega)
 have hd1 : ((i : Int) == (bl : Int)) = false := beq_eq_false_iff_ne.2 (by omega)
 have hd2 : (i == bl) = false := beq_eq_false_iff_ne.2 (by omega)
 have hi0 : (0 : Int) ≤ (i : Int) := by omega
 have hi1 : (i : Int) < (bl : Int) := by omega
 clear hB hx
 go_enter Try.func30,Try.ntmps30
 go_wp2_with fail
 exact bodyPost_ret (v := .tuple #[stV (some ⟨b,off,none⟩) bl bc ((i : Int) + 1) n na nl nc 0,.int .u8 x]) (by simp [results,Try.results30,go_sem]) rfl ⟨rfl,((Below.refl w.heap.size w).alloc (Nat.le_refl _) _).alloc (by simp) _⟩
theorem rone_any (ba : Option Addr) (bc : Nat) (bs : List UInt8) (s : St) (na : Option Addr) (nc : Nat) (w : World) (h : RfAt w ba bc bs s na nc) :
  Calls Try.prog 30 #[stV ba bs.length bc s.i s.n na s.names.length nc 0] w (RP1 ba bs.length bc na s.names.length nc w (fun c => .int .u8 (c : Nat)) (fun u => u = .int .u8 0) (oneP bs s)) := by
 by_cases hi : s.i < bs.length
 ·have e : oneP bs s = .ok (bs[s.i].toNat,{ s with i := s.i + 1 }) := by unfold oneP; rw [List.getElem?_eq_getElem hi]
  rw [e]
  obtain ⟨b,off,rfl,hx⟩ := h.at hi
  exact rone_yes b off bs.length bc s.i s.n na s.names.length nc _ h.len hi w hx
 ·have e : oneP bs s = .error 72 := by unfold oneP; rw [List.getElem?_eq_none (by omega)]
  rw [e]
  have hie : s.i = bs.length := by have := h.ile; omega
  rw [hie]
  refine (rone_no ba bs.length bc s.n na s.names.length nc h.len w).mono ?_
  rintro e w' ⟨rfl,hb⟩
  exact ⟨_,_,_,rfl,rfl,hb⟩
end Go.Proofs.Ytgadkiljnebicaa
namespace Go.Proofs.Ytgadkiljnebicaa
open Go.Lib (hid)
open Go.RowKit
set_option maxRecDepth 100000
attribute [local go_sem] run_store_complex
theorem putName_len (names : List ByteArray) (s : ByteArray) : (atomB names s).2.length ≤ names.length + 1 := by
 unfold atomB
 split
 ·simp
 ·simp
theorem headB_names (h : Hd) (n : Nat) (names : List ByteArray) : (headB h n names).2.length ≤ names.length + 1 := by
 have a := putName_len names h.s
 unfold headB
 repeat' split
 all_goals (first | exact a | (simp only; omega))
mutual
theorem encT_names : ∀ (t : Tm) (names : List ByteArray),(encT t names).2.length ≤ names.length + sizeT t
 | .mk h l,names => by
  have a := headB_names h l.length names
  have b := encTs_names l (headB h l.length names).2
  simp only [encT,sizeT]
  omega
theorem encTs_names : ∀ (l : List Tm) (names : List ByteArray),(encTs l names).2.length ≤ names.length + sizeTs l
 | [],names => by simp [encTs]
 | t :: l,names => by
  have a := encT_names t names
  have b := encTs_names l (encT t names).2
  simp only [encTs,sizeTs]
  omega
end
theorem encTs_len44 {r : Nat} : ∀ {l : List Tm},(∀ t ∈ l,GoodT r t) → ∀ (i : Nat) (names : List ByteArray),(encTs (l.take i) names).1.length ≤ 44 * sizeTs (l.take i)
 | [],_,i,names => by simp [encTs,sizeTs]
 | t :: l,_,0,names => by simp [encTs,sizeTs]
 | t :: l,h,i + 1,names => by
  have a := encT_len r t (h t (by simp)) names
  have b := encTs_len44 (l := l) (fun x hx => h x (by simp [hx])) i (encT t names).2
  simp only [List.take_succ_cons,encTs,sizeTs,List.length_append]
  omega
set_option maxHeartbeats 4000000 in
theorem wp6 (B Wb p m : Nat) (v : Value) (a : Option Addr) (c : Nat) (out : List UInt8) (names : List ByteArray) (F : Nat → Prop) (l : List Tm) (vs : List (Array Value)) (la : Option Addr) (lc : Nat) (w : World) (h : WrAt B Wb p m v a c out names w) (hlen : out.length + (44 * sizeTs l + 240) ≤ 1000000000) (hF : ∀ b,F b → b < B) (hrow : Row w F 31 9 (.slice la l.length lc) l.length (cat vs)) (hreps : Reps w F l vs) (hl : l.length ≤ 256) (hnm : names.length + sizeTs l ≤ 4096) (r : Nat) (hgd : ∀ t ∈ l,GoodT r t)
  (hsub : ∀ t ∈ l,∀ (v : Value) (a : Option Addr) (c : Nat) (out : List UInt8) (names : List ByteArray) (cs : Array Value) (w : World),WrAt B Wb p m v a c out names w → Rep w F t cs → names.length + sizeT t ≤ 4096 → out.length + 44 * sizeT t + 200 ≤ 1000000000 →
   Calls Try.prog 39 #[.pointer (some ⟨Wb,0,none⟩),.agg cs] w (WrPost B Wb p m v a c out w (out ++ (encT t names).1) (encT t names).2)) :
  Calls Try.prog 39 #[.pointer (some ⟨Wb,0,none⟩),.agg #[.int .i64 6,.int .i64 0,.complex .f64 0 0,.string ⟨#[]⟩,.int .i64 0,.int .u32 0,.int .u64 0,nilV,.slice la l.length lc]] w (WrPost B Wb p m v a c out w (out ++ (UInt8.ofNat 6 :: (wideB l.length ++ (encTs l names).1))) (encTs l names).2) := by
 have HF := hid hF
 have HR := hid hrow
 have HRp := hid hreps
 have HNm := hid hnm
 have HSub := hid hsub
 have HGd := hid hgd
 have HBv := hid h.bl
 have HFt := hid (fun b (e : wfoot Wb p m v a out.length c b) => (h.foot b e).1)
 clear hF hrow hreps hnm hsub hgd
 have HL1 := hid hlen
 obtain ⟨i0,hi,hz0,hz1,hz2⟩ := info_parts infoU8
 have X1 := hid hi
 have X2 := hid hz0
 have X3 := hid hz1
 have X4 := hid hz2
 have HX0 := hid (heap_new w (.cells #[.int .i64 6,.int .i64 0,.complex .f64 0 0,.string ⟨#[]⟩,.int .i64 0,.int .u32 0,.int .u64 0,nilV,.slice la l.length lc] 31))
 have HSa := hid (h.stay ((Below.refl _ w).alloc (Nat.le_refl _) (.cells #[.int .i64 6,.int .i64 0,.complex .f64 0 0,.string ⟨#[]⟩,.int .i64 0,.int .u32 0,.int .u64 0,nilV,.slice la l.length lc] 31)))
 have HNf := hid (show ¬ wfoot Wb p m v a out.length c w.heap.size from fun e => by have := (h.foot _ e).2; omega)
 have HBl := hid (show w.heap.size < (w.alloc (.cells #[.int .i64 6,.int .i64 0,.complex .f64 0 0,.string ⟨#[]⟩,.int .i64 0,.int .u32 0,.int .u64 0,nilV,.slice la l.length lc] 31)).heap.size by simp)
 have HBw := hid h.bl
 clear h hi hz0 hz1 hz2 hlen
 go_enter Try.func39,Try.ntmps39
 go_wp2_with fail
 obtain ⟨b0,hb0⟩ : ∃ b,w.heap.size = b := ⟨_,rfl⟩
 rw [hb0] at HNf HBl HX0 ⊢
 have HB0 := hid hb0
 clear hb0
 generalize w.alloc (.cells #[.int .i64 6,.int .i64 0,.complex .f64 0 0,.string ⟨#[]⟩,.int .i64 0,.int .u32 0,.int .u64 0,nilV,.slice la l.length lc] 31) = w1 at *
 have HS1 := hid (HSa.out.wr.stay (Below.refl _ w1))
 have HX1 := hid ((HS1.out.keep HBl.out HNf.out).trans HX0.out)
 obtain ⟨k0,k1,k2,k3,k4,k5,k6,k7,k8⟩ := NineAt.of_block HX1.out
 have wc0 := HS1.out.wr.c0
 have wc1 := HS1.out.wr.c1
 have wf0 := HS1.out.wr.fz 0
 have hwl := HS1.out.wr.wl
 have hbn : ¬ b0 = Wb := fun e => HNf.out (.inl e)
 have HM1 := hid (show out.length + 1 ≤ maxLen by have := HL1.out; unfold maxLen; omega)
 have HM2 := hid (show (out.length + 1) * 1 ≤ 140737488355328 by have := HL1.out; omega)
 have HM3 : Hid (B ≤ (w1.drew.alloc (.cells #[.int .u8 6] 5)).heap.size) := hid (by have := HS1.out.wr.bl; simp; omega)
 obtain ⟨o2,hO2⟩ : ∃ x,out ++ [UInt8.ofNat 6] = x := ⟨_,rfl⟩
 have HL2 := hid (show o2.length + (44 * sizeTs l + 230) ≤ 1000000000 by rw [← hO2,List.length_append,show ([UInt8.ofNat 6] : List UInt8).length = 1 from (rfl)]; have := HL1.out; omega)
 have HO2 := hid hO2
 clear hO2
 go_cut [3] from 9 to 20 (fun t3 wx => t3 = .pointer (some ⟨b0,0,none⟩) ∧ ∃ (v' : Value) (a' : Option Addr) (c' : Nat),WrStep B Wb p m v a c out w1 v' a' c' o2 names wx)
 case first =>
  go_region_law (first
   | (refine step_app (by rfl) (.tmp 13) (.tmp 17) 22 22 (by rfl) B 5 i0 (.int .u8 0) 1 1 Try.underlying22 X1.out X2.out X3.out X4.out rfl (by decide) (.slice a out.length c) out.length (out.map cellB) (by rfl) (HS1.out.wr.row.drew.alloc _) (.slice (some ⟨w1.heap.size,0,none⟩) 1 1) 1 [.int .u8 6] (by rfl) (src_one w1.drew Try.underlying22 _ _ rfl) HM1.out HM2.out HM3.out ?_; intro a4 c4 wz ho4 hg4 hl4; have HA := hid (HS1.out.wr.app (W0 := (w1.drew.alloc (.cells #[.int .u8 6] 5))) ((Below.refl _ w1).drew.alloc (Nat.le_refl _) _) (news := [UInt8.ofNat 6]) (k := 1) (rfl) hg4 (by rw [cell1 (x := 6) (by decide) rfl]; exact ho4) hl4); have hK := HS1.out.wr.kept (W0 := (w1.drew.alloc (.cells #[.int .u8 6] 5))) ((Below.refl _ w1).drew.alloc (Nat.le_refl _) _) hg4; obtain ⟨y4,z4⟩ := hK; clear ho4 hg4 hl4))
  all_goals
   go_wp2_with fail
   go_meet
   exact ⟨rfl,_,_,_,by rw [← HO2.out]; exact HS1.out.trans HA.out⟩
 clear k0 k1 k2 k3 k4 k5 k6 k7 k8 wc0 wc1 wf0 hwl hbn
 obtain ⟨rfl,v2,a2,c2,hs⟩ := hcut
 have HS2 := hid hs
 clear hs HM1 HM2 HM3
 obtain ⟨w2,rfl⟩ : ∃ x,x = wc := ⟨_,rfl⟩
 have HX2 := hid ((HS2.out.keep HBl.out HNf.out).trans HX0.out)
 obtain ⟨k0,k1,k2,k3,k4,k5,k6,k7,k8⟩ := NineAt.of_block HX2.out
 have wc0 := HS2.out.wr.c0
 have wc1 := HS2.out.wr.c1
 have wf0 := HS2.out.wr.fz 0
 have hwl := HS2.out.wr.wl
 have hbn : ¬ b0 = Wb := fun e => HNf.out (.inl e)
 have hnw : IntKind.u64.wrap (l.length : Int) = l.length := wrap_u64_nat _ (by omega)
 go_wp2_with fail
 clear k0 k1 k2 k3 k4 k5 k6 k7 k8 wc0 wc1 wf0 hwl hbn
 refine (wwide_any B Wb p m v2 a2 c2 o2 names l.length (by omega) w2 HS2.out.wr (by have := HL2.out; omega)).mono ?_
 rintro e w3 ⟨rfl,v3,a3,c3,hs⟩
 have HS3 := hid (HS2.out.trans hs)
 clear hs
 obtain ⟨o3,hO3⟩ : ∃ x,o2 ++ wideB l.length = x := ⟨_,rfl⟩
 have HL3 := hid (show o3.length + (44 * sizeTs l + 215) ≤ 1000000000 by rw [← hO3,List.length_append]; have := HL2.out; have := wideB_len l.length; omega)
 rw [hO3] at HS3
 have HO3 := hid hO3
 clear hO3
 clear hnw
 have HX3 := hid ((HS3.out.keep HBl.out HNf.out).trans HX0.out)
 obtain ⟨k0,k1,k2,k3,k4,k5,k6,k7,k8⟩ := NineAt.of_block HX3.out
 have wc0 := HS3.out.wr.c0
 have wc1 := HS3.out.wr.c1
 have wf0 := HS3.out.wr.fz 0
 have hwl := HS3.out.wr.wl
 have hbn : ¬ b0 = Wb := fun e => HNf.out (.inl e)
 go_wp2_with fail
 clear k0 k1 k2 k3 k4 k5 k6 k7 k8 wc0 wc1 wf0 hwl hbn HX3
 have HSw := hid (fun b (e : wfoot Wb p m v a out.length c b) => HFt.out b e)
 have hB1 : Hid (∀ b,F b → b < w.heap.size → w1.heap[b]? = w.heap[b]?) := hid (fun b e _ => (WrStep.below HSa.out.wr (HS1.out)).block b (HF.out b e) |>.trans (HSa.out.turn.block b (by have := HF.out b e; have := HBv.out; omega) (fun e2 => by have := (HSw.out b e2); have := HF.out b e; omega)))
 go_loopw [134] (fun t134 wr => ∃ (i : Nat) (v' : Value) (a' : Option Addr) (c' : Nat),i ≤ l.length ∧ t134 = .int .i64 i ∧ WrStep B Wb p m v a c out w1 v' a' c' (o3 ++ (encTs (l.take i) names).1) (encTs (l.take i) names).2 wr) (fun t134 _ => l.length - (intOf t134).toNat)
 case atStart => exact ⟨0,v3,a3,c3,Nat.zero_le _,rfl,by simpa [encTs] using HS3.out⟩
 case round =>
  obtain ⟨i,v4,a4,c4,hi,rfl,hS⟩ := hrel
  have HS4 := hid hS
  clear hS
  by_cases hlt : i < l.length
  ·obtain ⟨g,cap,hv,hg,hd2,bv2,pv2,hrep2,⟨l2,hl2⟩,h9⟩ := HR.out.nine HRp.out hlt
   have hgB := HF.out g hg
   have hBr := hid (WrStep.below HSa.out.wr HS4.out)
   cases hv
   have hkeep : ∀ b,F b → b < w.heap.size → wr.heap[b]? = w.heap[b]? := fun b e hb => (hBr.out.block b (HF.out b e)).trans (hB1.out b e hb)
   have h9' := h9.block (hkeep g hg (by have := HBv.out; omega))
   have HRep := hid (Rep.keep hkeep _ _ hrep2)
   obtain ⟨n0,n1,n2,n3,n4,n5,n6,n7,n8⟩ := h9'
   obtain ⟨hk2,hn2,hre2,him2,hs2,hnode2,hboot2,hidn2,hb2⟩ := hd2
   obtain ⟨ba2,bn2,bc2,rfl⟩ : ∃ a n c,bv2 = .slice a n c := by
    obtain ⟨bv3,pv3,e,hb3,_⟩ := hl2 ▸ hrep2
    cases e
    obtain ⟨a,c,e⟩ := row_slice hb3.1
    exact ⟨a,_,c,e⟩
   obtain ⟨pa2,pn2,pc2,rfl⟩ : ∃ a n c,pv2 = .slice a n c := by
    obtain ⟨bv3,pv3,e,_,vs2,hb3,_⟩ := hl2 ▸ hrep2
    cases e
    obtain ⟨a,c,e⟩ := row_slice hb3.1
    exact ⟨a,_,c,e⟩
   have hi1 : (i : Int) < (l.length : Int) := by omega
   have hi0 : (0 : Int) ≤ (i : Int) := by omega
   have HNi := hid (encTs_names (l.take i) names)
   have HZ1 := hid (sizeTs_take hlt)
   have HZ2 := hid (sizeTs_le (l := l) (i + 1))
   have HLi := hid (encTs_len44 HGd.out i names)
   have HMem := hid (List.getElem_mem hlt)
   have H1 := HSub.out l[i] HMem.out v4 a4 c4 (o3 ++ (encTs (l.take i) names).1) (encTs (l.take i) names).2 _ (wr.alloc (.cells (hdC ⟨hk2,hn2,hre2,him2,hs2,hnode2,hboot2,hidn2,hb2⟩ (.slice ba2 bn2 bc2) (.slice pa2 pn2 pc2)) 31)) (HS4.out.wr.below ((Below.refl _ wr).alloc (Nat.le_refl _) _)) (Rep.keep (fun b _ hb => ((Below.refl _ wr).alloc (Nat.le_refl _) _).block b hb) _ _ HRep.out) (by have := HNi.out; have := HZ1.out; have := HZ2.out; have := HNm.out; omega) (by rw [List.length_append]; have := HLi.out; have := HZ1.out; have := HZ2.out; have := HL3.out; omega)
   have H1 := hid H1
   clear h9 hkeep hrep2 hl2 hg hgB HR
   go_wp2_with fail
   clear n0 n1 n2 n3 n4 n5 n6 n7 n8
   refine H1.out.mono ?_
   rintro e w5 ⟨rfl,v5,a5,c5,hs⟩
   have HS5 := hid ((HS4.out.trans (HS4.out.wr.stay ((Below.refl _ wr).alloc (Nat.le_refl _) (.cells (hdC ⟨hk2,hn2,hre2,him2,hs2,hnode2,hboot2,hidn2,hb2⟩ (.slice ba2 bn2 bc2) (.slice pa2 pn2 pc2)) 31)))).trans hs)
   clear hs H1
   go_wp2_with fail
   go_round
   case rel => exact ⟨i + 1,v5,a5,c5,by omega,by go_num,by rw [encTs_take hlt]; simp only; rw [← List.append_assoc]; exact HS5.out⟩
   case measure => simp [intOf]; omega
  ·obtain rfl : i = l.length := by omega
   have hd1 : decide (l.length < l.length) = false := decide_eq_false (by omega)
   go_wp2_with fail
   go_end0
   have hS := HS4.out
   rw [List.take_length] at hS
   exact ⟨rfl,v4,a4,c4,by rw [show out ++ (UInt8.ofNat 6 :: (wideB l.length ++ (encTs l names).1)) = o3 ++ (encTs l names).1 by rw [← HO3.out,← HO2.out]; simp]; exact HSa.out.trans hS⟩
set_option maxHeartbeats 4000000 in
theorem wp7 (B Wb p m : Nat) (v : Value) (a : Option Addr) (c : Nat) (out : List UInt8) (names : List ByteArray) (F : Nat → Prop) (l : List Tm) (vs : List (Array Value)) (la : Option Addr) (lc : Nat) (w : World) (h : WrAt B Wb p m v a c out names w) (hlen : out.length + (44 * sizeTs l + 240) ≤ 1000000000) (hF : ∀ b,F b → b < B) (hrow : Row w F 31 9 (.slice la l.length lc) l.length (cat vs)) (hreps : Reps w F l vs) (hl : l.length ≤ 256) (hnm : names.length + sizeTs l ≤ 4096) (r : Nat) (hgd : ∀ t ∈ l,GoodT r t)
  (hsub : ∀ t ∈ l,∀ (v : Value) (a : Option Addr) (c : Nat) (out : List UInt8) (names : List ByteArray) (cs : Array Value) (w : World),WrAt B Wb p m v a c out names w → Rep w F t cs → names.length + sizeT t ≤ 4096 → out.length + 44 * sizeT t + 200 ≤ 1000000000 →
   Calls Try.prog 39 #[.pointer (some ⟨Wb,0,none⟩),.agg cs] w (WrPost B Wb p m v a c out w (out ++ (encT t names).1) (encT t names).2)) :
  Calls Try.prog 39 #[.pointer (some ⟨Wb,0,none⟩),.agg #[.int .i64 7,.int .i64 0,.complex .f64 0 0,.string ⟨#[]⟩,.int .i64 0,.int .u32 0,.int .u64 0,nilV,.slice la l.length lc]] w (WrPost B Wb p m v a c out w (out ++ (UInt8.ofNat 7 :: (wideB l.length ++ (encTs l names).1))) (encTs l names).2) := by
 have HF := hid hF
 have HR := hid hrow
 have HRp := hid hreps
 have HNm := hid hnm
 have HSub := hid hsub
 have HGd := hid hgd
 have HBv := hid h.bl
 have HFt := hid (fun b (e : wfoot Wb p m v a out.length c b) => (h.foot b e).1)
 clear hF hrow hreps hnm hsub hgd
 have HL1 := hid hlen
 obtain ⟨i0,hi,hz0,hz1,hz2⟩ := info_parts infoU8
 have X1 := hid hi
 have X2 := hid hz0
 have X3 := hid hz1
 have X4 := hid hz2
 have HX0 := hid (heap_new w (.cells #[.int .i64 7,.int .i64 0,.complex .f64 0 0,.string ⟨#[]⟩,.int .i64 0,.int .u32 0,.int .u64 0,nilV,.slice la l.length lc] 31))
 have HSa := hid (h.stay ((Below.refl _ w).alloc (Nat.le_refl _) (.cells #[.int .i64 7,.int .i64 0,.complex .f64 0 0,.string ⟨#[]⟩,.int .i64 0,.int .u32 0,.int .u64 0,nilV,.slice la l.length lc] 31)))
 have HNf := hid (show ¬ wfoot Wb p m v a out.length c w.heap.size from fun e => by have := (h.foot _ e).2; omega)
 have HBl := hid (show w.heap.size < (w.alloc (.cells #[.int .i64 7,.int .i64 0,.complex .f64 0 0,.string ⟨#[]⟩,.int .i64 0,.int .u32 0,.int .u64 0,nilV,.slice la l.length lc] 31)).heap.size by simp)
 have HBw := hid h.bl
 clear h hi hz0 hz1 hz2 hlen
 go_enter Try.func39,Try.ntmps39
 go_wp2_with fail
 obtain ⟨b0,hb0⟩ : ∃ b,w.heap.size = b := ⟨_,rfl⟩
 rw [hb0] at HNf HBl HX0 ⊢
 have HB0 := hid hb0
 clear hb0
 generalize w.alloc (.cells #[.int .i64 7,.int .i64 0,.complex .f64 0 0,.string ⟨#[]⟩,.int .i64 0,.int .u32 0,.int .u64 0,nilV,.slice la l.length lc] 31) = w1 at *
 have HS1 := hid (HSa.out.wr.stay (Below.refl _ w1))
 have HX1 := hid ((HS1.out.keep HBl.out HNf.out).trans HX0.out)
 obtain ⟨k0,k1,k2,k3,k4,k5,k6,k7,k8⟩ := NineAt.of_block HX1.out
 have wc0 := HS1.out.wr.c0
 have wc1 := HS1.out.wr.c1
 have wf0 := HS1.out.wr.fz 0
 have hwl := HS1.out.wr.wl
 have hbn : ¬ b0 = Wb := fun e => HNf.out (.inl e)
 have HM1 := hid (show out.length + 1 ≤ maxLen by have := HL1.out; unfold maxLen; omega)
 have HM2 := hid (show (out.length + 1) * 1 ≤ 140737488355328 by have := HL1.out; omega)
 have HM3 : Hid (B ≤ (w1.drew.alloc (.cells #[.int .u8 7] 5)).heap.size) := hid (by have := HS1.out.wr.bl; simp; omega)
 obtain ⟨o2,hO2⟩ : ∃ x,out ++ [UInt8.ofNat 7] = x := ⟨_,rfl⟩
 have HL2 := hid (show o2.length + (44 * sizeTs l + 230) ≤ 1000000000 by rw [← hO2,List.length_append,show ([UInt8.ofNat 7] : List UInt8).length = 1 from (rfl)]; have := HL1.out; omega)
 have HO2 := hid hO2
 clear hO2
 go_cut [3] from 9 to 20 (fun t3 wx => t3 = .pointer (some ⟨b0,0,none⟩) ∧ ∃ (v' : Value) (a' : Option Addr) (c' : Nat),WrStep B Wb p m v a c out w1 v' a' c' o2 names wx)
 case first =>
  go_region_law (first
   | (refine step_app (by rfl) (.tmp 13) (.tmp 17) 22 22 (by rfl) B 5 i0 (.int .u8 0) 1 1 Try.underlying22 X1.out X2.out X3.out X4.out rfl (by decide) (.slice a out.length c) out.length (out.map cellB) (by rfl) (HS1.out.wr.row.drew.alloc _) (.slice (some ⟨w1.heap.size,0,none⟩) 1 1) 1 [.int .u8 7] (by rfl) (src_one w1.drew Try.underlying22 _ _ rfl) HM1.out HM2.out HM3.out ?_; intro a4 c4 wz ho4 hg4 hl4; have HA := hid (HS1.out.wr.app (W0 := (w1.drew.alloc (.cells #[.int .u8 7] 5))) ((Below.refl _ w1).drew.alloc (Nat.le_refl _) _) (news := [UInt8.ofNat 7]) (k := 1) (rfl) hg4 (by rw [cell1 (x := 7) (by decide) rfl]; exact ho4) hl4); have hK := HS1.out.wr.kept (W0 := (w1.drew.alloc (.cells #[.int .u8 7] 5))) ((Below.refl _ w1).drew.alloc (Nat.le_refl _) _) hg4; obtain ⟨y4,z4⟩ := hK; clear ho4 hg4 hl4))
  all_goals
   go_wp2_with fail
   go_meet
   exact ⟨rfl,_,_,_,by rw [← HO2.out]; exact HS1.out.trans HA.out⟩
 clear k0 k1 k2 k3 k4 k5 k6 k7 k8 wc0 wc1 wf0 hwl hbn
 obtain ⟨rfl,v2,a2,c2,hs⟩ := hcut
 have HS2 := hid hs
 clear hs HM1 HM2 HM3
 obtain ⟨w2,rfl⟩ : ∃ x,x = wc := ⟨_,rfl⟩
 have HX2 := hid ((HS2.out.keep HBl.out HNf.out).trans HX0.out)
 obtain ⟨k0,k1,k2,k3,k4,k5,k6,k7,k8⟩ := NineAt.of_block HX2.out
 have wc0 := HS2.out.wr.c0
 have wc1 := HS2.out.wr.c1
 have wf0 := HS2.out.wr.fz 0
 have hwl := HS2.out.wr.wl
 have hbn : ¬ b0 = Wb := fun e => HNf.out (.inl e)
 have hnw : IntKind.u64.wrap (l.length : Int) = l.length := wrap_u64_nat _ (by omega)
 go_wp2_with fail
 clear k0 k1 k2 k3 k4 k5 k6 k7 k8 wc0 wc1 wf0 hwl hbn
 refine (wwide_any B Wb p m v2 a2 c2 o2 names l.length (by omega) w2 HS2.out.wr (by have := HL2.out; omega)).mono ?_
 rintro e w3 ⟨rfl,v3,a3,c3,hs⟩
 have HS3 := hid (HS2.out.trans hs)
 clear hs
 obtain ⟨o3,hO3⟩ : ∃ x,o2 ++ wideB l.length = x := ⟨_,rfl⟩
 have HL3 := hid (show o3.length + (44 * sizeTs l + 215) ≤ 1000000000 by rw [← hO3,List.length_append]; have := HL2.out; have := wideB_len l.length; omega)
 rw [hO3] at HS3
 have HO3 := hid hO3
 clear hO3
 clear hnw
 have HX3 := hid ((HS3.out.keep HBl.out HNf.out).trans HX0.out)
 obtain ⟨k0,k1,k2,k3,k4,k5,k6,k7,k8⟩ := NineAt.of_block HX3.out
 have wc0 := HS3.out.wr.c0
 have wc1 := HS3.out.wr.c1
 have wf0 := HS3.out.wr.fz 0
 have hwl := HS3.out.wr.wl
 have hbn : ¬ b0 = Wb := fun e => HNf.out (.inl e)
 go_wp2_with fail
 clear k0 k1 k2 k3 k4 k5 k6 k7 k8 wc0 wc1 wf0 hwl hbn HX3
 have HSw := hid (fun b (e : wfoot Wb p m v a out.length c b) => HFt.out b e)
 have hB1 : Hid (∀ b,F b → b < w.heap.size → w1.heap[b]? = w.heap[b]?) := hid (fun b e _ => (WrStep.below HSa.out.wr (HS1.out)).block b (HF.out b e) |>.trans (HSa.out.turn.block b (by have := HF.out b e; have := HBv.out; omega) (fun e2 => by have := (HSw.out b e2); have := HF.out b e; omega)))
 go_loopw [134] (fun t134 wr => ∃ (i : Nat) (v' : Value) (a' : Option Addr) (c' : Nat),i ≤ l.length ∧ t134 = .int .i64 i ∧ WrStep B Wb p m v a c out w1 v' a' c' (o3 ++ (encTs (l.take i) names).1) (encTs (l.take i) names).2 wr) (fun t134 _ => l.length - (intOf t134).toNat)
 case atStart => exact ⟨0,v3,a3,c3,Nat.zero_le _,rfl,by simpa [encTs] using HS3.out⟩
 case round =>
  obtain ⟨i,v4,a4,c4,hi,rfl,hS⟩ := hrel
  have HS4 := hid hS
  clear hS
  by_cases hlt : i < l.length
  ·obtain ⟨g,cap,hv,hg,hd2,bv2,pv2,hrep2,⟨l2,hl2⟩,h9⟩ := HR.out.nine HRp.out hlt
   have hgB := HF.out g hg
   have hBr := hid (WrStep.below HSa.out.wr HS4.out)
   cases hv
   have hkeep : ∀ b,F b → b < w.heap.size → wr.heap[b]? = w.heap[b]? := fun b e hb => (hBr.out.block b (HF.out b e)).trans (hB1.out b e hb)
   have h9' := h9.block (hkeep g hg (by have := HBv.out; omega))
   have HRep := hid (Rep.keep hkeep _ _ hrep2)
   obtain ⟨n0,n1,n2,n3,n4,n5,n6,n7,n8⟩ := h9'
   obtain ⟨hk2,hn2,hre2,him2,hs2,hnode2,hboot2,hidn2,hb2⟩ := hd2
   obtain ⟨ba2,bn2,bc2,rfl⟩ : ∃ a n c,bv2 = .slice a n c := by
    obtain ⟨bv3,pv3,e,hb3,_⟩ := hl2 ▸ hrep2
    cases e
    obtain ⟨a,c,e⟩ := row_slice hb3.1
    exact ⟨a,_,c,e⟩
   obtain ⟨pa2,pn2,pc2,rfl⟩ : ∃ a n c,pv2 = .slice a n c := by
    obtain ⟨bv3,pv3,e,_,vs2,hb3,_⟩ := hl2 ▸ hrep2
    cases e
    obtain ⟨a,c,e⟩ := row_slice hb3.1
    exact ⟨a,_,c,e⟩
   have hi1 : (i : Int) < (l.length : Int) := by omega
   have hi0 : (0 : Int) ≤ (i : Int) := by omega
   have HNi := hid (encTs_names (l.take i) names)
   have HZ1 := hid (sizeTs_take hlt)
   have HZ2 := hid (sizeTs_le (l := l) (i + 1))
   have HLi := hid (encTs_len44 HGd.out i names)
   have HMem := hid (List.getElem_mem hlt)
   have H1 := HSub.out l[i] HMem.out v4 a4 c4 (o3 ++ (encTs (l.take i) names).1) (encTs (l.take i) names).2 _ (wr.alloc (.cells (hdC ⟨hk2,hn2,hre2,him2,hs2,hnode2,hboot2,hidn2,hb2⟩ (.slice ba2 bn2 bc2) (.slice pa2 pn2 pc2)) 31)) (HS4.out.wr.below ((Below.refl _ wr).alloc (Nat.le_refl _) _)) (Rep.keep (fun b _ hb => ((Below.refl _ wr).alloc (Nat.le_refl _) _).block b hb) _ _ HRep.out) (by have := HNi.out; have := HZ1.out; have := HZ2.out; have := HNm.out; omega) (by rw [List.length_append]; have := HLi.out; have := HZ1.out; have := HZ2.out; have := HL3.out; omega)
   have H1 := hid H1
   clear h9 hkeep hrep2 hl2 hg hgB HR
   go_wp2_with fail
   clear n0 n1 n2 n3 n4 n5 n6 n7 n8
   refine H1.out.mono ?_
   rintro e w5 ⟨rfl,v5,a5,c5,hs⟩
   have HS5 := hid ((HS4.out.trans (HS4.out.wr.stay ((Below.refl _ wr).alloc (Nat.le_refl _) (.cells (hdC ⟨hk2,hn2,hre2,him2,hs2,hnode2,hboot2,hidn2,hb2⟩ (.slice ba2 bn2 bc2) (.slice pa2 pn2 pc2)) 31)))).trans hs)
   clear hs H1
   go_wp2_with fail
   go_round
   case rel => exact ⟨i + 1,v5,a5,c5,by omega,by go_num,by rw [encTs_take hlt]; simp only; rw [← List.append_assoc]; exact HS5.out⟩
   case measure => simp [intOf]; omega
  ·obtain rfl : i = l.length := by omega
   have hd1 : decide (l.length < l.length) = false := decide_eq_false (by omega)
   go_wp2_with fail
   go_end0
   have hS := HS4.out
   rw [List.take_length] at hS
   exact ⟨rfl,v4,a4,c4,by rw [show out ++ (UInt8.ofNat 7 :: (wideB l.length ++ (encTs l names).1)) = o3 ++ (encTs l names).1 by rw [← HO3.out,← HO2.out]; simp]; exact HSa.out.trans hS⟩
end Go.Proofs.Ytgadkiljnebicaa
