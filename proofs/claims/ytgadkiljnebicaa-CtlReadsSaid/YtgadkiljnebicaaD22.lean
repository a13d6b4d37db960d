/- Several texts in one. -/
import Derived.Test.YtgadkiljnebicaaD16
import Derived.Test.YtgadkiljnebicaaD17
import Derived.Test.YtgadkiljnebicaaD19
import Derived.Test.YtgadkiljnebicaaD18
import Derived.Test.YtgadkiljnebicaaD20
import Derived.Test.YtgadkiljnebicaaD09
import Derived.Test.YtgadkiljnebicaaD15
import Derived.Test.YtgadkiljnebicaaD05
import Derived.Test.YtgadkiljnebicaaD06
import Derived.Test.YtgadkiljnebicaaD14
namespace Go.Proofs.Ytgadkiljnebicaa
open Go.Lib (hid)
open Go.RowKit
set_option maxRecDepth 100000
theorem rpart_any (R p m : Nat) (bv : Value) (bs : List UInt8) : ∀ (rest : Nat),rest ≤ 24 → ∀ (d : Int),d = 25 - (rest : Int) → ∀ (v : Value) (s : St) (w : World),RdAt w R p m v bv bs s → s.names.length ≤ s.n →
  Calls Try.prog 25 #[.pointer (some ⟨R,0,none⟩),.int .i64 d] w (PartPost R p m v bv bs w (partP bs rest s)) := by
 intro rest
 induction rest with
 | zero =>
  intro _ d hd v s w h hn
  exact rp_deep R p m v bv bs d (by omega) w
 | succ rest ih =>
  intro hr d hd v s w h hn
  have hd24 : d ≤ 24 := by omega
  unfold partP
  by_cases hb : 4096 < s.n + 1
  ·rw [if_pos hb]
   exact rp_big R p m v bv bs s d hd24 w h hb
  ·rw [if_neg hb]
   have hn1 : s.n + 1 ≤ 4096 := by omega
   cases ho : oneP bs { s with n := s.n + 1 } with
   | error x => exact rp_short R p m v bv bs s x d hd24 w h hn1 ho
   | ok y =>
    obtain ⟨c,s1⟩ := y
    obtain ⟨o1,o2,_⟩ := oneP_ok ho
    have n1 : s1.n = s.n + 1 := by rw [o2]
    have n2 : s1.names = s.names := by rw [o2]
    have hsn : ∀ s t s',s.names.length ≤ s.n → partP bs rest s = .ok (t,s') → s'.names.length ≤ s'.n := fun s t s' hn h => (part_read bs rest s t s' h).nms hn
    have hsub : ∀ v s w,RdAt w R p m v bv bs s → s.names.length ≤ s.n → Calls Try.prog 25 #[.pointer (some ⟨R,0,none⟩),.int .i64 (d + 1)] w (PartPost R p m v bv bs w (partP bs rest s)) :=
     fun v s w h hn => ih (by omega) _ (by omega) v s w h hn
    show Calls _ _ _ _ (PartPost R p m v bv bs w (kindP bs (partP bs rest) c s1))
    by_cases c1 : c = 1
    ·subst c1; exact rp1 R p m v bv bs s s1 _ d hd24 w h hn1 ho
    by_cases c2 : c = 2
    ·subst c2; exact rp2 R p m v bv bs s s1 _ d hd24 w h hn1 ho
    by_cases c3 : c = 3
    ·subst c3; exact rp3 R p m v bv bs s s1 _ d hd24 w h hn1 ho (by rw [n2]; omega)
    by_cases c4 : c = 4
    ·subst c4; exact rp4 R p m v bv bs s s1 _ d hd24 w h hn1 ho
    by_cases c5 : c = 5
    ·subst c5; exact rp5 R p m v bv bs s s1 _ d hd24 w h hn1 ho
    by_cases c6 : c = 6
    ·subst c6; exact rp6 R p m v bv bs s s1 _ d hd24 w h hn1 ho n1 (by rw [n1,n2]; omega) (by omega) hsn hsub
    by_cases c7 : c = 7
    ·subst c7; exact rp7 R p m v bv bs s s1 _ d hd24 w h hn1 ho n1 (by rw [n1,n2]; omega) (by omega) hsn hsub
    by_cases c8 : c = 8
    ·subst c8; exact rp8 R p m v bv bs s s1 _ d hd24 w h hn1 ho n1
    ·exact rp_bad R p m v bv bs s s1 c _ d hd24 w h hn1 ho o1 (by omega)
theorem rwide_e (ba : Option Addr) (bl bc : Nat) (i n : Int) (na : Option Addr) (nl nc : Nat) (c : Int) (hc : ¬ c = 0) (w : World) : Calls Try.prog 48 #[stV ba bl bc i n na nl nc c] w (RB w (.tuple #[stV ba bl bc i n na nl nc c,.int .u64 0])) := by
 have h1 : (c == 0) = false := beq_eq_false_iff_ne.2 hc
 go_enter Try.func48,Try.ntmps48
 go_wp2_with fail
 refine wp_loop_rounds 1 ?_
 rw [rounds_succ]
 go_wp2_with fail
 exact bodyPost_ret (v := .tuple #[stV ba bl bc i n na nl nc c,.int .u64 0]) (by simp [results,Try.results48,go_sem]) rfl ⟨rfl,((Below.refl w.heap.size w).alloc (Nat.le_refl _) _).alloc (by simp) _⟩
theorem oneP_err {bs : List UInt8} {s : St} {x : Int} (h : oneP bs s = .error x) : x = 72 := by
 unfold oneP at h
 split at h
 ·cases h
 ·cases h; rfl
def rwRel (ba : Option Addr) (bc : Nat) (bs : List UInt8) (n : Nat) (na : Option Addr) (nl nc : Nat) (X : Nat) (W : World) (r0 : Except Int (Nat × St)) (nm : List ByteArray) (t4 t5 : Value) (w : World) : Prop :=
 ∃ (rest k acc : Nat) (s : St),t4 = .int .u64 acc ∧ t5 = .int .i64 k ∧ k + rest = 9 ∧ acc < 2 ^ (7 * k) ∧ s.i ≤ bs.length ∧ s.n = n ∧ s.names = nm ∧ wideP bs (rest + 1) k acc s = r0 ∧
  w.heap[X]? = some (.cells #[.slice ba bs.length bc,.int .i64 (s.i : Int),.int .i64 (s.n : Int),.slice na nl nc,.int .i64 0] 80 (0,0)) ∧ w.heap[X + 1]? = some (.cells #[nilV,.int .i64 0,.int .i64 0,nilV,.int .i64 0] 80 (0,0)) ∧ Below X W w
set_option maxHeartbeats 2000000 in
theorem rwide_any (ba : Option Addr) (bc : Nat) (bs : List UInt8) (s : St) (na : Option Addr) (nc : Nat) (w : World) (h : RfAt w ba bc bs s na nc) :
  Calls Try.prog 48 #[stV ba bs.length bc s.i s.n na s.names.length nc 0] w (RP1 ba bs.length bc na s.names.length nc w (fun c => .int .u64 (c : Nat)) (fun u => ∃ q : Nat,u = .int .u64 q ∧ q < 18446744073709551616) (wideN bs s)) := by
 have H := hid h
 have HIL := hid h.ile
 clear h
 generalize hnl : s.names.length = nl at *
 have HNL := hid hnl
 clear hnl
 go_enter Try.func48,Try.ntmps48
 go_wp2_with fail
 have hXY : ¬ w.heap.size = w.heap.size + 1 := by omega
 have HX1 : Hid (((w.alloc (.cells #[.slice ba bs.length bc,.int .i64 (s.i : Int),.int .i64 (s.n : Int),.slice na nl nc,.int .i64 0] 80)).alloc (.cells #[nilV,.int .i64 0,.int .i64 0,nilV,.int .i64 0] 80)).heap[w.heap.size]? = some (.cells #[.slice ba bs.length bc,.int .i64 (s.i : Int),.int .i64 (s.n : Int),.slice na nl nc,.int .i64 0] 80 (0,0))) := (Below.heap_alloc _ _ _ (by simp)).trans (heap_new w _)
 have HY1 : Hid (((w.alloc (.cells #[.slice ba bs.length bc,.int .i64 (s.i : Int),.int .i64 (s.n : Int),.slice na nl nc,.int .i64 0] 80)).alloc (.cells #[nilV,.int .i64 0,.int .i64 0,nilV,.int .i64 0] 80)).heap[w.heap.size + 1]? = some (.cells #[nilV,.int .i64 0,.int .i64 0,nilV,.int .i64 0] 80 (0,0))) := heap_new_at (by simp)
 have HB1 := hid (((Below.refl w.heap.size w).alloc (Nat.le_refl _) (.cells #[.slice ba bs.length bc,.int .i64 (s.i : Int),.int .i64 (s.n : Int),.slice na nl nc,.int .i64 0] 80)).alloc (by simp) (.cells #[nilV,.int .i64 0,.int .i64 0,nilV,.int .i64 0] 80))
 generalize ((w.alloc (.cells #[.slice ba bs.length bc,.int .i64 (s.i : Int),.int .i64 (s.n : Int),.slice na nl nc,.int .i64 0] 80)).alloc (.cells #[nilV,.int .i64 0,.int .i64 0,nilV,.int .i64 0] 80)) = w1 at *
 go_loopw [4,5] (fun t4 t5 wr => rwRel ba bc bs s.n na nl nc w.heap.size w (wideN bs s) s.names t4 t5 wr) (fun _ t5 _ => 10 - (intOf t5).toNat)
 case atStart => exact ⟨9,0,0,s,rfl,rfl,rfl,by decide,HIL.out,rfl,rfl,rfl,HX1.out,HY1.out,HB1.out⟩
 case round =>
  obtain ⟨rest,k,acc,s1,rfl,rfl,hk,hacc,hile,hn,hnm,hr,hX,hY,hB⟩ := hrel
  have HX2 := hid hX
  have HY2 := hid hY
  have HB2 := hid hB
  have HR := hid hr
  have HN := hid hn
  have HNM := hid hnm
  have HI := hid hile
  clear hX hY hB hr hn hnm hile HX1 HY1 HB1
  have HRf : Hid (RfAt wr ba bc bs s1 na nc) := ⟨H.out.src.below HB2.out,by have h := H.out.nms.below HB2.out; rw [HNM.out]; exact h,H.out.len,HI.out,by rw [HN.out]; exact H.out.nle⟩
  have H1 := rone_any ba bc bs s1 na nc wr HRf.out
  rw [show s1.names.length = nl by rw [HNM.out]; exact HNL.out] at H1
  obtain ⟨k0,k1,k2,k3,k4⟩ := FiveAt.of_block HX2.out
  generalize wr = w2 at *
  cases ho : oneP bs s1 with
  | error x =>
   rw [ho] at H1
   have hx := oneP_err ho
   subst hx
   have HK := hid (show wideN bs s = .error 72 by rw [← HR.out]; simp only [wideP,ho])
   have H1 := hid H1
   have hw0 : IntKind.u64.wrap (acc : Int) = acc := wrap_u64_nat acc (Nat.lt_of_lt_of_le hacc (Nat.le_trans (pow_le9 (by omega)) (by decide)))
   have hacc64 : acc < 18446744073709551616 := Nat.lt_of_lt_of_le hacc (Nat.le_trans (pow_le9 (by omega)) (by decide))
   have HQ := hid hacc64
   clear ho hacc64
   go_wp2_with fail
   refine H1.out.mono ?_
   rintro e w3 ⟨i3,n3,u3,rfl,rfl,hb⟩
   clear k0 k1 k2 k3 k4
   have HX3 := hid ((hb.block _ (blk_lt HX2.out)).trans HX2.out)
   have HY3 := hid ((hb.block _ (blk_lt HY2.out)).trans HY2.out)
   have HB3 := hid (HB2.out.trans (hb.mono HB2.out.size))
   clear hb HB2 HX2 HY2
   have HX3a := hid ((Below.heap_alloc w3 (.cells #[.slice ba bs.length bc,.int .i64 i3,.int .i64 n3,.slice na nl nc,.int .i64 72] 80) _ (blk_lt HX3.out)).trans HX3.out)
   have HY3a := hid ((Below.heap_alloc w3 (.cells #[.slice ba bs.length bc,.int .i64 i3,.int .i64 n3,.slice na nl nc,.int .i64 72] 80) _ (blk_lt HY3.out)).trans HY3.out)
   have HB3a := hid (HB3.out.alloc (by have := HB3.out.size; omega) (.cells #[.slice ba bs.length bc,.int .i64 i3,.int .i64 n3,.slice na nl nc,.int .i64 72] 80))
   go_upto_region 7 with (refine wpList_store_row rfl 80 (.tmp 1) (.tmp 18) rfl (w.heap.size) #[.slice ba bs.length bc,.int .i64 i3,.int .i64 n3,.slice na nl nc,.int .i64 72] rfl rfl 80 #[.slice ba bs.length bc,.int .i64 (s1.i : Int),.int .i64 (s1.n : Int),.slice na nl nc,.int .i64 0] HX3a.out infoS rfl (by simp [Array.all,Value.oneCell']) ?_)
   generalize (w3.alloc (.cells #[.slice ba bs.length bc,.int .i64 i3,.int .i64 n3,.slice na nl nc,.int .i64 72] 80)) = w3a at *
   have HX4 := hid (setRow_heap w3a (w.heap.size) #[.slice ba bs.length bc,.int .i64 (s1.i : Int),.int .i64 (s1.n : Int),.slice na nl nc,.int .i64 0] #[.slice ba bs.length bc,.int .i64 i3,.int .i64 n3,.slice na nl nc,.int .i64 72] 80 (0,0) HX3a.out)
   have HY4 := hid ((setRow_other w3a (w.heap.size) (w.heap.size + 1) #[.slice ba bs.length bc,.int .i64 i3,.int .i64 n3,.slice na nl nc,.int .i64 72] (by omega)).trans HY3a.out)
   have HB4 := hid (HB3a.out.trans ((setRow_turn w3a (w.heap.size) #[.slice ba bs.length bc,.int .i64 i3,.int .i64 n3,.slice na nl nc,.int .i64 72]).below HB3a.out.size (fun i e => by omega)))
   clear HB3 HB3a HX3 HX3a HY3 HY3a
   generalize w3a.setRow (w.heap.size) #[.slice ba bs.length bc,.int .i64 i3,.int .i64 n3,.slice na nl nc,.int .i64 72] = w4 at *
   obtain ⟨k0,k1,k2,k3,k4⟩ := FiveAt.of_block HX4.out
   have hkc : (((k : Int) == 9) = false ∧ ¬ k = 9) ∨ (((k : Int) == 9) = true ∧ k = 9) := by
    by_cases e : k = 9
    ·exact .inr ⟨by rw [beq_iff_eq]; omega,e⟩
    ·exact .inl ⟨by rw [beq_eq_false_iff_ne]; omega,e⟩
   rcases hkc with ⟨hk9,hk9'⟩ | ⟨hk9,hk9'⟩
   all_goals
    go_wp2_with fail
    refine (rmust_e _ _ _ _ _ _ _ _ 72 (by decide) _ _).mono ?_
    rintro e w5 ⟨rfl,hb⟩
    clear k0 k1 k2 k3 k4
    have HX5 := hid ((hb.block _ (blk_lt HX4.out)).trans HX4.out)
    have HY5 := hid ((hb.block _ (blk_lt HY4.out)).trans HY4.out)
    have HB5 := hid (HB4.out.trans (hb.mono HB4.out.size))
    clear hb HB4 HX4 HY4
    go_wp2_with (refine wpList_store_row rfl 80 (.tmp 2) (.tmp 45) rfl (w.heap.size + 1) #[.slice ba bs.length bc,.int .i64 i3,.int .i64 n3,.slice na nl nc,.int .i64 72] rfl rfl 80 #[nilV,.int .i64 0,.int .i64 0,nilV,.int .i64 0] HY5.out infoS rfl (by simp [Array.all,Value.oneCell']) ?_)
    have HY6 := hid (setRow_heap w5 (w.heap.size + 1) #[nilV,.int .i64 0,.int .i64 0,nilV,.int .i64 0] #[.slice ba bs.length bc,.int .i64 i3,.int .i64 n3,.slice na nl nc,.int .i64 72] 80 (0,0) HY5.out)
    have HX6 := hid ((setRow_other w5 (w.heap.size + 1) (w.heap.size) #[.slice ba bs.length bc,.int .i64 i3,.int .i64 n3,.slice na nl nc,.int .i64 72] (by omega)).trans HX5.out)
    have HB6 := hid (HB5.out.trans ((setRow_turn w5 (w.heap.size + 1) #[.slice ba bs.length bc,.int .i64 i3,.int .i64 n3,.slice na nl nc,.int .i64 72]).below HB5.out.size (fun i e => by omega)))
    clear HB5 HY5 HX5
    generalize w5.setRow (w.heap.size + 1) #[.slice ba bs.length bc,.int .i64 i3,.int .i64 n3,.slice na nl nc,.int .i64 72] = w6 at *
    go_wp2_with fail
    obtain ⟨k0,k1,k2,k3,k4⟩ := FiveAt.of_block HY6.out
    exact bodyPost_ret (v := .tuple #[stV ba bs.length bc i3 n3 na nl nc 72,.int .u64 (acc : Int)]) (by simp [results,Try.results48,go_sem,k0,k1,k2,k3,k4]) rfl (by rw [HK.out]; exact ⟨_,_,_,rfl,⟨acc,rfl,HQ.out⟩,HB6.out⟩)
  | ok y =>
   obtain ⟨c,s2⟩ := y
   obtain ⟨hc,hs2,hi2⟩ := oneP_ok ho
   have HO := hid (show wideN bs s = if k = 9 ∧ 1 < c then .error 73
    else if 128 ≤ c then wideP bs rest (k + 1) (acc + c % 128 * 2 ^ (7 * k)) s2
    else if c = 0 ∧ 0 < k then .error 73
    else .ok (acc + c % 128 * 2 ^ (7 * k),s2) by rw [← HR.out]; simp only [wideP,ho])
   have HI2 := hid (show s2.i ≤ bs.length by rw [hs2]; exact hi2)
   have HN2 := hid (show s2.n = s.n by rw [hs2]; exact HN.out)
   have HNM2 := hid (show s2.names = s.names by rw [hs2]; exact HNM.out)
   rw [ho] at H1
   have H1 := hid H1
   clear ho hs2 hi2
   go_wp2_with fail
   refine H1.out.mono ?_
   rintro e w3 ⟨rfl,hb⟩
   clear k0 k1 k2 k3 k4
   have HX3 := hid ((hb.block _ (blk_lt HX2.out)).trans HX2.out)
   have HY3 := hid ((hb.block _ (blk_lt HY2.out)).trans HY2.out)
   have HB3 := hid (HB2.out.trans (hb.mono HB2.out.size))
   clear hb HB2 HX2 HY2
   have HX3a := hid ((Below.heap_alloc w3 (.cells #[.slice ba bs.length bc,.int .i64 (s2.i : Int),.int .i64 (s2.n : Int),.slice na nl nc,.int .i64 0] 80) _ (blk_lt HX3.out)).trans HX3.out)
   have HY3a := hid ((Below.heap_alloc w3 (.cells #[.slice ba bs.length bc,.int .i64 (s2.i : Int),.int .i64 (s2.n : Int),.slice na nl nc,.int .i64 0] 80) _ (blk_lt HY3.out)).trans HY3.out)
   have HB3a := hid (HB3.out.alloc (by have := HB3.out.size; omega) (.cells #[.slice ba bs.length bc,.int .i64 (s2.i : Int),.int .i64 (s2.n : Int),.slice na nl nc,.int .i64 0] 80))
   go_upto_region 7 with (refine wpList_store_row rfl 80 (.tmp 1) (.tmp 18) rfl (w.heap.size) #[.slice ba bs.length bc,.int .i64 (s2.i : Int),.int .i64 (s2.n : Int),.slice na nl nc,.int .i64 0] rfl rfl 80 #[.slice ba bs.length bc,.int .i64 (s1.i : Int),.int .i64 (s1.n : Int),.slice na nl nc,.int .i64 0] HX3a.out infoS rfl (by simp [Array.all,Value.oneCell']) ?_)
   generalize (w3.alloc (.cells #[.slice ba bs.length bc,.int .i64 (s2.i : Int),.int .i64 (s2.n : Int),.slice na nl nc,.int .i64 0] 80)) = w3a at *
   have HX4 := hid (setRow_heap w3a (w.heap.size) #[.slice ba bs.length bc,.int .i64 (s1.i : Int),.int .i64 (s1.n : Int),.slice na nl nc,.int .i64 0] #[.slice ba bs.length bc,.int .i64 (s2.i : Int),.int .i64 (s2.n : Int),.slice na nl nc,.int .i64 0] 80 (0,0) HX3a.out)
   have HY4 := hid ((setRow_other w3a (w.heap.size) (w.heap.size + 1) #[.slice ba bs.length bc,.int .i64 (s2.i : Int),.int .i64 (s2.n : Int),.slice na nl nc,.int .i64 0] (by omega)).trans HY3a.out)
   have HB4 := hid (HB3a.out.trans ((setRow_turn w3a (w.heap.size) #[.slice ba bs.length bc,.int .i64 (s2.i : Int),.int .i64 (s2.n : Int),.slice na nl nc,.int .i64 0]).below HB3a.out.size (fun i e => by omega)))
   clear HB3 HB3a HX3 HX3a HY3 HY3a
   generalize w3a.setRow (w.heap.size) #[.slice ba bs.length bc,.int .i64 (s2.i : Int),.int .i64 (s2.n : Int),.slice na nl nc,.int .i64 0] = w4 at *
   obtain ⟨k0,k1,k2,k3,k4⟩ := FiveAt.of_block HX4.out
   by_cases hA : k = 9 ∧ 1 < c
   ·have HW := hid (show wideN bs s = .error 73 by rw [HO.out,if_pos hA])
    obtain ⟨rfl,hA2⟩ := hA
    have hA3 : (1 : Int) < (c : Int) := by omega
    clear HO
    go_wp2_with fail
    refine (rfail0 _ _ _ _ _ _ _ _ 73 _).mono ?_
    rintro e w5 ⟨rfl,hb⟩
    clear k0 k1 k2 k3 k4
    have HX5 := hid ((hb.block _ (blk_lt HX4.out)).trans HX4.out)
    have HY5 := hid ((hb.block _ (blk_lt HY4.out)).trans HY4.out)
    have HB5 := hid (HB4.out.trans (hb.mono HB4.out.size))
    clear hb HB4 HX4 HY4
    go_wp2_with (refine wpList_store_row rfl 80 (.tmp 2) (.tmp 26) rfl (w.heap.size + 1) #[.slice ba bs.length bc,.int .i64 (s2.i : Int),.int .i64 (s2.n : Int),.slice na nl nc,.int .i64 73] rfl rfl 80 #[nilV,.int .i64 0,.int .i64 0,nilV,.int .i64 0] HY5.out infoS rfl (by simp [Array.all,Value.oneCell']) ?_)
    have HY6 := hid (setRow_heap w5 (w.heap.size + 1) #[nilV,.int .i64 0,.int .i64 0,nilV,.int .i64 0] #[.slice ba bs.length bc,.int .i64 (s2.i : Int),.int .i64 (s2.n : Int),.slice na nl nc,.int .i64 73] 80 (0,0) HY5.out)
    have HX6 := hid ((setRow_other w5 (w.heap.size + 1) (w.heap.size) #[.slice ba bs.length bc,.int .i64 (s2.i : Int),.int .i64 (s2.n : Int),.slice na nl nc,.int .i64 73] (by omega)).trans HX5.out)
    have HB6 := hid (HB5.out.trans ((setRow_turn w5 (w.heap.size + 1) #[.slice ba bs.length bc,.int .i64 (s2.i : Int),.int .i64 (s2.n : Int),.slice na nl nc,.int .i64 73]).below HB5.out.size (fun i e => by omega)))
    clear HB5 HY5 HX5
    generalize w5.setRow (w.heap.size + 1) #[.slice ba bs.length bc,.int .i64 (s2.i : Int),.int .i64 (s2.n : Int),.slice na nl nc,.int .i64 73] = w6 at *
    go_wp2_with fail
    obtain ⟨k0,k1,k2,k3,k4⟩ := FiveAt.of_block HY6.out
    exact bodyPost_ret (v := .tuple #[stV ba bs.length bc s2.i s2.n na nl nc 73,.int .u64 0]) (by simp [results,Try.results48,go_sem,k0,k1,k2,k3,k4]) rfl (by rw [HW.out]; exact ⟨_,_,_,rfl,⟨0,rfl,by decide⟩,HB6.out⟩)
   ·have hd : c % 128 < 128 := Nat.mod_lt _ (by decide)
    have h9 : k = 9 → c % 128 ≤ 1 := fun e => by omega
    obtain ⟨d,hdd⟩ : ∃ d,c % 128 = d := ⟨_,rfl⟩
    rw [hdd] at hd h9 HO
    have hr : ((c : Int) % 128) = (d : Int) := by omega
    have HS := hid (wrapK d k hd (by omega) h9)
    have HL := hid (acc_lt (k := k) hacc hd)
    have hsum : acc + d * 2 ^ (7 * k) < 18446744073709551616 := by
     by_cases e9 : k = 9
     ·subst e9
      have h1 := h9 rfl
      have h2 : d * 2 ^ (7 * 9) ≤ 1 * 2 ^ (7 * 9) := Nat.mul_le_mul_right _ h1
      have h3 : acc < 9223372036854775808 := hacc
      have h4 : d * 2 ^ (7 * 9) ≤ 9223372036854775808 := h2
      omega
     ·exact Nat.lt_of_lt_of_le HL.out (Nat.le_trans (pow_le9 (k := k + 1) (by omega)) (by decide))
    have hk9 : k ≤ 9 := by omega
    have hw := wrap_u64_nat d (by omega)
    rw [if_neg hA] at HO
    generalize d * 2 ^ (7 * k) = y at *
    have HS2 := HS.out
    have hadd : IntKind.u64.wrap ((acc : Int) + (y : Int)) = (acc : Int) + (y : Int) := wraps_u64 _ (by omega) (by omega)
    have HQ := hid hsum
    clear HS hsum hdd
    have hkc : (((k : Int) == 9) = false ∧ ¬ k = 9) ∨ (((k : Int) == 9) = true ∧ (c : Int) ≤ 1) := by
     rcases Nat.lt_or_ge k 9 with hk8 | hk8
     ·exact .inl ⟨by rw [beq_eq_false_iff_ne]; omega,by omega⟩
     ·exact .inr ⟨by rw [beq_iff_eq]; omega,by omega⟩
    clear h9 hA
    by_cases hB : 128 ≤ c
    ·rw [if_pos hB] at HO
     have hB2 : (128 : Int) ≤ (c : Int) := by omega
     rcases hkc with ⟨hk2,hk3⟩ | ⟨hk2,hk3⟩
     ·go_wp2_with fail
      obtain ⟨r,rfl⟩ : ∃ r,rest = r + 1 := ⟨rest - 1,by omega⟩
      go_round
      case rel => exact ⟨r,k + 1,acc + y,s2,rfl,by go_num,by omega,HL.out,HI2.out,HN2.out,HNM2.out,HO.out.symm,HX4.out,HY4.out,HB4.out⟩
      case measure => simp [intOf]; omega
     ·omega
    ·rw [if_neg hB] at HO
     have hB2 : (c : Int) < 128 := by omega
     by_cases hC : c = 0 ∧ 0 < k
     ·have HW := hid (show wideN bs s = .error 73 by rw [HO.out,if_pos hC])
      have hk0 : ((k : Int) == 0) = false := by rw [beq_eq_false_iff_ne]; omega
      have hc1 : (c : Int) < 1 := by omega
      clear HO hC
      rcases hkc with ⟨hk2,hk3⟩ | ⟨hk2,hk3⟩
      all_goals
       go_wp2_with fail
       refine (rmust_any _ _ _ _ _ _ _ _ 0 false _).mono ?_
       rintro e w5 ⟨rfl,hb⟩
       clear k0 k1 k2 k3 k4
       have HX5 := hid ((hb.block _ (blk_lt HX4.out)).trans HX4.out)
       have HY5 := hid ((hb.block _ (blk_lt HY4.out)).trans HY4.out)
       have HB5 := hid (HB4.out.trans (hb.mono HB4.out.size))
       clear hb HB4 HX4 HY4
       go_wp2_with (refine wpList_store_row rfl 80 (.tmp 2) (.tmp 45) rfl (w.heap.size + 1) #[.slice ba bs.length bc,.int .i64 (s2.i : Int),.int .i64 (s2.n : Int),.slice na nl nc,.int .i64 73] rfl rfl 80 #[nilV,.int .i64 0,.int .i64 0,nilV,.int .i64 0] HY5.out infoS rfl (by simp [Array.all,Value.oneCell']) ?_)
       have HY6 := hid (setRow_heap w5 (w.heap.size + 1) #[nilV,.int .i64 0,.int .i64 0,nilV,.int .i64 0] #[.slice ba bs.length bc,.int .i64 (s2.i : Int),.int .i64 (s2.n : Int),.slice na nl nc,.int .i64 73] 80 (0,0) HY5.out)
       have HX6 := hid ((setRow_other w5 (w.heap.size + 1) (w.heap.size) #[.slice ba bs.length bc,.int .i64 (s2.i : Int),.int .i64 (s2.n : Int),.slice na nl nc,.int .i64 73] (by omega)).trans HX5.out)
       have HB6 := hid (HB5.out.trans ((setRow_turn w5 (w.heap.size + 1) #[.slice ba bs.length bc,.int .i64 (s2.i : Int),.int .i64 (s2.n : Int),.slice na nl nc,.int .i64 73]).below HB5.out.size (fun i e => by omega)))
       clear HB5 HY5 HX5
       generalize w5.setRow (w.heap.size + 1) #[.slice ba bs.length bc,.int .i64 (s2.i : Int),.int .i64 (s2.n : Int),.slice na nl nc,.int .i64 73] = w6 at *
       go_wp2_with fail
       obtain ⟨k0,k1,k2,k3,k4⟩ := FiveAt.of_block HY6.out
       exact bodyPost_ret (v := .tuple #[stV ba bs.length bc s2.i s2.n na nl nc 73,.int .u64 ((acc + y : Nat) : Int)]) (by simp [results,Try.results48,go_sem,k0,k1,k2,k3,k4]) rfl (by rw [HW.out]; exact ⟨_,_,_,rfl,⟨acc + y,rfl,HQ.out⟩,HB6.out⟩)
     ·have HW := hid (show wideN bs s = .ok (acc + y,s2) by rw [HO.out,if_neg hC])
      have hcc : ((0 : Int) < (c : Int)) ∨ ((c : Int) < 1 ∧ ((k : Int) == 0) = true) := by
       by_cases e : c = 0
       ·exact .inr ⟨by omega,by rw [beq_iff_eq]; omega⟩
       ·exact .inl (by omega)
      clear HO hC
      rcases hkc with ⟨hk2,hk3⟩ | ⟨hk2,hk3⟩ <;> rcases hcc with hc0 | ⟨hc0,hc1⟩
      all_goals
       go_wp2_with fail
       refine (rmust_any _ _ _ _ _ _ _ _ 0 true _).mono ?_
       rintro e w5 ⟨rfl,hb⟩
       clear k0 k1 k2 k3 k4
       have HX5 := hid ((hb.block _ (blk_lt HX4.out)).trans HX4.out)
       have HY5 := hid ((hb.block _ (blk_lt HY4.out)).trans HY4.out)
       have HB5 := hid (HB4.out.trans (hb.mono HB4.out.size))
       clear hb HB4 HX4 HY4
       go_wp2_with (refine wpList_store_row rfl 80 (.tmp 2) (.tmp 45) rfl (w.heap.size + 1) #[.slice ba bs.length bc,.int .i64 (s2.i : Int),.int .i64 (s2.n : Int),.slice na nl nc,.int .i64 0] rfl rfl 80 #[nilV,.int .i64 0,.int .i64 0,nilV,.int .i64 0] HY5.out infoS rfl (by simp [Array.all,Value.oneCell']) ?_)
       have HY6 := hid (setRow_heap w5 (w.heap.size + 1) #[nilV,.int .i64 0,.int .i64 0,nilV,.int .i64 0] #[.slice ba bs.length bc,.int .i64 (s2.i : Int),.int .i64 (s2.n : Int),.slice na nl nc,.int .i64 0] 80 (0,0) HY5.out)
       have HX6 := hid ((setRow_other w5 (w.heap.size + 1) (w.heap.size) #[.slice ba bs.length bc,.int .i64 (s2.i : Int),.int .i64 (s2.n : Int),.slice na nl nc,.int .i64 0] (by omega)).trans HX5.out)
       have HB6 := hid (HB5.out.trans ((setRow_turn w5 (w.heap.size + 1) #[.slice ba bs.length bc,.int .i64 (s2.i : Int),.int .i64 (s2.n : Int),.slice na nl nc,.int .i64 0]).below HB5.out.size (fun i e => by omega)))
       clear HB5 HY5 HX5
       generalize w5.setRow (w.heap.size + 1) #[.slice ba bs.length bc,.int .i64 (s2.i : Int),.int .i64 (s2.n : Int),.slice na nl nc,.int .i64 0] = w6 at *
       go_wp2_with fail
       obtain ⟨k0,k1,k2,k3,k4⟩ := FiveAt.of_block HY6.out
       exact bodyPost_ret (v := .tuple #[stV ba bs.length bc s2.i s2.n na nl nc 0,.int .u64 ((acc + y : Nat) : Int)]) (by simp [results,Try.results48,go_sem,k0,k1,k2,k3,k4]) rfl (by rw [HW.out]; exact ⟨rfl,HB6.out⟩)
theorem rfloat_any (v : Value) (l : List UInt8) (w : World) (h : Sl w v (l.map cellB)) (hl : l.length = 8) :
  Calls Try.prog 52 #[v] w fun e w' => e = .returned (.float .f64 (wordOf l)) ∧ w' = w := by
 obtain ⟨a,c,rfl,hm,hc⟩ := h
 have HC := hid hc
 have hlm : (l.map cellB).length = 8 := by simp [hl]
 rw [hlm]
 clear hc hm hlm
 go_enter Try.func52,Try.ntmps52
 go_wp2_with fail
 go_loop [3,4] (fun t3 t4 => ∃ j : Nat,j ≤ 8 ∧ t4 = .int .i64 j ∧ t3 = .int .u64 (wordOf (l.take j) : Nat)) (fun _ t4 => 8 - (intOf t4).toNat)
 case atStart => exact ⟨0,by omega,rfl,by simp [wordOf]⟩
 case round =>
  obtain ⟨j,hj,rfl,rfl⟩ := hrel
  by_cases hlt : j < 8
  ·obtain ⟨b,off,rfl,hcell⟩ := HC.out (by simp; omega)
   have hx := hcell j (by simpa [hl] using hlt)
   rw [List.getElem_map] at hx
   have hwl := wordOf_lt (l.take j)
   rw [List.length_take_of_le (by omega)] at hwl
   have hw2 : wordOf (l.take j) < 72057594037927936 := Nat.lt_of_lt_of_le hwl (Nat.le_trans (Nat.pow_le_pow_right (by decide) (show j ≤ 7 by omega)) (by decide))
   have HW := hid (show wordOf (l.take (j + 1)) = wordOf (l.take j) * 256 + (l[j]'(by omega)).toNat by rw [List.take_succ_eq_append_getElem (by omega),wordOf_snoc])
   have hb := (l[j]'(by omega)).toNat_lt
   generalize wordOf (l.take j) = u at *
   generalize l[j]'(by omega) = x at *
   have f1 : IntKind.u64.wrap ((u : Int) * 256) = (u : Int) * 256 := wraps_u64 _ (by omega) (by omega)
   have f2 := wrap_u64_nat x.toNat (by omega)
   have f3 : IntKind.u64.wrap ((u : Int) * 256 + (x.toNat : Int)) = (u : Int) * 256 + (x.toNat : Int) := wraps_u64 _ (by omega) (by omega)
   have hj0 : (0 : Int) ≤ (j : Int) := by omega
   have hj1 : (j : Int) < 8 := by omega
   clear hcell hwl
   go_wp2_with fail
   go_round
   case rel => exact ⟨j + 1,by omega,by go_num,by rw [HW.out]; simp only [Int.natCast_add,Int.natCast_mul]; rfl⟩
   case measure => simp [intOf]; omega
  ·obtain rfl : j = 8 := by omega
   have HW := hid (show l.take 8 = l by rw [← hl]; exact List.take_length)
   rw [HW.out]
   have hf := frombits (wordOf l)
   go_wp2_with fail
   go_ret
   exact ⟨rfl,rfl⟩
end Go.Proofs.Ytgadkiljnebicaa
namespace Go.Proofs.Ytgadkiljnebicaa
open Go.Lib (hid)
open Go.RowKit
set_option maxRecDepth 100000
attribute [local go_sem] run_store_complex
def AllPost (W : World) (F : Nat → Prop) (xs : List (Hd × Nat)) (e : Ending) (w' : World) : Prop :=
 ∃ (a : Option Addr) (cp : Nat) (ps : List (Array Value)),e = .returned (.slice a xs.length cp) ∧ w'.ownsRow W.heap.size 31 9 (.slice a xs.length cp) xs.length (cat ps) ∧ PartsOk w' F xs ps ∧ Below W.heap.size W w'
structure AllAt (w wr : World) (F : Nat → Prop) (l : List Tm) (C : Array Value) (j N : Nat) (a : Option Addr) (cp : Nat) (ps : List (Array Value)) : Prop where
 le : j ≤ l.length
 num : N = 1 + (flatTs (l.take j)).length
 row : wr.ownsRow (w.heap.size + 1) 31 9 (.slice a N cp) N (C.toList ++ cat ps)
 parts : PartsOk wr F (flatTs (l.take j)) ps
 box : wr.heap[w.heap.size]? = some (.cells C 31 (0,0))
 below : Below w.heap.size w wr
theorem AllAt.next {w wr w5 w6 : World} {F : Nat → Prop} {l : List Tm} {C : Array Value} {j N cp a6n : Nat} {a a6 : Option Addr} {ps ps2 : List (Array Value)} (h : AllAt w wr F l C j N a cp ps) (hj : j < l.length) (hF : ∀ b,F b → b < w.heap.size) (hb5 : Below wr.heap.size wr w5) (hp2 : PartsOk w5 F (flatT l[j]) ps2)
  (hg : w5.grownBy w6 (Value.slice a N cp).ownBlock) (ho : w6.ownsRow (w.heap.size + 1) 31 9 (.slice a6 (N + (flatT l[j]).length) a6n) (N + (flatT l[j]).length) ((C.toList ++ cat ps) ++ cat ps2)) :
  AllAt w w6 F l C (j + 1) (N + (flatT l[j]).length) a6 a6n (ps ++ ps2) := by
 have hT := Turn.of_grownBy hg
 have hown : ∀ i,(Value.slice a N cp).ownBlock = some i → w.heap.size + 1 ≤ i := fun i e => (h.row.lt i e).1
 have hsz := h.below.size
 have hbl := blk_lt h.box
 have hs5 := hb5.size
 refine ⟨by omega,?_,by rw [cat_app,← List.append_assoc]; exact ho,?_,?_,h.below.trans ((hb5.mono hsz).trans (hT.below (by omega) fun i e => by have := hown i e; omega))⟩
 ·rw [flatTs_take hj,List.length_append,h.num]; omega
 ·rw [flatTs_take hj]
  refine PartsOk.app ?_ ?_
  ·refine PartsOk.keep (w := w5) (fun b e hb => hT.block b hb fun e2 => by have := hown b e2; have := hF b e; omega) (PartsOk.keep (fun b e hb => hb5.block b hb) h.parts)
  ·exact PartsOk.keep (fun b e hb => hT.block b hb fun e2 => by have := hown b e2; have := hF b e; omega) hp2
 ·exact (hT.block _ (by omega) fun e => by have := hown _ e; omega).trans ((hb5.block _ hbl).trans h.box)
set_option maxHeartbeats 2000000 in
theorem all_any : ∀ (sz : Nat) (t : Tm),(flatT t).length ≤ sz → ∀ (most : Nat) (m : Int) (F : Nat → Prop) (c : Array Value) (w : World),m = most → Rep w F t c → (∀ b,F b → b < w.heap.size) → (flatT t).length ≤ most → most ≤ 5000 →
  Calls Try.prog 37 #[.agg c,.int .i64 m] w (AllPost w F (flatT t)) := by
 intro sz
 induction sz with
 | zero => intro t h; have := flatT_pos t; omega
 | succ sz ih =>
  intro t hsz most m F c w hm hrep hF hmost h5
  obtain ⟨hd,l⟩ := t
  obtain ⟨bv,lv,rfl,hbv,vs,hlv,hreps⟩ := hrep
  obtain ⟨ba,bc,rfl⟩ := row_slice hbv.1
  obtain ⟨la,lc,rfl⟩ := row_slice hlv.1
  have HR := hid hlv
  have HS := hid hreps
  have HBv := hid hbv
  have HIH := hid ih
  have HF := hid hF
  have HFl := hid (show (flatT (.mk hd l)).length = 1 + (flatTs l).length by simp only [flatT,List.length_cons]; omega)
  rw [HFl.out] at hsz hmost
  have HM := hid hm
  have HSz := hid hsz
  have hm1 : (1 : Int) ≤ m := by omega
  have hm5 : m ≤ 5000 := by omega
  have HMo := hid hmost
  have hl5 : l.length ≤ 5000 := by have := flatTs_many l; omega
  clear hlv hreps hbv ih hF hm hsz hmost
  go_enter Try.func37,Try.ntmps37
  go_wp2_with fail
  obtain ⟨i0,hi,hz0,hz1,hz2⟩ := info_parts infoTm
  have X1 := hid hi
  have X2 := hid hz0
  have X3 := hid hz1
  have X4 := hid hz2
  clear hi hz0 hz1 hz2
  obtain ⟨C,hC⟩ : ∃ C : Array Value,hdC hd (.slice ba hd.b.length bc) (.slice la l.length lc) = C := ⟨_,rfl⟩
  have HC := hid hC
  have hrow0 : Hid (AllAt w ((w.alloc (.cells (hdC hd (.slice ba hd.b.length bc) (.slice la l.length lc)) 31)).alloc (.cells (hdC hd (.slice ba hd.b.length bc) (.slice la l.length lc)) 31)) F l C 0 1 (some ⟨w.heap.size + 1,0,none⟩) 1 []) := hid (by
   rw [← hC]
   refine ⟨Nat.zero_le _,by simp [flatTs],⟨by simp [cat],.inr ⟨w.heap.size + 1,1,hdC hd (.slice ba hd.b.length bc) (.slice la l.length lc),rfl,by omega,heap_new_at (by simp),by omega,by decide,by simp,by simp [cat]⟩⟩,rfl,al2_fst,((Below.refl _ w).alloc (Nat.le_refl _) _).alloc (by simp) _⟩)
  clear hC
  go_loopw [5,6] (fun t5 t6 wr => ∃ (j N : Nat) (a : Option Addr) (cp : Nat) (ps : List (Array Value)),t6 = .int .i64 j ∧ t5 = .slice a N cp ∧ AllAt w wr F l C j N a cp ps) (fun _ t6 _ => l.length - (intOf t6).toNat)
  case atStart => exact ⟨0,1,some ⟨w.heap.size + 1,0,none⟩,1,[],rfl,rfl,hrow0.out⟩
  case round =>
   obtain ⟨j,N,a,cp,ps,rfl,rfl,hA⟩ := hrel
   have HA := hid hA
   clear hA hrow0
   have hbx := HC.out ▸ HA.out.box
   by_cases hlt : j < l.length
   ·obtain ⟨g,cap,hv,hg,hd2,bv2,pv2,hrep2,⟨l2,hl2⟩,h9⟩ := HR.out.nine HS.out hlt
    have hgl := HF.out g hg
    cases hv
    have hkeep : ∀ b,F b → b < w.heap.size → wr.heap[b]? = w.heap[b]? := fun b e hb => HA.out.below.block b hb
    have h9' := h9.block (hkeep g hg hgl)
    have HRep := hid (Rep.keep hkeep _ _ hrep2)
    have HZ1 := hid (congrArg List.length (flatTs_take hlt))
    have HZ2 := hid (flatTs_le (l := l) (j + 1))
    obtain ⟨n0,n1,n2,n3,n4,n5,n6,n7,n8⟩ := h9'
    obtain ⟨hk2,hn2,hre2,him2,hs2,hnode2,hboot2,hidn2,hb2⟩ := hd2
    obtain ⟨ba2,bn2,bc2,rfl⟩ : ∃ a n c,bv2 = .slice a n c := by
     obtain ⟨bv3,pv3,e,hb3,_⟩ := hl2 ▸ hrep2
     cases e
     obtain ⟨a,c,e⟩ := row_slice hb3.1
     exact ⟨a,_,c,e⟩
    obtain ⟨pa2,pn2,pc2,rfl⟩ : ∃ a n c,pv2 = .slice a n c := by
     obtain ⟨bv3,pv3,e,_,vs2,hb3,_⟩ := hl2 ▸ hrep2
     cases e
     obtain ⟨a,c,e⟩ := row_slice hb3.1
     exact ⟨a,_,c,e⟩
    have HNm := hid HA.out.num
    have hNm : N + (flatT l[j]).length ≤ 1 + (flatTs l).length := by have h1 := HNm.out; have h2 := HZ1.out; have h3 := HZ2.out; rw [List.length_append] at h2; omega
    have hpos := flatT_pos l[j]
    have HNb := hid hNm
    have hj1 : (j : Int) < (l.length : Int) := by omega
    have hj0 : (0 : Int) ≤ (j : Int) := by omega
    have hN1 : (N : Int) < m := by have := HM.out; have := HMo.out; omega
    have hmw : IntKind.i64.wrap (m - (N : Int)) = m - (N : Int) := IntWalk.i64_in _ (by omega)
    have b8 : wr.cell? ⟨w.heap.size,8,none⟩ = some (.slice (some ⟨g,0,none⟩) l.length lc) := by simp [World.cell?,hbx]
    have H1 := HIH.out l[j] (by have := HNm.out; have := HSz.out; omega) (most - N) (m - (N : Int)) F _ wr (by have := HM.out; have := HMo.out; omega) HRep.out (fun b e => Nat.lt_of_lt_of_le (HF.out b e) HA.out.below.size) (by have := HMo.out; omega) (by omega)
    have H1 := hid H1
    clear h9 hkeep hrep2 hl2 hg hgl hpos hNm hbx HR
    go_wp2_with fail
    refine H1.out.mono ?_
    rintro e w5 ⟨a2,cp2,ps2,rfl,ho2,hp2,hb2⟩
    have HO2 := hid ho2
    have HP2 := hid hp2
    have HB2 := hid hb2
    have HRow5 := hid (row_same (w' := w5) HA.out.row (fun b e hb => hb2.block b hb))
    have HSr := hid (src_owns (P := Try.prog) (tx := 29) Try.underlying29 ho2 hp2.one.2)
    have HM1 := hid (show N + (flatT l[j]).length ≤ maxLen by have := HNb.out; have := HMo.out; unfold maxLen; omega)
    have HMB := hid (show (N + (flatT l[j]).length) * 120 ≤ 140737488355328 by have := HNb.out; have := HMo.out; omega)
    have HBs := hid (show w.heap.size + 1 ≤ w5.heap.size by have := hb2.size; have := blk_lt HA.out.box; omega)
    clear ho2 hp2 hb2 H1 hN1 hmw b8 n0 n1 n2 n3 n4 n5 n6 n7 n8
    generalize hL2 : (flatT l[j]).length = L2 at *
    have HL2 := hid hL2
    clear hL2
    go_wp2_with (at_builtin; refine wpList_app _ rfl (.tmp 24) (.tmp 34) 29 29 rfl (w.heap.size + 1) 31 i0 (.agg zC) 9 120 Try.underlying29 X1.out X2.out X3.out X4.out rfl (by decide) (.slice a N cp) N _ rfl HRow5.out (.slice a2 L2 cp2) L2 (cat ps2) rfl HSr.out HM1.out HMB.out HBs.out ?_; intro a6 c6 w6 ho6 hg6 _ _; have HO6 := hid ho6; have HG6 := hid hg6; clear ho6 hg6)
    go_round
    case rel =>
     have hx := HO6.out
     rw [← HL2.out] at hx ⊢
     exact ⟨j + 1,_,a6,c6,ps ++ ps2,by go_num,rfl,HA.out.next hlt HF.out HB2.out HP2.out HG6.out hx⟩
    case measure => simp [intOf]; omega
   ·obtain rfl : j = l.length := by have := HA.out.le; omega
    have b8 : wr.cell? ⟨w.heap.size,8,none⟩ = some (.slice la l.length lc) := by simp [World.cell?,hbx]
    have HNm := hid HA.out.num
    have hd1 : decide (l.length < l.length) = false := decide_eq_false (by omega)
    clear hbx
    go_wp2_with fail
    go_ret
    have hn := HNm.out
    have hp := HA.out.parts
    have hr := HA.out.row
    rw [List.take_length] at hn hp
    have hx : (flatT (.mk hd l)).length = N := by rw [HFl.out,hn]
    refine ⟨a,cp,C :: ps,by show Ending.returned (.slice a N cp) = _; rw [hx],by rw [hx,cat_cons]; exact owns_mono hr (Nat.le_succ _),⟨C,ps,rfl,⟨.slice ba hd.b.length bc,la,lc,HC.out.symm,HBv.out.keep fun b e hb => HA.out.below.block b hb⟩,hp⟩,HA.out.below⟩
end Go.Proofs.Ytgadkiljnebicaa
