/- Several texts in one. -/
import Derived.Test.YtgadkiljnebicaaD15
import Derived.Test.YtgadkiljnebicaaD06
import Derived.Test.YtgadkiljnebicaaD07
import Derived.Test.YtgadkiljnebicaaD13
import Derived.Test.YtgadkiljnebicaaD16
namespace Go.Proofs.Ytgadkiljnebicaa
open Go.Lib (hid)
open Go.RowKit
set_option maxRecDepth 100000
theorem rsome_e (ba : Option Addr) (bl bc : Nat) (i n : Int) (na : Option Addr) (nl nc : Nat) (c : Int) (hc : ¬ c = 0) (k : Nat) (hk : k ≤ 4096) (w : World) : Calls Try.prog 51 #[stV ba bl bc i n na nl nc c,.int .i64 k] w (RB w (.tuple #[stV ba bl bc i n na nl nc c,nilV])) := by
 have h1 : (c == 0) = false := beq_eq_false_iff_ne.2 hc
 by_cases hk0 : k = 0
 ·subst hk0
  go_enter Try.func51,Try.ntmps51
  go_wp2_with fail
  refine wp_loop_rounds 1 ?_
  rw [rounds_succ]
  go_wp2_with fail
  exact bodyPost_ret (v := .tuple #[stV ba bl bc i n na nl nc c,nilV]) (by simp [results,Try.results51,go_sem]) rfl ⟨rfl,((Below.refl w.heap.size w).alloc (Nat.le_refl _) _).alloc (by simp) _⟩
 ·have hk1 : (0 : Int) < (k : Int) := by omega
  go_enter Try.func51,Try.ntmps51
  go_wp2_with fail
  refine wp_loop_rounds 1 ?_
  rw [rounds_succ]
  go_wp2_with fail
  exact bodyPost_ret (v := .tuple #[stV ba bl bc i n na nl nc c,nilV]) (by simp [results,Try.results51,go_sem]) rfl ⟨rfl,((Below.refl w.heap.size w).alloc (Nat.le_refl _) _).alloc (by simp) _⟩
def RPS (ba : Option Addr) (bl bc : Nat) (na : Option Addr) (nl nc : Nat) (W : World) (r : Except Int (List UInt8 × St)) (e : Ending) (w' : World) : Prop :=
 match r with
 | .ok (l,s') => ∃ a c,e = .returned (.tuple #[stV ba bl bc s'.i s'.n na nl nc 0,.slice a l.length c]) ∧ w'.ownsRow W.heap.size 5 1 (.slice a l.length c) l.length (l.map cellB) ∧ (l.length = 0 → Value.slice a l.length c = nilV) ∧ Below W.heap.size W w'
 | .error x => ∃ (i n : Int) (l : List UInt8) (a : Option Addr) (c : Nat),e = .returned (.tuple #[stV ba bl bc i n na nl nc x,.slice a l.length c]) ∧ w'.ownsRow W.heap.size 5 1 (.slice a l.length c) l.length (l.map cellB) ∧ l.length ≤ 4096 ∧ Below W.heap.size W w'
def rsRel (ba : Option Addr) (bc : Nat) (bs : List UInt8) (s : St) (k : Nat) (na : Option Addr) (nl nc : Nat) (X : Nat) (W : World) (t6 t7 : Value) (w : World) : Prop :=
 ∃ (j : Nat) (a : Option Addr) (c : Nat) (l : List UInt8) (i' n' cd : Int),j ≤ k ∧ t6 = .slice a j c ∧ t7 = .int .i64 j ∧ w.ownsRow (X + 2) 5 1 (.slice a j c) j (l.map cellB) ∧ l.length = j ∧ (j = 0 → Value.slice a j c = nilV) ∧
  w.heap[X]? = some (.cells #[.slice ba bs.length bc,.int .i64 i',.int .i64 n',.slice na nl nc,.int .i64 cd] 80 (0,0)) ∧ w.heap[X + 1]? = some (.cells #[nilV,.int .i64 0,.int .i64 0,nilV,.int .i64 0] 80 (0,0)) ∧ Below X W w ∧
  ((cd = 0 ∧ i' = (s.i : Int) + (j : Int) ∧ n' = s.n ∧ l = (bs.drop s.i).take j ∧ s.i + j ≤ bs.length) ∨ (cd = 72 ∧ someP bs k s = .error 72))
set_option maxHeartbeats 2000000 in
theorem rsome_any (ba : Option Addr) (bc : Nat) (bs : List UInt8) (s : St) (na : Option Addr) (nc : Nat) (k : Nat) (hk : k ≤ 4096) (w : World) (h : RfAt w ba bc bs s na nc) :
  Calls Try.prog 51 #[stV ba bs.length bc s.i s.n na s.names.length nc 0,.int .i64 k] w (RPS ba bs.length bc na s.names.length nc w (someP bs k s)) := by
 have H := hid h
 clear h
 generalize hnl : s.names.length = nl at *
 have hbl := H.out.len
 have hile := H.out.ile
 clear hnl
 go_enter Try.func51,Try.ntmps51
 go_wp2_with fail
 have hXY : ¬ w.heap.size = w.heap.size + 1 := by omega
 have HX1 : Hid (((w.alloc (.cells #[.slice ba bs.length bc,.int .i64 (s.i : Int),.int .i64 (s.n : Int),.slice na nl nc,.int .i64 0] 80)).alloc (.cells #[nilV,.int .i64 0,.int .i64 0,nilV,.int .i64 0] 80)).heap[w.heap.size]? = some (.cells #[.slice ba bs.length bc,.int .i64 (s.i : Int),.int .i64 (s.n : Int),.slice na nl nc,.int .i64 0] 80 (0,0))) := (Below.heap_alloc _ _ _ (by simp)).trans (heap_new w _)
 have HY1 : Hid (((w.alloc (.cells #[.slice ba bs.length bc,.int .i64 (s.i : Int),.int .i64 (s.n : Int),.slice na nl nc,.int .i64 0] 80)).alloc (.cells #[nilV,.int .i64 0,.int .i64 0,nilV,.int .i64 0] 80)).heap[w.heap.size + 1]? = some (.cells #[nilV,.int .i64 0,.int .i64 0,nilV,.int .i64 0] 80 (0,0))) := heap_new_at (by simp)
 have HB1 := hid (((Below.refl w.heap.size w).alloc (Nat.le_refl _) (.cells #[.slice ba bs.length bc,.int .i64 (s.i : Int),.int .i64 (s.n : Int),.slice na nl nc,.int .i64 0] 80)).alloc (by simp) (.cells #[nilV,.int .i64 0,.int .i64 0,nilV,.int .i64 0] 80))
 generalize ((w.alloc (.cells #[.slice ba bs.length bc,.int .i64 (s.i : Int),.int .i64 (s.n : Int),.slice na nl nc,.int .i64 0] 80)).alloc (.cells #[nilV,.int .i64 0,.int .i64 0,nilV,.int .i64 0] 80)) = w1 at *
 obtain ⟨i0,hi,hz0,hz1,hz2⟩ := info_parts infoB
 have X1 := hid hi
 have X2 := hid hz0
 have X3 := hid hz1
 have X4 := hid hz2
 clear hi hz0 hz1 hz2
 go_loopw [6,7] (fun t6 t7 wr => rsRel ba bc bs s k na nl nc w.heap.size w t6 t7 wr) (fun _ t7 _ => k - (intOf t7).toNat)
 case atStart => exact ⟨0,none,0,[],_,_,_,by omega,rfl,rfl,World.ownsRow_nil _ _ _ _,rfl,fun _ => rfl,HX1.out,HY1.out,HB1.out,.inl ⟨rfl,by simp,rfl,by simp,by omega⟩⟩
 case round =>
  obtain ⟨j,a,c,l,i',n',cd,hj,rfl,rfl,ho,hlen,hnil,hX,hY,hB,hcd⟩ := hrel
  have HX2 := hid hX
  have HY2 := hid hY
  have HB2 := hid hB
  have HO2 := hid ho
  have HLn := hid hlen
  have HNil := hid hnil
  clear hX hY hB ho hlen hnil HX1 HY1 HB1
  generalize wr = w2 at *
  have hMB := hid (show j + 1 ≤ maxLen by unfold maxLen; omega)
  have hMB2 := hid (show (j + 1) * 1 ≤ 140737488355328 by omega)
  obtain ⟨k0,k1,k2,k3,k4⟩ := FiveAt.of_block HX2.out
  rcases hcd with ⟨rfl,rfl,rfl,hl,hil⟩ | ⟨rfl,her⟩
  ·have HLe := hid hl
   clear hl
   by_cases hlt : j < k
   ·have hj1 : (j : Int) < (k : Int) := by omega
    by_cases hi : s.i + j < bs.length
    ·have H1 : Hid (Calls Try.prog 30 #[stV ba bs.length bc ((s.i : Int) + (j : Int)) s.n na nl nc 0] w2 (RB w2 (.tuple #[stV ba bs.length bc ((s.i : Int) + (j : Int) + 1) s.n na nl nc 0,cellB bs[s.i + j]]))) := by
      obtain ⟨a2,c2,hbv,hl2,hc⟩ := H.out.src.below (HB2.out.mono (Nat.le_refl _))
      obtain ⟨b,off,ha,hcell⟩ := hc (by simp; omega)
      have hx := hcell (s.i + j) (by simpa using hi)
      rw [List.getElem_map] at hx
      have e : ba = a2 := by injection hbv
      rw [e,ha]
      have h := rone_yes b off bs.length bc (s.i + j) s.n na nl nc _ H.out.len hi w2 hx
      rw [Int.natCast_add] at h
      exact h
     have HTk := hid (tk_succ hi)
     generalize bs[s.i + j] = x at *
     go_wp2_with fail
     refine H1.out.mono ?_
     rintro e w3 ⟨rfl,hb⟩
     have HO3 := hid (row_same HO2.out (fun b _ hlt => hb.block b hlt))
     clear k0 k1 k2 k3 k4 HO2
     have HX3 := hid ((hb.block _ (blk_lt HX2.out)).trans HX2.out)
     have HY3 := hid ((hb.block _ (blk_lt HY2.out)).trans HY2.out)
     have HB3 := hid (HB2.out.trans (hb.mono HB2.out.size))
     clear hb HB2 HX2 HY2
     have HX3a := hid ((Below.heap_alloc w3 (.cells #[.slice ba bs.length bc,.int .i64 ((s.i : Int) + (j : Int) + 1),.int .i64 (s.n : Int),.slice na nl nc,.int .i64 0] 80) _ (blk_lt HX3.out)).trans HX3.out)
     have HY3a := hid ((Below.heap_alloc w3 (.cells #[.slice ba bs.length bc,.int .i64 ((s.i : Int) + (j : Int) + 1),.int .i64 (s.n : Int),.slice na nl nc,.int .i64 0] 80) _ (blk_lt HY3.out)).trans HY3.out)
     have HB3a := hid (HB3.out.alloc (by have := HB3.out.size; omega) (.cells #[.slice ba bs.length bc,.int .i64 ((s.i : Int) + (j : Int) + 1),.int .i64 (s.n : Int),.slice na nl nc,.int .i64 0] 80))
     go_upto_region 7 with (refine wpList_store_row rfl 80 (.tmp 2) (.tmp 25) rfl (w.heap.size) #[.slice ba bs.length bc,.int .i64 ((s.i : Int) + (j : Int) + 1),.int .i64 (s.n : Int),.slice na nl nc,.int .i64 0] rfl rfl 80 #[.slice ba bs.length bc,.int .i64 ((s.i : Int) + (j : Int)),.int .i64 (s.n : Int),.slice na nl nc,.int .i64 0] HX3a.out infoS rfl (by simp [Array.all,Value.oneCell']) ?_)
     have HO4 := hid (row_same (HO3.out.alloc (.cells #[.slice ba bs.length bc,.int .i64 ((s.i : Int) + (j : Int) + 1),.int .i64 (s.n : Int),.slice na nl nc,.int .i64 0] 80)) (fun b e _ => setRow_other (w3.alloc (.cells #[.slice ba bs.length bc,.int .i64 ((s.i : Int) + (j : Int) + 1),.int .i64 (s.n : Int),.slice na nl nc,.int .i64 0] 80)) w.heap.size b #[.slice ba bs.length bc,.int .i64 ((s.i : Int) + (j : Int) + 1),.int .i64 (s.n : Int),.slice na nl nc,.int .i64 0] (by have := ((HO3.out.alloc (.cells #[.slice ba bs.length bc,.int .i64 ((s.i : Int) + (j : Int) + 1),.int .i64 (s.n : Int),.slice na nl nc,.int .i64 0] 80)).lt b e).1; omega)))
     generalize (w3.alloc (.cells #[.slice ba bs.length bc,.int .i64 ((s.i : Int) + (j : Int) + 1),.int .i64 (s.n : Int),.slice na nl nc,.int .i64 0] 80)) = w3a at *
     have HX4 := hid (setRow_heap w3a (w.heap.size) #[.slice ba bs.length bc,.int .i64 ((s.i : Int) + (j : Int)),.int .i64 (s.n : Int),.slice na nl nc,.int .i64 0] #[.slice ba bs.length bc,.int .i64 ((s.i : Int) + (j : Int) + 1),.int .i64 (s.n : Int),.slice na nl nc,.int .i64 0] 80 (0,0) HX3a.out)
     have HY4 := hid ((setRow_other w3a (w.heap.size) (w.heap.size + 1) #[.slice ba bs.length bc,.int .i64 ((s.i : Int) + (j : Int) + 1),.int .i64 (s.n : Int),.slice na nl nc,.int .i64 0] (by omega)).trans HY3a.out)
     have HB4 := hid (HB3a.out.trans ((setRow_turn w3a (w.heap.size) #[.slice ba bs.length bc,.int .i64 ((s.i : Int) + (j : Int) + 1),.int .i64 (s.n : Int),.slice na nl nc,.int .i64 0]).below HB3a.out.size (fun i e => by omega)))
     clear HB3 HB3a HX3 HX3a HY3 HY3a
     generalize w3a.setRow (w.heap.size) #[.slice ba bs.length bc,.int .i64 ((s.i : Int) + (j : Int) + 1),.int .i64 (s.n : Int),.slice na nl nc,.int .i64 0] = w4 at *
     have hMB3 := hid (show w.heap.size + 2 ≤ (w4.alloc (.cells #[cellB x] 5)).heap.size by have h1 := blk_lt HY4.out; simp; omega)
     go_wp2_with (at_builtin; refine wpList_app _ rfl (.tmp 26) (.tmp 28) 22 22 rfl (w.heap.size + 2) 5 i0 (.int .u8 0) 1 1 Try.underlying22 X1.out X2.out X3.out X4.out rfl (by decide) _ _ _ rfl (HO4.out.alloc _) _ 1 [cellB x] rfl (src_one _ Try.underlying22 _ _ rfl) hMB.out hMB2.out hMB3.out ?_; intro a7 c7 w7 ho7 hg7 hn7 hl7; have HO7 := hid ho7; have HK7 := hid (app_keep HO4.out hg7); clear ho7 hg7 hn7 hl7)
     have HX7 := hid ((HK7.out.1 _ (by omega) (blk_lt HX4.out)).trans HX4.out)
     have HY7 := hid ((HK7.out.1 _ (by omega) (blk_lt HY4.out)).trans HY4.out)
     have HB7 := hid (HB4.out.trans (HK7.out.2.2.below HB4.out.size (fun i e => by have := (HO4.out.lt i e).1; omega)))
     clear HX4 HY4 HB4
     go_round
     case rel => exact ⟨j + 1,a7,c7,l ++ [x],_,_,_,by omega,rfl,by go_num,by rw [List.map_append]; exact HO7.out,by rw [List.length_append,HLn.out]; rfl,fun e => by omega,HX7.out,HY7.out,HB7.out,.inl ⟨rfl,by omega,rfl,by rw [HLe.out,HTk.out],by omega⟩⟩
     case measure => simp [intOf]; omega
    ·have hie : (s.i : Int) + (j : Int) = (bs.length : Int) := by omega
     have H1 : Hid (Calls Try.prog 30 #[stV ba bs.length bc ((s.i : Int) + (j : Int)) s.n na nl nc 0] w2 (RB w2 (.tuple #[stV ba bs.length bc ((s.i : Int) + (j : Int)) s.n na nl nc 72,.int .u8 0]))) := by
      rw [hie]
      exact rone_no ba bs.length bc s.n na nl nc hbl w2
     have HE := hid (show someP bs k s = .error 72 from some_no hlt hi)
     clear hie
     go_wp2_with fail
     refine H1.out.mono ?_
     rintro e w3 ⟨rfl,hb⟩
     have HO3 := hid (row_same HO2.out (fun b _ hlt => hb.block b hlt))
     clear k0 k1 k2 k3 k4 HO2
     have HX3 := hid ((hb.block _ (blk_lt HX2.out)).trans HX2.out)
     have HY3 := hid ((hb.block _ (blk_lt HY2.out)).trans HY2.out)
     have HB3 := hid (HB2.out.trans (hb.mono HB2.out.size))
     clear hb HB2 HX2 HY2
     have HX3a := hid ((Below.heap_alloc w3 (.cells #[.slice ba bs.length bc,.int .i64 ((s.i : Int) + (j : Int)),.int .i64 (s.n : Int),.slice na nl nc,.int .i64 72] 80) _ (blk_lt HX3.out)).trans HX3.out)
     have HY3a := hid ((Below.heap_alloc w3 (.cells #[.slice ba bs.length bc,.int .i64 ((s.i : Int) + (j : Int)),.int .i64 (s.n : Int),.slice na nl nc,.int .i64 72] 80) _ (blk_lt HY3.out)).trans HY3.out)
     have HB3a := hid (HB3.out.alloc (by have := HB3.out.size; omega) (.cells #[.slice ba bs.length bc,.int .i64 ((s.i : Int) + (j : Int)),.int .i64 (s.n : Int),.slice na nl nc,.int .i64 72] 80))
     go_upto_region 7 with (refine wpList_store_row rfl 80 (.tmp 2) (.tmp 25) rfl (w.heap.size) #[.slice ba bs.length bc,.int .i64 ((s.i : Int) + (j : Int)),.int .i64 (s.n : Int),.slice na nl nc,.int .i64 72] rfl rfl 80 #[.slice ba bs.length bc,.int .i64 ((s.i : Int) + (j : Int)),.int .i64 (s.n : Int),.slice na nl nc,.int .i64 0] HX3a.out infoS rfl (by simp [Array.all,Value.oneCell']) ?_)
     have HO4 := hid (row_same (HO3.out.alloc (.cells #[.slice ba bs.length bc,.int .i64 ((s.i : Int) + (j : Int)),.int .i64 (s.n : Int),.slice na nl nc,.int .i64 72] 80)) (fun b e _ => setRow_other (w3.alloc (.cells #[.slice ba bs.length bc,.int .i64 ((s.i : Int) + (j : Int)),.int .i64 (s.n : Int),.slice na nl nc,.int .i64 72] 80)) w.heap.size b #[.slice ba bs.length bc,.int .i64 ((s.i : Int) + (j : Int)),.int .i64 (s.n : Int),.slice na nl nc,.int .i64 72] (by have := ((HO3.out.alloc (.cells #[.slice ba bs.length bc,.int .i64 ((s.i : Int) + (j : Int)),.int .i64 (s.n : Int),.slice na nl nc,.int .i64 72] 80)).lt b e).1; omega)))
     generalize (w3.alloc (.cells #[.slice ba bs.length bc,.int .i64 ((s.i : Int) + (j : Int)),.int .i64 (s.n : Int),.slice na nl nc,.int .i64 72] 80)) = w3a at *
     have HX4 := hid (setRow_heap w3a (w.heap.size) #[.slice ba bs.length bc,.int .i64 ((s.i : Int) + (j : Int)),.int .i64 (s.n : Int),.slice na nl nc,.int .i64 0] #[.slice ba bs.length bc,.int .i64 ((s.i : Int) + (j : Int)),.int .i64 (s.n : Int),.slice na nl nc,.int .i64 72] 80 (0,0) HX3a.out)
     have HY4 := hid ((setRow_other w3a (w.heap.size) (w.heap.size + 1) #[.slice ba bs.length bc,.int .i64 ((s.i : Int) + (j : Int)),.int .i64 (s.n : Int),.slice na nl nc,.int .i64 72] (by omega)).trans HY3a.out)
     have HB4 := hid (HB3a.out.trans ((setRow_turn w3a (w.heap.size) #[.slice ba bs.length bc,.int .i64 ((s.i : Int) + (j : Int)),.int .i64 (s.n : Int),.slice na nl nc,.int .i64 72]).below HB3a.out.size (fun i e => by omega)))
     clear HB3 HB3a HX3 HX3a HY3 HY3a
     generalize w3a.setRow (w.heap.size) #[.slice ba bs.length bc,.int .i64 ((s.i : Int) + (j : Int)),.int .i64 (s.n : Int),.slice na nl nc,.int .i64 72] = w4 at *
     have hMB3 := hid (show w.heap.size + 2 ≤ (w4.alloc (.cells #[.int .u8 0] 5)).heap.size by have h1 := blk_lt HY4.out; simp; omega)
     go_wp2_with (at_builtin; refine wpList_app _ rfl (.tmp 26) (.tmp 28) 22 22 rfl (w.heap.size + 2) 5 i0 (.int .u8 0) 1 1 Try.underlying22 X1.out X2.out X3.out X4.out rfl (by decide) _ _ _ rfl (HO4.out.alloc _) _ 1 [.int .u8 0] rfl (src_one _ Try.underlying22 _ _ rfl) hMB.out hMB2.out hMB3.out ?_; intro a7 c7 w7 ho7 hg7 hn7 hl7; have HO7 := hid ho7; have HK7 := hid (app_keep HO4.out hg7); clear ho7 hg7 hn7 hl7)
     have HX7 := hid ((HK7.out.1 _ (by omega) (blk_lt HX4.out)).trans HX4.out)
     have HY7 := hid ((HK7.out.1 _ (by omega) (blk_lt HY4.out)).trans HY4.out)
     have HB7 := hid (HB4.out.trans (HK7.out.2.2.below HB4.out.size (fun i e => by have := (HO4.out.lt i e).1; omega)))
     clear HX4 HY4 HB4
     go_round
     case rel => exact ⟨j + 1,a7,c7,l ++ [0],_,_,_,by omega,rfl,by go_num,by rw [List.map_append]; exact HO7.out,by rw [List.length_append,HLn.out]; rfl,fun e => by omega,HX7.out,HY7.out,HB7.out,.inr ⟨rfl,HE.out⟩⟩
     case measure => simp [intOf]; omega
   ·obtain rfl : j = k := by omega
    have HK := hid (show someP bs j s = .ok (l,{ s with i := s.i + j }) by rw [some_yes hil,HLe.out])
    go_wp2_with (refine wpList_store_row rfl 80 (.tmp 4) (.tmp 30) rfl (w.heap.size + 1) #[.slice ba bs.length bc,.int .i64 ((s.i : Int) + (j : Int)),.int .i64 (s.n : Int),.slice na nl nc,.int .i64 0] rfl rfl 80 #[nilV,.int .i64 0,.int .i64 0,nilV,.int .i64 0] HY2.out infoS rfl (by simp [Array.all,Value.oneCell']) ?_)
    have HY3 := hid (setRow_heap w2 (w.heap.size + 1) #[nilV,.int .i64 0,.int .i64 0,nilV,.int .i64 0] #[.slice ba bs.length bc,.int .i64 ((s.i : Int) + (j : Int)),.int .i64 (s.n : Int),.slice na nl nc,.int .i64 0] 80 (0,0) HY2.out)
    have HX3 := hid ((setRow_other w2 (w.heap.size + 1) (w.heap.size) #[.slice ba bs.length bc,.int .i64 ((s.i : Int) + (j : Int)),.int .i64 (s.n : Int),.slice na nl nc,.int .i64 0] (by omega)).trans HX2.out)
    have HB3 := hid (HB2.out.trans ((setRow_turn w2 (w.heap.size + 1) #[.slice ba bs.length bc,.int .i64 ((s.i : Int) + (j : Int)),.int .i64 (s.n : Int),.slice na nl nc,.int .i64 0]).below HB2.out.size (fun i e => by omega)))
    clear HB2 HY2 HX2
    have HO3 := hid (row_same HO2.out (fun b e _ => setRow_other w2 (w.heap.size + 1) b #[.slice ba bs.length bc,.int .i64 ((s.i : Int) + (j : Int)),.int .i64 (s.n : Int),.slice na nl nc,.int .i64 0] (by have := (HO2.out.lt b e).1; omega)))
    clear k0 k1 k2 k3 k4 HO2
    generalize w2.setRow (w.heap.size + 1) #[.slice ba bs.length bc,.int .i64 ((s.i : Int) + (j : Int)),.int .i64 (s.n : Int),.slice na nl nc,.int .i64 0] = w3 at *
    obtain ⟨k0,k1,k2,k3,k4⟩ := FiveAt.of_block HY3.out
    exact bodyPost_ret (v := .tuple #[stV ba bs.length bc ((s.i : Int) + (j : Int)) s.n na nl nc 0,.slice a j c]) (by simp [results,Try.results51,go_sem,k0,k1,k2,k3,k4]) rfl (by rw [HK.out]; have hlj := HLn.out; subst hlj; exact ⟨a,c,rfl,owns_mono HO3.out (by omega),HNil.out,HB3.out⟩)
  ·have HE := hid her
   clear her
   have hlt : ((j : Int) < (k : Int)) ∨ decide ((j : Int) < (k : Int)) = false := by
    by_cases h : (j : Int) < (k : Int)
    ·exact .inl h
    ·exact .inr (decide_eq_false h)
   rcases hlt with hlt | hlt
   ·go_wp2_with (refine wpList_store_row rfl 80 (.tmp 4) (.tmp 30) rfl (w.heap.size + 1) #[.slice ba bs.length bc,.int .i64 i',.int .i64 n',.slice na nl nc,.int .i64 72] rfl rfl 80 #[nilV,.int .i64 0,.int .i64 0,nilV,.int .i64 0] HY2.out infoS rfl (by simp [Array.all,Value.oneCell']) ?_)
    have HY3 := hid (setRow_heap w2 (w.heap.size + 1) #[nilV,.int .i64 0,.int .i64 0,nilV,.int .i64 0] #[.slice ba bs.length bc,.int .i64 i',.int .i64 n',.slice na nl nc,.int .i64 72] 80 (0,0) HY2.out)
    have HX3 := hid ((setRow_other w2 (w.heap.size + 1) (w.heap.size) #[.slice ba bs.length bc,.int .i64 i',.int .i64 n',.slice na nl nc,.int .i64 72] (by omega)).trans HX2.out)
    have HB3 := hid (HB2.out.trans ((setRow_turn w2 (w.heap.size + 1) #[.slice ba bs.length bc,.int .i64 i',.int .i64 n',.slice na nl nc,.int .i64 72]).below HB2.out.size (fun i e => by omega)))
    clear HB2 HY2 HX2
    have HO3 := hid (row_same HO2.out (fun b e _ => setRow_other w2 (w.heap.size + 1) b #[.slice ba bs.length bc,.int .i64 i',.int .i64 n',.slice na nl nc,.int .i64 72] (by have := (HO2.out.lt b e).1; omega)))
    clear k0 k1 k2 k3 k4 HO2
    generalize w2.setRow (w.heap.size + 1) #[.slice ba bs.length bc,.int .i64 i',.int .i64 n',.slice na nl nc,.int .i64 72] = w3 at *
    obtain ⟨k0,k1,k2,k3,k4⟩ := FiveAt.of_block HY3.out
    exact bodyPost_ret (v := .tuple #[stV ba bs.length bc i' n' na nl nc 72,.slice a j c]) (by simp [results,Try.results51,go_sem,k0,k1,k2,k3,k4]) rfl (by rw [HE.out]; have hlj := HLn.out; subst hlj; exact ⟨_,_,l,a,c,rfl,owns_mono HO3.out (by omega),by omega,HB3.out⟩)
   ·have hlt2 : decide (j < k) = false := by rw [decide_eq_false_iff_not] at hlt ⊢; omega
    go_wp2_with (refine wpList_store_row rfl 80 (.tmp 4) (.tmp 30) rfl (w.heap.size + 1) #[.slice ba bs.length bc,.int .i64 i',.int .i64 n',.slice na nl nc,.int .i64 72] rfl rfl 80 #[nilV,.int .i64 0,.int .i64 0,nilV,.int .i64 0] HY2.out infoS rfl (by simp [Array.all,Value.oneCell']) ?_)
    have HY3 := hid (setRow_heap w2 (w.heap.size + 1) #[nilV,.int .i64 0,.int .i64 0,nilV,.int .i64 0] #[.slice ba bs.length bc,.int .i64 i',.int .i64 n',.slice na nl nc,.int .i64 72] 80 (0,0) HY2.out)
    have HX3 := hid ((setRow_other w2 (w.heap.size + 1) (w.heap.size) #[.slice ba bs.length bc,.int .i64 i',.int .i64 n',.slice na nl nc,.int .i64 72] (by omega)).trans HX2.out)
    have HB3 := hid (HB2.out.trans ((setRow_turn w2 (w.heap.size + 1) #[.slice ba bs.length bc,.int .i64 i',.int .i64 n',.slice na nl nc,.int .i64 72]).below HB2.out.size (fun i e => by omega)))
    clear HB2 HY2 HX2
    have HO3 := hid (row_same HO2.out (fun b e _ => setRow_other w2 (w.heap.size + 1) b #[.slice ba bs.length bc,.int .i64 i',.int .i64 n',.slice na nl nc,.int .i64 72] (by have := (HO2.out.lt b e).1; omega)))
    clear k0 k1 k2 k3 k4 HO2
    generalize w2.setRow (w.heap.size + 1) #[.slice ba bs.length bc,.int .i64 i',.int .i64 n',.slice na nl nc,.int .i64 72] = w3 at *
    obtain ⟨k0,k1,k2,k3,k4⟩ := FiveAt.of_block HY3.out
    exact bodyPost_ret (v := .tuple #[stV ba bs.length bc i' n' na nl nc 72,.slice a j c]) (by simp [results,Try.results51,go_sem,k0,k1,k2,k3,k4]) rfl (by rw [HE.out]; have hlj := HLn.out; subst hlj; exact ⟨_,_,l,a,c,rfl,owns_mono HO3.out (by omega),by omega,HB3.out⟩)
end Go.Proofs.Ytgadkiljnebicaa
namespace Go.Proofs.Ytgadkiljnebicaa
open Go.Lib (hid)
open Go.RowKit
set_option maxRecDepth 100000
attribute [local go_sem] run_store_complex
set_option maxHeartbeats 4000000 in
theorem wp8 (B Wb p m : Nat) (v : Value) (a : Option Addr) (c : Nat) (out : List UInt8) (names : List ByteArray) (F : Nat → Prop) (b : List UInt8) (ba : Option Addr) (bc : Nat) (w : World) (h : WrAt B Wb p m v a c out names w) (hlen : out.length + (b.length + 100) ≤ 1000000000) (hF : ∀ b,F b → b < B) (hrow : Row w F 5 1 (.slice ba b.length bc) b.length (b.map cellB)) (hb4 : b.length ≤ 4096) :
  Calls Try.prog 39 #[.pointer (some ⟨Wb,0,none⟩),.agg #[.int .i64 8,.int .i64 0,.complex .f64 0 0,.string ⟨#[]⟩,.int .i64 0,.int .u32 0,.int .u64 0,.slice ba b.length bc,nilV]] w (WrPost B Wb p m v a c out w (out ++ (UInt8.ofNat 8 :: (wideB b.length ++ b))) names) := by
 have HF := hid hF
 have HR := hid hrow
 have HW := hid h
 clear hF hrow
 have HL1 := hid hlen
 obtain ⟨i0,hi,hz0,hz1,hz2⟩ := info_parts infoU8
 have X1 := hid hi
 have X2 := hid hz0
 have X3 := hid hz1
 have X4 := hid hz2
 have HX0 := hid (heap_new w (.cells #[.int .i64 8,.int .i64 0,.complex .f64 0 0,.string ⟨#[]⟩,.int .i64 0,.int .u32 0,.int .u64 0,.slice ba b.length bc,nilV] 31))
 have HSa := hid (h.stay ((Below.refl _ w).alloc (Nat.le_refl _) (.cells #[.int .i64 8,.int .i64 0,.complex .f64 0 0,.string ⟨#[]⟩,.int .i64 0,.int .u32 0,.int .u64 0,.slice ba b.length bc,nilV] 31)))
 have HNf := hid (show ¬ wfoot Wb p m v a out.length c w.heap.size from fun e => by have := (h.foot _ e).2; omega)
 have HBl := hid (show w.heap.size < (w.alloc (.cells #[.int .i64 8,.int .i64 0,.complex .f64 0 0,.string ⟨#[]⟩,.int .i64 0,.int .u32 0,.int .u64 0,.slice ba b.length bc,nilV] 31)).heap.size by simp)
 have HBw := hid h.bl
 clear h hi hz0 hz1 hz2 hlen
 go_enter Try.func39,Try.ntmps39
 go_wp2_with fail
 obtain ⟨b0,hb0⟩ : ∃ b,w.heap.size = b := ⟨_,rfl⟩
 rw [hb0] at HNf HBl HX0 ⊢
 have HB0 := hid hb0
 clear hb0
 generalize w.alloc (.cells #[.int .i64 8,.int .i64 0,.complex .f64 0 0,.string ⟨#[]⟩,.int .i64 0,.int .u32 0,.int .u64 0,.slice ba b.length bc,nilV] 31) = w1 at *
 have HS1 := hid (HSa.out.wr.stay (Below.refl _ w1))
 have HX1 := hid ((HS1.out.keep HBl.out HNf.out).trans HX0.out)
 obtain ⟨k0,k1,k2,k3,k4,k5,k6,k7,k8⟩ := NineAt.of_block HX1.out
 have wc0 := HS1.out.wr.c0
 have wc1 := HS1.out.wr.c1
 have wf0 := HS1.out.wr.fz 0
 have hwl := HS1.out.wr.wl
 have hbn : ¬ b0 = Wb := fun e => HNf.out (.inl e)
 have HM1 := hid (show out.length + 1 ≤ maxLen by have := HL1.out; unfold maxLen; omega)
 have HM2 := hid (show (out.length + 1) * 1 ≤ 140737488355328 by have := HL1.out; omega)
 have HM3 : Hid (B ≤ (w1.drew.alloc (.cells #[.int .u8 8] 5)).heap.size) := hid (by have := HS1.out.wr.bl; simp; omega)
 obtain ⟨o2,hO2⟩ : ∃ x,out ++ [UInt8.ofNat 8] = x := ⟨_,rfl⟩
 have HL2 := hid (show o2.length + (b.length + 90) ≤ 1000000000 by rw [← hO2,List.length_append,show ([UInt8.ofNat 8] : List UInt8).length = 1 from (rfl)]; have := HL1.out; omega)
 have HO2 := hid hO2
 clear hO2
 go_cut [3] from 9 to 20 (fun t3 wx => t3 = .pointer (some ⟨b0,0,none⟩) ∧ ∃ (v' : Value) (a' : Option Addr) (c' : Nat),WrStep B Wb p m v a c out w1 v' a' c' o2 names wx)
 case first =>
  go_region_law (first
   | (refine step_app (by rfl) (.tmp 13) (.tmp 17) 22 22 (by rfl) B 5 i0 (.int .u8 0) 1 1 Try.underlying22 X1.out X2.out X3.out X4.out rfl (by decide) (.slice a out.length c) out.length (out.map cellB) (by rfl) (HS1.out.wr.row.drew.alloc _) (.slice (some ⟨w1.heap.size,0,none⟩) 1 1) 1 [.int .u8 8] (by rfl) (src_one w1.drew Try.underlying22 _ _ rfl) HM1.out HM2.out HM3.out ?_; intro a4 c4 wz ho4 hg4 hl4; have HA := hid (HS1.out.wr.app (W0 := (w1.drew.alloc (.cells #[.int .u8 8] 5))) ((Below.refl _ w1).drew.alloc (Nat.le_refl _) _) (news := [UInt8.ofNat 8]) (k := 1) (rfl) hg4 (by rw [cell1 (x := 8) (by decide) rfl]; exact ho4) hl4); have hK := HS1.out.wr.kept (W0 := (w1.drew.alloc (.cells #[.int .u8 8] 5))) ((Below.refl _ w1).drew.alloc (Nat.le_refl _) _) hg4; obtain ⟨y4,z4⟩ := hK; clear ho4 hg4 hl4))
  all_goals
   go_wp2_with fail
   go_meet
   exact ⟨rfl,_,_,_,by rw [← HO2.out]; exact HS1.out.trans HA.out⟩
 clear k0 k1 k2 k3 k4 k5 k6 k7 k8 wc0 wc1 wf0 hwl hbn
 obtain ⟨rfl,v2,a2,c2,hs⟩ := hcut
 have HS2 := hid hs
 clear hs HM1 HM2 HM3
 obtain ⟨w2,rfl⟩ : ∃ x,x = wc := ⟨_,rfl⟩
 have HX2 := hid ((HS2.out.keep HBl.out HNf.out).trans HX0.out)
 obtain ⟨k0,k1,k2,k3,k4,k5,k6,k7,k8⟩ := NineAt.of_block HX2.out
 have wc0 := HS2.out.wr.c0
 have wc1 := HS2.out.wr.c1
 have wf0 := HS2.out.wr.fz 0
 have hwl := HS2.out.wr.wl
 have hbn : ¬ b0 = Wb := fun e => HNf.out (.inl e)
 have hnw : IntKind.u64.wrap (b.length : Int) = b.length := wrap_u64_nat _ (by omega)
 go_wp2_with fail
 clear k0 k1 k2 k3 k4 k5 k6 k7 k8 wc0 wc1 wf0 hwl hbn
 refine (wwide_any B Wb p m v2 a2 c2 o2 names b.length (by omega) w2 HS2.out.wr (by have := HL2.out; omega)).mono ?_
 rintro e w3 ⟨rfl,v3,a3,c3,hs⟩
 have HS3 := hid (HS2.out.trans hs)
 clear hs
 obtain ⟨o3,hO3⟩ : ∃ x,o2 ++ wideB b.length = x := ⟨_,rfl⟩
 have HL3 := hid (show o3.length + (b.length + 50) ≤ 1000000000 by rw [← hO3,List.length_append]; have := HL2.out; have := wideB_len b.length; omega)
 rw [hO3] at HS3
 have HO3 := hid hO3
 clear hO3
 clear hnw
 go_upto_region 30 with fail
 have HSr := hid (src_owns (P := Try.prog) (tx := 22) Try.underlying22 (HR.out.keep (w' := w3) (fun b e _ => (WrStep.below HW.out (HSa.out.trans HS3.out)).block b (HF.out b e))).1.drew (fun u hu => by
  obtain ⟨x,_,rfl⟩ := List.mem_map.1 hu
  rfl))
 have HX3 := hid ((HS3.out.keep HBl.out HNf.out).trans HX0.out)
 obtain ⟨k0,k1,k2,k3,k4,k5,k6,k7,k8⟩ := NineAt.of_block HX3.out
 have wc0 := HS3.out.wr.c0
 have wc1 := HS3.out.wr.c1
 have wf0 := HS3.out.wr.fz 0
 have hwl := HS3.out.wr.wl
 have hbn : ¬ b0 = Wb := fun e => HNf.out (.inl e)
 have HM1 := hid (show o3.length + b.length ≤ maxLen by have := HL3.out; unfold maxLen; omega)
 have HM2 := hid (show (o3.length + b.length) * 1 ≤ 140737488355328 by have := HL3.out; omega)
 have HM3 : Hid (B ≤ w3.drew.heap.size) := hid (by have := HS3.out.wr.bl; simp; omega)
 obtain ⟨o4,hO4⟩ : ∃ x,o3 ++ b = x := ⟨_,rfl⟩
 have HL4 := hid (show o4.length + 10 ≤ 1000000000 by rw [← hO4,List.length_append,show (b : List UInt8).length = b.length from (rfl)]; have := HL3.out; omega)
 have HO4 := hid hO4
 clear hO4
 ·
  go_region_law (first
   | (refine step_app (by rfl) (.tmp 154) (.tmp 156) 22 22 (by rfl) B 5 i0 (.int .u8 0) 1 1 Try.underlying22 X1.out X2.out X3.out X4.out rfl (by decide) (.slice a3 o3.length c3) o3.length (o3.map cellB) (by rfl) HS3.out.wr.row.drew (.slice ba b.length bc) b.length (b.map cellB) (by rfl) HSr.out HM1.out HM2.out HM3.out ?_; intro a4 c4 wz ho4 hg4 hl4; have HA := hid (HS3.out.wr.app (W0 := w3.drew) (Below.refl _ w3).drew (news := b) (k := b.length) (rfl) hg4 (by skip; exact ho4) hl4); have hK := HS3.out.wr.kept (W0 := w3.drew) (Below.refl _ w3).drew hg4; obtain ⟨y4,z4⟩ := hK; clear ho4 hg4 hl4))
  all_goals
   try go_wp2_with fail
   have HSo := hid (HS3.out.trans HA.out)
   go_end0
   exact ⟨rfl,_,_,_,by rw [show out ++ (UInt8.ofNat 8 :: (wideB b.length ++ b)) = o3 ++ b by rw [← HO3.out,← HO2.out]; simp]; exact HSa.out.trans HSo.out⟩
set_option maxHeartbeats 4000000 in
theorem wp2 (B Wb p m : Nat) (v : Value) (a : Option Addr) (c : Nat) (out : List UInt8) (names : List ByteArray) (fx fy : Nat) (hx : fx < 18446744073709551616) (hy : fy < 18446744073709551616) (w : World) (h : WrAt B Wb p m v a c out names w) (hlen : out.length + 100 ≤ 1000000000) :
  Calls Try.prog 39 #[.pointer (some ⟨Wb,0,none⟩),.agg #[.int .i64 2,.int .i64 0,.complex .f64 fx fy,.string ⟨#[]⟩,.int .i64 0,.int .u32 0,.int .u64 0,nilV,nilV]] w (WrPost B Wb p m v a c out w (out ++ (UInt8.ofNat 2 :: (bitsB fx ++ bitsB fy))) names) := by
 have HL1 := hid hlen
 obtain ⟨i0,hi,hz0,hz1,hz2⟩ := info_parts infoU8
 have X1 := hid hi
 have X2 := hid hz0
 have X3 := hid hz1
 have X4 := hid hz2
 have HX0 := hid (heap_new w (.cells #[.int .i64 2,.int .i64 0,.complex .f64 fx fy,.string ⟨#[]⟩,.int .i64 0,.int .u32 0,.int .u64 0,nilV,nilV] 31))
 have HSa := hid (h.stay ((Below.refl _ w).alloc (Nat.le_refl _) (.cells #[.int .i64 2,.int .i64 0,.complex .f64 fx fy,.string ⟨#[]⟩,.int .i64 0,.int .u32 0,.int .u64 0,nilV,nilV] 31)))
 have HNf := hid (show ¬ wfoot Wb p m v a out.length c w.heap.size from fun e => by have := (h.foot _ e).2; omega)
 have HBl := hid (show w.heap.size < (w.alloc (.cells #[.int .i64 2,.int .i64 0,.complex .f64 fx fy,.string ⟨#[]⟩,.int .i64 0,.int .u32 0,.int .u64 0,nilV,nilV] 31)).heap.size by simp)
 have HBw := hid h.bl
 clear h hi hz0 hz1 hz2 hlen
 go_enter Try.func39,Try.ntmps39
 go_wp2_with fail
 obtain ⟨b0,hb0⟩ : ∃ b,w.heap.size = b := ⟨_,rfl⟩
 rw [hb0] at HNf HBl HX0 ⊢
 have HB0 := hid hb0
 clear hb0
 generalize w.alloc (.cells #[.int .i64 2,.int .i64 0,.complex .f64 fx fy,.string ⟨#[]⟩,.int .i64 0,.int .u32 0,.int .u64 0,nilV,nilV] 31) = w1 at *
 have HS1 := hid (HSa.out.wr.stay (Below.refl _ w1))
 have HX1 := hid ((HS1.out.keep HBl.out HNf.out).trans HX0.out)
 obtain ⟨k0,k1,k2,k3,k4,k5,k6,k7,k8⟩ := NineAt.of_block HX1.out
 have wc0 := HS1.out.wr.c0
 have wc1 := HS1.out.wr.c1
 have wf0 := HS1.out.wr.fz 0
 have hwl := HS1.out.wr.wl
 have hbn : ¬ b0 = Wb := fun e => HNf.out (.inl e)
 have HM1 := hid (show out.length + 1 ≤ maxLen by have := HL1.out; unfold maxLen; omega)
 have HM2 := hid (show (out.length + 1) * 1 ≤ 140737488355328 by have := HL1.out; omega)
 have HM3 : Hid (B ≤ (w1.drew.alloc (.cells #[.int .u8 2] 5)).heap.size) := hid (by have := HS1.out.wr.bl; simp; omega)
 obtain ⟨o2,hO2⟩ : ∃ x,out ++ [UInt8.ofNat 2] = x := ⟨_,rfl⟩
 have HL2 := hid (show o2.length + 90 ≤ 1000000000 by rw [← hO2,List.length_append,show ([UInt8.ofNat 2] : List UInt8).length = 1 from (rfl)]; have := HL1.out; omega)
 have HO2 := hid hO2
 clear hO2
 go_cut [3] from 9 to 20 (fun t3 wx => t3 = .pointer (some ⟨b0,0,none⟩) ∧ ∃ (v' : Value) (a' : Option Addr) (c' : Nat),WrStep B Wb p m v a c out w1 v' a' c' o2 names wx)
 case first =>
  go_region_law (first
   | (refine step_app (by rfl) (.tmp 13) (.tmp 17) 22 22 (by rfl) B 5 i0 (.int .u8 0) 1 1 Try.underlying22 X1.out X2.out X3.out X4.out rfl (by decide) (.slice a out.length c) out.length (out.map cellB) (by rfl) (HS1.out.wr.row.drew.alloc _) (.slice (some ⟨w1.heap.size,0,none⟩) 1 1) 1 [.int .u8 2] (by rfl) (src_one w1.drew Try.underlying22 _ _ rfl) HM1.out HM2.out HM3.out ?_; intro a4 c4 wz ho4 hg4 hl4; have HA := hid (HS1.out.wr.app (W0 := (w1.drew.alloc (.cells #[.int .u8 2] 5))) ((Below.refl _ w1).drew.alloc (Nat.le_refl _) _) (news := [UInt8.ofNat 2]) (k := 1) (rfl) hg4 (by rw [cell1 (x := 2) (by decide) rfl]; exact ho4) hl4); have hK := HS1.out.wr.kept (W0 := (w1.drew.alloc (.cells #[.int .u8 2] 5))) ((Below.refl _ w1).drew.alloc (Nat.le_refl _) _) hg4; obtain ⟨y4,z4⟩ := hK; clear ho4 hg4 hl4))
  all_goals
   go_wp2_with fail
   go_meet
   exact ⟨rfl,_,_,_,by rw [← HO2.out]; exact HS1.out.trans HA.out⟩
 clear k0 k1 k2 k3 k4 k5 k6 k7 k8 wc0 wc1 wf0 hwl hbn
 obtain ⟨rfl,v2,a2,c2,hs⟩ := hcut
 have HS2 := hid hs
 clear hs HM1 HM2 HM3
 obtain ⟨w2,rfl⟩ : ∃ x,x = wc := ⟨_,rfl⟩
 have HX2 := hid ((HS2.out.keep HBl.out HNf.out).trans HX0.out)
 obtain ⟨k0,k1,k2,k3,k4,k5,k6,k7,k8⟩ := NineAt.of_block HX2.out
 have wc0 := HS2.out.wr.c0
 have wc1 := HS2.out.wr.c1
 have wf0 := HS2.out.wr.fz 0
 have hwl := HS2.out.wr.wl
 have hbn : ¬ b0 = Wb := fun e => HNf.out (.inl e)
 go_wp2_with fail
 clear k0 k1 k2 k3 k4 k5 k6 k7 k8 wc0 wc1 wf0 hwl hbn
 refine (wbits_any B Wb p m v2 a2 c2 o2 names fx (hx) w2 HS2.out.wr (by have := HL2.out; omega)).mono ?_
 rintro e w3 ⟨rfl,v3,a3,c3,hs⟩
 have HS3 := hid (HS2.out.trans hs)
 clear hs
 obtain ⟨o3,hO3⟩ : ∃ x,o2 ++ bitsB fx = x := ⟨_,rfl⟩
 have HL3 := hid (show o3.length + 60 ≤ 1000000000 by rw [← hO3,List.length_append]; have := HL2.out; have : (bitsB fx).length = 8 := rfl; omega)
 rw [hO3] at HS3
 have HO3 := hid hO3
 clear hO3
 have HX3 := hid ((HS3.out.keep HBl.out HNf.out).trans HX0.out)
 obtain ⟨k0,k1,k2,k3,k4,k5,k6,k7,k8⟩ := NineAt.of_block HX3.out
 have wc0 := HS3.out.wr.c0
 have wc1 := HS3.out.wr.c1
 have wf0 := HS3.out.wr.fz 0
 have hwl := HS3.out.wr.wl
 have hbn : ¬ b0 = Wb := fun e => HNf.out (.inl e)
 go_wp2_with fail
 clear k0 k1 k2 k3 k4 k5 k6 k7 k8 wc0 wc1 wf0 hwl hbn
 refine (wbits_any B Wb p m v3 a3 c3 o3 names fy (hy) w3 HS3.out.wr (by have := HL3.out; omega)).mono ?_
 rintro e w4 ⟨rfl,v4,a4,c4,hs⟩
 have HS4 := hid (HS3.out.trans hs)
 clear hs
 obtain ⟨o4,hO4⟩ : ∃ x,o3 ++ bitsB fy = x := ⟨_,rfl⟩
 have HL4 := hid (show o4.length + 40 ≤ 1000000000 by rw [← hO4,List.length_append]; have := HL3.out; have : (bitsB fy).length = 8 := rfl; omega)
 rw [hO4] at HS4
 have HO4 := hid hO4
 clear hO4
 go_wp2_with fail
 go_end0
 exact ⟨rfl,v4,a4,c4,by rw [show out ++ (UInt8.ofNat 2 :: (bitsB fx ++ bitsB fy)) = o4 by rw [← HO4.out,← HO3.out,← HO2.out]; simp]; exact HSa.out.trans HS4.out⟩
end Go.Proofs.Ytgadkiljnebicaa
