/- Several texts in one. -/
import Derived.Test.YtkfblapfphnggaaD24
import Derived.Test.YtkfblapfphnggaaD07
import Derived.Test.YtkfblapfphnggaaD08
import Derived.Test.YtkfblapfphnggaaD02
import Derived.Test.YtkfblapfphnggaaD03
/- The document's reader: so many bytes. -/
namespace Go.Proofs.Ytkfblapfphnggaa
open Go.RowKit
set_option maxRecDepth 100000

theorem rsome_e (ba : Option Addr) (bl bc : Nat) (i n : Int) (na : Option Addr) (nl nc : Nat) (c : Int) (hc : ¬ c = 0) (k : Nat) (hk : k ≤ 4096) (w : World) : Calls Try.prog 34 #[stV ba bl bc i n na nl nc c, .int .i64 k] w (RB w (.tuple #[stV ba bl bc i n na nl nc c, nilV])) := by
  have h1 : (c == 0) = false := beq_eq_false_iff_ne.2 hc
  by_cases hk0 : k = 0
  · subst hk0
    go_enter Try.func34, Try.ntmps34
    go_wp2_with fail
    refine wp_loop_rounds 1 ?_
    rw [rounds_succ]
    go_wp2_with fail
    exact bodyPost_ret (v := .tuple #[stV ba bl bc i n na nl nc c, nilV]) (by simp [results, Try.results34, go_sem]) rfl ⟨rfl, ((Below.refl w.heap.size w).alloc (Nat.le_refl _) _).alloc (by simp) _⟩
  · have hk1 : (0 : Int) < (k : Int) := by omega
    go_enter Try.func34, Try.ntmps34
    go_wp2_with fail
    refine wp_loop_rounds 1 ?_
    rw [rounds_succ]
    go_wp2_with fail
    exact bodyPost_ret (v := .tuple #[stV ba bl bc i n na nl nc c, nilV]) (by simp [results, Try.results34, go_sem]) rfl ⟨rfl, ((Below.refl w.heap.size w).alloc (Nat.le_refl _) _).alloc (by simp) _⟩
/-- HOW THE DOCUMENT'S some ENDS -/
def RPS (ba : Option Addr) (bl bc : Nat) (na : Option Addr) (nl nc : Nat) (W : World) (r : Except Int (List UInt8 × St)) (e : Ending) (w' : World) : Prop :=
  match r with
  | .ok (l, s') => ∃ a c, e = .returned (.tuple #[stV ba bl bc s'.i s'.n na nl nc 0, .slice a l.length c]) ∧ w'.ownsRow W.heap.size 5 1 (.slice a l.length c) l.length (l.map cellB) ∧ (l.length = 0 → Value.slice a l.length c = nilV) ∧ Below W.heap.size W w'
  | .error x => ∃ (i n : Int) (l : List UInt8) (a : Option Addr) (c : Nat), e = .returned (.tuple #[stV ba bl bc i n na nl nc x, .slice a l.length c]) ∧ w'.ownsRow W.heap.size 5 1 (.slice a l.length c) l.length (l.map cellB) ∧ l.length ≤ 4096 ∧ Below W.heap.size W w'
/-- how a round of the document's bytes begins -/
def rsRel (ba : Option Addr) (bc : Nat) (bs : List UInt8) (s : St) (k : Nat) (na : Option Addr) (nl nc : Nat) (X : Nat) (W : World) (t6 t7 : Value) (w : World) : Prop :=
  ∃ (j : Nat) (a : Option Addr) (c : Nat) (l : List UInt8) (i' n' cd : Int), j ≤ k ∧ t6 = .slice a j c ∧ t7 = .int .i64 j ∧ w.ownsRow (X + 2) 5 1 (.slice a j c) j (l.map cellB) ∧ l.length = j ∧ (j = 0 → Value.slice a j c = nilV) ∧
    w.heap[X]? = some (.cells #[.slice ba bs.length bc, .int .i64 i', .int .i64 n', .slice na nl nc, .int .i64 cd] 57 (0, 0)) ∧ w.heap[X + 1]? = some (.cells #[nilV, .int .i64 0, .int .i64 0, nilV, .int .i64 0] 57 (0, 0)) ∧ Below X W w ∧
    ((cd = 0 ∧ i' = (s.i : Int) + (j : Int) ∧ n' = s.n ∧ l = (bs.drop s.i).take j ∧ s.i + j ≤ bs.length) ∨ (cd = 72 ∧ someP bs k s = .error 72))
set_option maxHeartbeats 2000000 in
theorem rsome_any (ba : Option Addr) (bc : Nat) (bs : List UInt8) (s : St) (na : Option Addr) (nc : Nat) (k : Nat) (hk : k ≤ 4096) (w : World) (h : RfAt w ba bc bs s na nc) :
    Calls Try.prog 34 #[stV ba bs.length bc s.i s.n na s.names.length nc 0, .int .i64 k] w (RPS ba bs.length bc na s.names.length nc w (someP bs k s)) := by
  have H := Lib.hid h
  clear h
  generalize hnl : s.names.length = nl at *
  have hbl := H.out.len
  have hile := H.out.ile
  clear hnl
  go_enter Try.func34, Try.ntmps34
  go_wp2_with fail
  have hXY : ¬ w.heap.size = w.heap.size + 1 := by omega
  have HX1 : Hid (((w.alloc (.cells #[.slice ba bs.length bc, .int .i64 (s.i : Int), .int .i64 (s.n : Int), .slice na nl nc, .int .i64 0] 57)).alloc (.cells #[nilV, .int .i64 0, .int .i64 0, nilV, .int .i64 0] 57)).heap[w.heap.size]? = some (.cells #[.slice ba bs.length bc, .int .i64 (s.i : Int), .int .i64 (s.n : Int), .slice na nl nc, .int .i64 0] 57 (0, 0))) := (Below.heap_alloc _ _ _ (by simp)).trans (heap_new w _)
  have HY1 : Hid (((w.alloc (.cells #[.slice ba bs.length bc, .int .i64 (s.i : Int), .int .i64 (s.n : Int), .slice na nl nc, .int .i64 0] 57)).alloc (.cells #[nilV, .int .i64 0, .int .i64 0, nilV, .int .i64 0] 57)).heap[w.heap.size + 1]? = some (.cells #[nilV, .int .i64 0, .int .i64 0, nilV, .int .i64 0] 57 (0, 0))) := heap_new_at (by simp)
  have HB1 := Lib.hid (((Below.refl w.heap.size w).alloc (Nat.le_refl _) (.cells #[.slice ba bs.length bc, .int .i64 (s.i : Int), .int .i64 (s.n : Int), .slice na nl nc, .int .i64 0] 57)).alloc (by simp) (.cells #[nilV, .int .i64 0, .int .i64 0, nilV, .int .i64 0] 57))
  generalize ((w.alloc (.cells #[.slice ba bs.length bc, .int .i64 (s.i : Int), .int .i64 (s.n : Int), .slice na nl nc, .int .i64 0] 57)).alloc (.cells #[nilV, .int .i64 0, .int .i64 0, nilV, .int .i64 0] 57)) = w1 at *
  obtain ⟨i0, hi, hz0, hz1, hz2⟩ := info_parts infoB
  have X1 := Lib.hid hi
  have X2 := Lib.hid hz0
  have X3 := Lib.hid hz1
  have X4 := Lib.hid hz2
  clear hi hz0 hz1 hz2
  go_loopw [6, 7] (fun t6 t7 wr => rsRel ba bc bs s k na nl nc w.heap.size w t6 t7 wr) (fun _ t7 _ => k - (intOf t7).toNat)
  case atStart => exact ⟨0, none, 0, [], _, _, _, by omega, rfl, rfl, World.ownsRow_nil _ _ _ _, rfl, fun _ => rfl, HX1.out, HY1.out, HB1.out, .inl ⟨rfl, by simp, rfl, by simp, by omega⟩⟩
  case round =>
    obtain ⟨j, a, c, l, i', n', cd, hj, rfl, rfl, ho, hlen, hnil, hX, hY, hB, hcd⟩ := hrel
    have HX2 := Lib.hid hX
    have HY2 := Lib.hid hY
    have HB2 := Lib.hid hB
    have HO2 := Lib.hid ho
    have HLn := Lib.hid hlen
    have HNil := Lib.hid hnil
    clear hX hY hB ho hlen hnil HX1 HY1 HB1
    generalize wr = w2 at *
    have hMB := Lib.hid (show j + 1 ≤ maxLen by unfold maxLen; omega)
    have hMB2 := Lib.hid (show (j + 1) * 1 ≤ 140737488355328 by omega)
    obtain ⟨k0, k1, k2, k3, k4⟩ := FiveAt.of_block HX2.out
    rcases hcd with ⟨rfl, rfl, rfl, hl, hil⟩ | ⟨rfl, her⟩
    · have HLe := Lib.hid hl
      clear hl
      by_cases hlt : j < k
      · have hj1 : (j : Int) < (k : Int) := by omega
        by_cases hi : s.i + j < bs.length
        · have H1 : Hid (Calls Try.prog 18 #[stV ba bs.length bc ((s.i : Int) + (j : Int)) s.n na nl nc 0] w2 (RB w2 (.tuple #[stV ba bs.length bc ((s.i : Int) + (j : Int) + 1) s.n na nl nc 0, cellB bs[s.i + j]]))) := by
            obtain ⟨a2, c2, hbv, hl2, hc⟩ := H.out.src.below (HB2.out.mono (Nat.le_refl _))
            obtain ⟨b, off, ha, hcell⟩ := hc (by simp; omega)
            have hx := hcell (s.i + j) (by simpa using hi)
            rw [List.getElem_map] at hx
            have e : ba = a2 := by injection hbv
            rw [e, ha]
            have h := rone_yes b off bs.length bc (s.i + j) s.n na nl nc _ H.out.len hi w2 hx
            rw [Int.natCast_add] at h
            exact h
          have HTk := Lib.hid (tk_succ hi)
          generalize bs[s.i + j] = x at *
          go_wp2_with fail
          refine H1.out.mono ?_
          rintro e w3 ⟨rfl, hb⟩
          have HO3 := Lib.hid (row_same HO2.out (fun b _ hlt => hb.block b hlt))
          clear k0 k1 k2 k3 k4 HO2
          have HX3 := Lib.hid ((hb.block _ (blk_lt HX2.out)).trans HX2.out)
          have HY3 := Lib.hid ((hb.block _ (blk_lt HY2.out)).trans HY2.out)
          have HB3 := Lib.hid (HB2.out.trans (hb.mono HB2.out.size))
          clear hb HB2 HX2 HY2
          have HX3a := Lib.hid ((Below.heap_alloc w3 (.cells #[.slice ba bs.length bc, .int .i64 ((s.i : Int) + (j : Int) + 1), .int .i64 (s.n : Int), .slice na nl nc, .int .i64 0] 57) _ (blk_lt HX3.out)).trans HX3.out)
          have HY3a := Lib.hid ((Below.heap_alloc w3 (.cells #[.slice ba bs.length bc, .int .i64 ((s.i : Int) + (j : Int) + 1), .int .i64 (s.n : Int), .slice na nl nc, .int .i64 0] 57) _ (blk_lt HY3.out)).trans HY3.out)
          have HB3a := Lib.hid (HB3.out.alloc (by have := HB3.out.size; omega) (.cells #[.slice ba bs.length bc, .int .i64 ((s.i : Int) + (j : Int) + 1), .int .i64 (s.n : Int), .slice na nl nc, .int .i64 0] 57))
          go_upto_region 7 with (refine wpList_store_row rfl 57 (.tmp 2) (.tmp 25) rfl (w.heap.size) #[.slice ba bs.length bc, .int .i64 ((s.i : Int) + (j : Int) + 1), .int .i64 (s.n : Int), .slice na nl nc, .int .i64 0] rfl rfl 57 #[.slice ba bs.length bc, .int .i64 ((s.i : Int) + (j : Int)), .int .i64 (s.n : Int), .slice na nl nc, .int .i64 0] HX3a.out infoS rfl (by simp [Array.all, Value.oneCell']) ?_)
          have HO4 := Lib.hid (row_same (HO3.out.alloc (.cells #[.slice ba bs.length bc, .int .i64 ((s.i : Int) + (j : Int) + 1), .int .i64 (s.n : Int), .slice na nl nc, .int .i64 0] 57)) (fun b e _ => setRow_other (w3.alloc (.cells #[.slice ba bs.length bc, .int .i64 ((s.i : Int) + (j : Int) + 1), .int .i64 (s.n : Int), .slice na nl nc, .int .i64 0] 57)) w.heap.size b #[.slice ba bs.length bc, .int .i64 ((s.i : Int) + (j : Int) + 1), .int .i64 (s.n : Int), .slice na nl nc, .int .i64 0] (by have := ((HO3.out.alloc (.cells #[.slice ba bs.length bc, .int .i64 ((s.i : Int) + (j : Int) + 1), .int .i64 (s.n : Int), .slice na nl nc, .int .i64 0] 57)).lt b e).1; omega)))
          generalize (w3.alloc (.cells #[.slice ba bs.length bc, .int .i64 ((s.i : Int) + (j : Int) + 1), .int .i64 (s.n : Int), .slice na nl nc, .int .i64 0] 57)) = w3a at *
          have HX4 := Lib.hid (setRow_heap w3a (w.heap.size) #[.slice ba bs.length bc, .int .i64 ((s.i : Int) + (j : Int)), .int .i64 (s.n : Int), .slice na nl nc, .int .i64 0] #[.slice ba bs.length bc, .int .i64 ((s.i : Int) + (j : Int) + 1), .int .i64 (s.n : Int), .slice na nl nc, .int .i64 0] 57 (0, 0) HX3a.out)
          have HY4 := Lib.hid ((setRow_other w3a (w.heap.size) (w.heap.size + 1) #[.slice ba bs.length bc, .int .i64 ((s.i : Int) + (j : Int) + 1), .int .i64 (s.n : Int), .slice na nl nc, .int .i64 0] (by omega)).trans HY3a.out)
          have HB4 := Lib.hid (HB3a.out.trans ((setRow_turn w3a (w.heap.size) #[.slice ba bs.length bc, .int .i64 ((s.i : Int) + (j : Int) + 1), .int .i64 (s.n : Int), .slice na nl nc, .int .i64 0]).below HB3a.out.size (fun i e => by omega)))
          clear HB3 HB3a HX3 HX3a HY3 HY3a
          generalize w3a.setRow (w.heap.size) #[.slice ba bs.length bc, .int .i64 ((s.i : Int) + (j : Int) + 1), .int .i64 (s.n : Int), .slice na nl nc, .int .i64 0] = w4 at *
          have hMB3 := Lib.hid (show w.heap.size + 2 ≤ (w4.alloc (.cells #[cellB x] 5)).heap.size by have h1 := blk_lt HY4.out; simp; omega)
          go_wp2_with (at_builtin; refine wpList_app _ rfl (.tmp 26) (.tmp 28) 22 22 rfl (w.heap.size + 2) 5 i0 (.int .u8 0) 1 1 Try.underlying22 X1.out X2.out X3.out X4.out rfl (by decide) _ _ _ rfl (HO4.out.alloc _) _ 1 [cellB x] rfl (src_one _ Try.underlying22 _ _ rfl) hMB.out hMB2.out hMB3.out ?_; intro a7 c7 w7 ho7 hg7 hn7 hl7; have HO7 := Lib.hid ho7; have HK7 := Lib.hid (app_keep HO4.out hg7); clear ho7 hg7 hn7 hl7)
          have HX7 := Lib.hid ((HK7.out.1 _ (by omega) (blk_lt HX4.out)).trans HX4.out)
          have HY7 := Lib.hid ((HK7.out.1 _ (by omega) (blk_lt HY4.out)).trans HY4.out)
          have HB7 := Lib.hid (HB4.out.trans (HK7.out.2.2.below HB4.out.size (fun i e => by have := (HO4.out.lt i e).1; omega)))
          clear HX4 HY4 HB4
          go_round
          case rel => exact ⟨j + 1, a7, c7, l ++ [x], _, _, _, by omega, rfl, by go_num, by rw [List.map_append]; exact HO7.out, by rw [List.length_append, HLn.out]; rfl, fun e => by omega, HX7.out, HY7.out, HB7.out, .inl ⟨rfl, by omega, rfl, by rw [HLe.out, HTk.out], by omega⟩⟩
          case measure => simp [intOf]; omega
        · have hie : (s.i : Int) + (j : Int) = (bs.length : Int) := by omega
          have H1 : Hid (Calls Try.prog 18 #[stV ba bs.length bc ((s.i : Int) + (j : Int)) s.n na nl nc 0] w2 (RB w2 (.tuple #[stV ba bs.length bc ((s.i : Int) + (j : Int)) s.n na nl nc 72, .int .u8 0]))) := by
            rw [hie]
            exact rone_no ba bs.length bc s.n na nl nc hbl w2
          have HE := Lib.hid (show someP bs k s = .error 72 from some_no hlt hi)
          clear hie
          go_wp2_with fail
          refine H1.out.mono ?_
          rintro e w3 ⟨rfl, hb⟩
          have HO3 := Lib.hid (row_same HO2.out (fun b _ hlt => hb.block b hlt))
          clear k0 k1 k2 k3 k4 HO2
          have HX3 := Lib.hid ((hb.block _ (blk_lt HX2.out)).trans HX2.out)
          have HY3 := Lib.hid ((hb.block _ (blk_lt HY2.out)).trans HY2.out)
          have HB3 := Lib.hid (HB2.out.trans (hb.mono HB2.out.size))
          clear hb HB2 HX2 HY2
          have HX3a := Lib.hid ((Below.heap_alloc w3 (.cells #[.slice ba bs.length bc, .int .i64 ((s.i : Int) + (j : Int)), .int .i64 (s.n : Int), .slice na nl nc, .int .i64 72] 57) _ (blk_lt HX3.out)).trans HX3.out)
          have HY3a := Lib.hid ((Below.heap_alloc w3 (.cells #[.slice ba bs.length bc, .int .i64 ((s.i : Int) + (j : Int)), .int .i64 (s.n : Int), .slice na nl nc, .int .i64 72] 57) _ (blk_lt HY3.out)).trans HY3.out)
          have HB3a := Lib.hid (HB3.out.alloc (by have := HB3.out.size; omega) (.cells #[.slice ba bs.length bc, .int .i64 ((s.i : Int) + (j : Int)), .int .i64 (s.n : Int), .slice na nl nc, .int .i64 72] 57))
          go_upto_region 7 with (refine wpList_store_row rfl 57 (.tmp 2) (.tmp 25) rfl (w.heap.size) #[.slice ba bs.length bc, .int .i64 ((s.i : Int) + (j : Int)), .int .i64 (s.n : Int), .slice na nl nc, .int .i64 72] rfl rfl 57 #[.slice ba bs.length bc, .int .i64 ((s.i : Int) + (j : Int)), .int .i64 (s.n : Int), .slice na nl nc, .int .i64 0] HX3a.out infoS rfl (by simp [Array.all, Value.oneCell']) ?_)
          have HO4 := Lib.hid (row_same (HO3.out.alloc (.cells #[.slice ba bs.length bc, .int .i64 ((s.i : Int) + (j : Int)), .int .i64 (s.n : Int), .slice na nl nc, .int .i64 72] 57)) (fun b e _ => setRow_other (w3.alloc (.cells #[.slice ba bs.length bc, .int .i64 ((s.i : Int) + (j : Int)), .int .i64 (s.n : Int), .slice na nl nc, .int .i64 72] 57)) w.heap.size b #[.slice ba bs.length bc, .int .i64 ((s.i : Int) + (j : Int)), .int .i64 (s.n : Int), .slice na nl nc, .int .i64 72] (by have := ((HO3.out.alloc (.cells #[.slice ba bs.length bc, .int .i64 ((s.i : Int) + (j : Int)), .int .i64 (s.n : Int), .slice na nl nc, .int .i64 72] 57)).lt b e).1; omega)))
          generalize (w3.alloc (.cells #[.slice ba bs.length bc, .int .i64 ((s.i : Int) + (j : Int)), .int .i64 (s.n : Int), .slice na nl nc, .int .i64 72] 57)) = w3a at *
          have HX4 := Lib.hid (setRow_heap w3a (w.heap.size) #[.slice ba bs.length bc, .int .i64 ((s.i : Int) + (j : Int)), .int .i64 (s.n : Int), .slice na nl nc, .int .i64 0] #[.slice ba bs.length bc, .int .i64 ((s.i : Int) + (j : Int)), .int .i64 (s.n : Int), .slice na nl nc, .int .i64 72] 57 (0, 0) HX3a.out)
          have HY4 := Lib.hid ((setRow_other w3a (w.heap.size) (w.heap.size + 1) #[.slice ba bs.length bc, .int .i64 ((s.i : Int) + (j : Int)), .int .i64 (s.n : Int), .slice na nl nc, .int .i64 72] (by omega)).trans HY3a.out)
          have HB4 := Lib.hid (HB3a.out.trans ((setRow_turn w3a (w.heap.size) #[.slice ba bs.length bc, .int .i64 ((s.i : Int) + (j : Int)), .int .i64 (s.n : Int), .slice na nl nc, .int .i64 72]).below HB3a.out.size (fun i e => by omega)))
          clear HB3 HB3a HX3 HX3a HY3 HY3a
          generalize w3a.setRow (w.heap.size) #[.slice ba bs.length bc, .int .i64 ((s.i : Int) + (j : Int)), .int .i64 (s.n : Int), .slice na nl nc, .int .i64 72] = w4 at *
          have hMB3 := Lib.hid (show w.heap.size + 2 ≤ (w4.alloc (.cells #[.int .u8 0] 5)).heap.size by have h1 := blk_lt HY4.out; simp; omega)
          go_wp2_with (at_builtin; refine wpList_app _ rfl (.tmp 26) (.tmp 28) 22 22 rfl (w.heap.size + 2) 5 i0 (.int .u8 0) 1 1 Try.underlying22 X1.out X2.out X3.out X4.out rfl (by decide) _ _ _ rfl (HO4.out.alloc _) _ 1 [.int .u8 0] rfl (src_one _ Try.underlying22 _ _ rfl) hMB.out hMB2.out hMB3.out ?_; intro a7 c7 w7 ho7 hg7 hn7 hl7; have HO7 := Lib.hid ho7; have HK7 := Lib.hid (app_keep HO4.out hg7); clear ho7 hg7 hn7 hl7)
          have HX7 := Lib.hid ((HK7.out.1 _ (by omega) (blk_lt HX4.out)).trans HX4.out)
          have HY7 := Lib.hid ((HK7.out.1 _ (by omega) (blk_lt HY4.out)).trans HY4.out)
          have HB7 := Lib.hid (HB4.out.trans (HK7.out.2.2.below HB4.out.size (fun i e => by have := (HO4.out.lt i e).1; omega)))
          clear HX4 HY4 HB4
          go_round
          case rel => exact ⟨j + 1, a7, c7, l ++ [0], _, _, _, by omega, rfl, by go_num, by rw [List.map_append]; exact HO7.out, by rw [List.length_append, HLn.out]; rfl, fun e => by omega, HX7.out, HY7.out, HB7.out, .inr ⟨rfl, HE.out⟩⟩
          case measure => simp [intOf]; omega
      · obtain rfl : j = k := by omega
        have HK := Lib.hid (show someP bs j s = .ok (l, { s with i := s.i + j }) by rw [some_yes hil, HLe.out])
        go_wp2_with (refine wpList_store_row rfl 57 (.tmp 4) (.tmp 30) rfl (w.heap.size + 1) #[.slice ba bs.length bc, .int .i64 ((s.i : Int) + (j : Int)), .int .i64 (s.n : Int), .slice na nl nc, .int .i64 0] rfl rfl 57 #[nilV, .int .i64 0, .int .i64 0, nilV, .int .i64 0] HY2.out infoS rfl (by simp [Array.all, Value.oneCell']) ?_)
        have HY3 := Lib.hid (setRow_heap w2 (w.heap.size + 1) #[nilV, .int .i64 0, .int .i64 0, nilV, .int .i64 0] #[.slice ba bs.length bc, .int .i64 ((s.i : Int) + (j : Int)), .int .i64 (s.n : Int), .slice na nl nc, .int .i64 0] 57 (0, 0) HY2.out)
        have HX3 := Lib.hid ((setRow_other w2 (w.heap.size + 1) (w.heap.size) #[.slice ba bs.length bc, .int .i64 ((s.i : Int) + (j : Int)), .int .i64 (s.n : Int), .slice na nl nc, .int .i64 0] (by omega)).trans HX2.out)
        have HB3 := Lib.hid (HB2.out.trans ((setRow_turn w2 (w.heap.size + 1) #[.slice ba bs.length bc, .int .i64 ((s.i : Int) + (j : Int)), .int .i64 (s.n : Int), .slice na nl nc, .int .i64 0]).below HB2.out.size (fun i e => by omega)))
        clear HB2 HY2 HX2
        have HO3 := Lib.hid (row_same HO2.out (fun b e _ => setRow_other w2 (w.heap.size + 1) b #[.slice ba bs.length bc, .int .i64 ((s.i : Int) + (j : Int)), .int .i64 (s.n : Int), .slice na nl nc, .int .i64 0] (by have := (HO2.out.lt b e).1; omega)))
        clear k0 k1 k2 k3 k4 HO2
        generalize w2.setRow (w.heap.size + 1) #[.slice ba bs.length bc, .int .i64 ((s.i : Int) + (j : Int)), .int .i64 (s.n : Int), .slice na nl nc, .int .i64 0] = w3 at *
        obtain ⟨k0, k1, k2, k3, k4⟩ := FiveAt.of_block HY3.out
        exact bodyPost_ret (v := .tuple #[stV ba bs.length bc ((s.i : Int) + (j : Int)) s.n na nl nc 0, .slice a j c]) (by simp [results, Try.results34, go_sem, k0, k1, k2, k3, k4]) rfl (by rw [HK.out]; have hlj := HLn.out; subst hlj; exact ⟨a, c, rfl, owns_mono HO3.out (by omega), HNil.out, HB3.out⟩)
    · have HE := Lib.hid her
      clear her
      have hlt : ((j : Int) < (k : Int)) ∨ decide ((j : Int) < (k : Int)) = false := by
        by_cases h : (j : Int) < (k : Int)
        · exact .inl h
        · exact .inr (decide_eq_false h)
      rcases hlt with hlt | hlt
      · go_wp2_with (refine wpList_store_row rfl 57 (.tmp 4) (.tmp 30) rfl (w.heap.size + 1) #[.slice ba bs.length bc, .int .i64 i', .int .i64 n', .slice na nl nc, .int .i64 72] rfl rfl 57 #[nilV, .int .i64 0, .int .i64 0, nilV, .int .i64 0] HY2.out infoS rfl (by simp [Array.all, Value.oneCell']) ?_)
        have HY3 := Lib.hid (setRow_heap w2 (w.heap.size + 1) #[nilV, .int .i64 0, .int .i64 0, nilV, .int .i64 0] #[.slice ba bs.length bc, .int .i64 i', .int .i64 n', .slice na nl nc, .int .i64 72] 57 (0, 0) HY2.out)
        have HX3 := Lib.hid ((setRow_other w2 (w.heap.size + 1) (w.heap.size) #[.slice ba bs.length bc, .int .i64 i', .int .i64 n', .slice na nl nc, .int .i64 72] (by omega)).trans HX2.out)
        have HB3 := Lib.hid (HB2.out.trans ((setRow_turn w2 (w.heap.size + 1) #[.slice ba bs.length bc, .int .i64 i', .int .i64 n', .slice na nl nc, .int .i64 72]).below HB2.out.size (fun i e => by omega)))
        clear HB2 HY2 HX2
        have HO3 := Lib.hid (row_same HO2.out (fun b e _ => setRow_other w2 (w.heap.size + 1) b #[.slice ba bs.length bc, .int .i64 i', .int .i64 n', .slice na nl nc, .int .i64 72] (by have := (HO2.out.lt b e).1; omega)))
        clear k0 k1 k2 k3 k4 HO2
        generalize w2.setRow (w.heap.size + 1) #[.slice ba bs.length bc, .int .i64 i', .int .i64 n', .slice na nl nc, .int .i64 72] = w3 at *
        obtain ⟨k0, k1, k2, k3, k4⟩ := FiveAt.of_block HY3.out
        exact bodyPost_ret (v := .tuple #[stV ba bs.length bc i' n' na nl nc 72, .slice a j c]) (by simp [results, Try.results34, go_sem, k0, k1, k2, k3, k4]) rfl (by rw [HE.out]; have hlj := HLn.out; subst hlj; exact ⟨_, _, l, a, c, rfl, owns_mono HO3.out (by omega), by omega, HB3.out⟩)
      · have hlt2 : decide (j < k) = false := by rw [decide_eq_false_iff_not] at hlt ⊢; omega
        go_wp2_with (refine wpList_store_row rfl 57 (.tmp 4) (.tmp 30) rfl (w.heap.size + 1) #[.slice ba bs.length bc, .int .i64 i', .int .i64 n', .slice na nl nc, .int .i64 72] rfl rfl 57 #[nilV, .int .i64 0, .int .i64 0, nilV, .int .i64 0] HY2.out infoS rfl (by simp [Array.all, Value.oneCell']) ?_)
        have HY3 := Lib.hid (setRow_heap w2 (w.heap.size + 1) #[nilV, .int .i64 0, .int .i64 0, nilV, .int .i64 0] #[.slice ba bs.length bc, .int .i64 i', .int .i64 n', .slice na nl nc, .int .i64 72] 57 (0, 0) HY2.out)
        have HX3 := Lib.hid ((setRow_other w2 (w.heap.size + 1) (w.heap.size) #[.slice ba bs.length bc, .int .i64 i', .int .i64 n', .slice na nl nc, .int .i64 72] (by omega)).trans HX2.out)
        have HB3 := Lib.hid (HB2.out.trans ((setRow_turn w2 (w.heap.size + 1) #[.slice ba bs.length bc, .int .i64 i', .int .i64 n', .slice na nl nc, .int .i64 72]).below HB2.out.size (fun i e => by omega)))
        clear HB2 HY2 HX2
        have HO3 := Lib.hid (row_same HO2.out (fun b e _ => setRow_other w2 (w.heap.size + 1) b #[.slice ba bs.length bc, .int .i64 i', .int .i64 n', .slice na nl nc, .int .i64 72] (by have := (HO2.out.lt b e).1; omega)))
        clear k0 k1 k2 k3 k4 HO2
        generalize w2.setRow (w.heap.size + 1) #[.slice ba bs.length bc, .int .i64 i', .int .i64 n', .slice na nl nc, .int .i64 72] = w3 at *
        obtain ⟨k0, k1, k2, k3, k4⟩ := FiveAt.of_block HY3.out
        exact bodyPost_ret (v := .tuple #[stV ba bs.length bc i' n' na nl nc 72, .slice a j c]) (by simp [results, Try.results34, go_sem, k0, k1, k2, k3, k4]) rfl (by rw [HE.out]; have hlj := HLn.out; subst hlj; exact ⟨_, _, l, a, c, rfl, owns_mono HO3.out (by omega), by omega, HB3.out⟩)
end Go.Proofs.Ytkfblapfphnggaa
/- The document's Name and find leave the world as it is; what string(b) is. -/
namespace Go.Proofs.Ytkfblapfphnggaa
open Go.RowKit
set_option maxRecDepth 100000

set_option maxHeartbeats 2000000 in
theorem name_rw (s : ByteArray) (w : World) (hs : s.size ≤ maxLen) :
    Calls Try.prog 63 #[.string s] w fun e w' => e = .returned (.bool (nameB s)) ∧ w' = w := by
  unfold maxLen at hs
  by_cases h0 : s.size = 0
  · go_enter Try.func63, Try.ntmps63
    go_wp2
    go_ret
    exact ⟨ret_bool (nameB_empty h0).symm, rfl⟩
  · have hpos : 0 < s.size := by omega
    have hl := len_ne h0
    by_cases h32 : 32 < s.size
    · go_enter Try.func63, Try.ntmps63
      go_wp2
      go_ret
      exact ⟨ret_bool (nameB_long h32).symm, rfl⟩
    · go_enter Try.func63, Try.ntmps63
      go_wp2
      go_loop [2, 3] (fun r i => nameRel s r i) (fun _ i => s.size - (intOf i).toNat)
      case atStart => exact ⟨0, Nat.zero_le _, rfl, rfl, okTo_zero s, fun h => absurd h (by omega)⟩
      case round =>
        obtain ⟨k, hk, rfl, rfl, hall, hfirst⟩ := hrel
        have HA := Lib.hid hall
        have HF := Lib.hid hfirst
        clear hall hfirst
        by_cases hlt : k < s.size
        · have HG := Lib.hid (getB s hlt)
          rcases classes ((s[k]'hlt).toNat : Int) (by omega) with ⟨c1, c2, c3, d1, d2, d3⟩ | ⟨c1, c2, c3, d1, d2, d3⟩ | ⟨c1, c2, c3, d1, d2, d3⟩ | ⟨c1, c2, c3, d1, d2, d3⟩ | ⟨c1, c2, c3, d1, d2, d3⟩ | ⟨c1, c2, c3, d1, d2, d3⟩ | ⟨c1, c2, c3, d1, d2, d3⟩ | ⟨c1, c2, c3, d1, d2, d3⟩ | ⟨c1, c2, c3, d1, d2, d3⟩
          all_goals
            have C3 := Lib.hid c3
            rcases Nat.eq_zero_or_pos k with rfl | hkp
          all_goals
            try have hk0 : ((k : Int) == 0) = false := by rw [beq_eq_false_iff_ne]; omega
            go_wp2
            all_goals
             first
              | (go_ret
                 exact ⟨ret_bool (first_bad hlt HG.out (.inl ⟨rfl, small_not (by omega)⟩)).symm, rfl⟩)
              | (go_ret
                 exact ⟨ret_bool (first_bad hlt HG.out (.inr (okb_not (by omega) (by omega) (by omega) (beq_eq_false_iff_ne.1 C3.out)))).symm, rfl⟩)
              | (go_round
                 case rel => exact ⟨_, by omega, by go_num, rfl, okTo_succ HA.out (by rw [HG.out]; first | exact okb_of (by omega) | exact okb_of (.inr (.inr (.inr (beq_iff_eq.1 C3.out))))), fun _ => by first | exact HF.out (by omega) | (rw [HG.out]; exact small_of (by omega) (by omega))⟩
                 case measure => simp [intOf]; omega)
        · go_wp2
          go_ret
          obtain rfl : k = s.size := by omega
          exact ⟨ret_bool (nameB_true hpos (by omega) (HF.out hpos) HA.out).symm, rfl⟩
theorem find_still (v : Value) (l : List ByteArray) (s : ByteArray) (w : World) (hv : Strs w v l) : Calls Try.prog 64 #[v, .string s] w fun e w' => e = .returned (.int .i64 ((pos l s).getD l.length : Nat)) ∧ w' = w :=
  (find_any v l s w hv).mono fun _ _ h => ⟨h.1, h.2.symm⟩
end Go.Proofs.Ytkfblapfphnggaa
