/- Several texts in one. -/
import Derived.Test.YtkfblapfphnggaaD09
import Derived.Test.YtkfblapfphnggaaD07
/- The document's reader: one. -/
namespace Go.Proofs.Ytkfblapfphnggaa
open Go.RowKit
set_option maxRecDepth 100000

/-- the document's reader stands at s, in the bytes bs -/
structure RfAt (W : World) (ba : Option Addr) (bc : Nat) (bs : List UInt8) (s : St) (na : Option Addr) (nc : Nat) : Prop where
  src : Sl W (.slice ba bs.length bc) (bs.map cellB)
  nms : Strs W (.slice na s.names.length nc) s.names
  len : bs.length ≤ 131072
  ile : s.i ≤ bs.length
  nle : s.n ≤ 4097
theorem RfAt.below {W W' : World} {ba : Option Addr} {bc : Nat} {bs : List UInt8} {s : St} {na : Option Addr} {nc : Nat} (h : RfAt W ba bc bs s na nc) (hb : Below W.heap.size W W') : RfAt W' ba bc bs s na nc :=
  ⟨h.src.below hb, h.nms.below hb, h.len, h.ile, h.nle⟩
theorem RfAt.at {W : World} {ba : Option Addr} {bc : Nat} {bs : List UInt8} {s : St} {na : Option Addr} {nc : Nat} (h : RfAt W ba bc bs s na nc) (hi : s.i < bs.length) : ∃ b off, ba = some ⟨b, off, none⟩ ∧ W.cell? ⟨b, off + s.i, none⟩ = some (cellB bs[s.i]) := by
  obtain ⟨a, c, hbv, hl, hc⟩ := h.src
  obtain ⟨b, off, ha, hcell⟩ := hc (by simpa using Nat.lt_of_le_of_lt (Nat.zero_le _) hi)
  have hx := hcell s.i (by simpa using hi)
  rw [List.getElem_map] at hx
  have e : ba = a := by injection hbv
  exact ⟨b, off, e.trans ha, hx⟩
/-- HOW A SMALL READER OF THE DOCUMENT'S ENDS -/
def RP1 {α : Type} (ba : Option Addr) (bl bc : Nat) (na : Option Addr) (nl nc : Nat) (W : World) (res : α → Value) (U : Value → Prop) (r : Except Int (α × St)) (e : Ending) (w' : World) : Prop :=
  match r with
  | .ok (a, s') => e = .returned (.tuple #[stV ba bl bc s'.i s'.n na nl nc 0, res a]) ∧ Below W.heap.size W w'
  | .error x => ∃ (i n : Int) (u : Value), e = .returned (.tuple #[stV ba bl bc i n na nl nc x, u]) ∧ U u ∧ Below W.heap.size W w'
theorem rone_e (ba : Option Addr) (bl bc : Nat) (i n : Int) (na : Option Addr) (nl nc : Nat) (c : Int) (hc : ¬ c = 0) (w : World) : Calls Try.prog 18 #[stV ba bl bc i n na nl nc c] w (RB w (.tuple #[stV ba bl bc i n na nl nc c, .int .u8 0])) := by
  have h1 : (c != 0) = true := bne_iff_ne.2 hc
  go_enter Try.func18, Try.ntmps18
  go_wp2_with fail
  exact bodyPost_ret (v := .tuple #[stV ba bl bc i n na nl nc c, .int .u8 0]) (by simp [results, Try.results18, go_sem]) rfl ⟨rfl, ((Below.refl w.heap.size w).alloc (Nat.le_refl _) _).alloc (by simp) _⟩
theorem rone_no (ba : Option Addr) (bl bc : Nat) (n : Int) (na : Option Addr) (nl nc : Nat) (_ : bl ≤ 131072) (w : World) : Calls Try.prog 18 #[stV ba bl bc bl n na nl nc 0] w (RB w (.tuple #[stV ba bl bc bl n na nl nc 72, .int .u8 0])) := by
  go_enter Try.func18, Try.ntmps18
  go_wp2_with fail
  have hXY : ¬ w.heap.size = w.heap.size + 1 := by omega
  have HX1 : Hid (((w.alloc (.cells #[.slice ba bl bc, .int .i64 (bl : Int), .int .i64 n, .slice na nl nc, .int .i64 0] 57)).alloc (.cells #[nilV, .int .i64 0, .int .i64 0, nilV, .int .i64 0] 57)).heap[w.heap.size]? = some (.cells #[.slice ba bl bc, .int .i64 (bl : Int), .int .i64 n, .slice na nl nc, .int .i64 0] 57 (0, 0))) := (Below.heap_alloc _ _ _ (by simp)).trans (heap_new w _)
  have HY1 : Hid (((w.alloc (.cells #[.slice ba bl bc, .int .i64 (bl : Int), .int .i64 n, .slice na nl nc, .int .i64 0] 57)).alloc (.cells #[nilV, .int .i64 0, .int .i64 0, nilV, .int .i64 0] 57)).heap[w.heap.size + 1]? = some (.cells #[nilV, .int .i64 0, .int .i64 0, nilV, .int .i64 0] 57 (0, 0))) := heap_new_at (by simp)
  have HB1 := Lib.hid (((Below.refl w.heap.size w).alloc (Nat.le_refl _) (.cells #[.slice ba bl bc, .int .i64 (bl : Int), .int .i64 n, .slice na nl nc, .int .i64 0] 57)).alloc (by simp) (.cells #[nilV, .int .i64 0, .int .i64 0, nilV, .int .i64 0] 57))
  generalize ((w.alloc (.cells #[.slice ba bl bc, .int .i64 (bl : Int), .int .i64 n, .slice na nl nc, .int .i64 0] 57)).alloc (.cells #[nilV, .int .i64 0, .int .i64 0, nilV, .int .i64 0] 57)) = w1 at *
  refine (rfail0 _ _ _ _ _ _ _ _ 72 _).mono ?_
  rintro e w2 ⟨rfl, hb⟩
  have HX2 := Lib.hid ((hb.block _ (blk_lt HX1.out)).trans HX1.out)
  have HY2 := Lib.hid ((hb.block _ (blk_lt HY1.out)).trans HY1.out)
  have HB2 := Lib.hid (HB1.out.trans (hb.mono HB1.out.size))
  clear hb HB1 HX1 HY1
  go_wp2_with (refine wpList_store_row rfl 57 (.tmp 2) (.tmp 16) rfl (w.heap.size + 1) #[.slice ba bl bc, .int .i64 (bl : Int), .int .i64 n, .slice na nl nc, .int .i64 72] rfl rfl 57 #[nilV, .int .i64 0, .int .i64 0, nilV, .int .i64 0] HY2.out infoS rfl (by simp [Array.all, Value.oneCell']) ?_)
  have HY3 := Lib.hid (setRow_heap w2 (w.heap.size + 1) #[nilV, .int .i64 0, .int .i64 0, nilV, .int .i64 0] #[.slice ba bl bc, .int .i64 (bl : Int), .int .i64 n, .slice na nl nc, .int .i64 72] 57 (0, 0) HY2.out)
  have HX3 := Lib.hid ((setRow_other w2 (w.heap.size + 1) (w.heap.size) #[.slice ba bl bc, .int .i64 (bl : Int), .int .i64 n, .slice na nl nc, .int .i64 72] (by omega)).trans HX2.out)
  have HB3 := Lib.hid (HB2.out.trans ((setRow_turn w2 (w.heap.size + 1) #[.slice ba bl bc, .int .i64 (bl : Int), .int .i64 n, .slice na nl nc, .int .i64 72]).below HB2.out.size (fun i e => by omega)))
  clear HB2 HY2 HX2
  generalize w2.setRow (w.heap.size + 1) #[.slice ba bl bc, .int .i64 (bl : Int), .int .i64 n, .slice na nl nc, .int .i64 72] = w3 at *
  go_wp2_with fail
  obtain ⟨k0, k1, k2, k3, k4⟩ := FiveAt.of_block HY3.out
  exact bodyPost_ret (v := .tuple #[stV ba bl bc bl n na nl nc 72, .int .u8 0]) (by simp [results, Try.results18, go_sem, k0, k1, k2, k3, k4]) rfl ⟨rfl, HB3.out⟩
theorem rone_yes (b off : Nat) (bl bc i : Nat) (n : Int) (na : Option Addr) (nl nc : Nat) (x : Int) (hbl : bl ≤ 131072) (hi : i < bl) (w : World) (hx : w.cell? ⟨b, off + i, none⟩ = some (.int .u8 x)) : Calls Try.prog 18 #[stV (some ⟨b, off, none⟩) bl bc i n na nl nc 0] w (RB w (.tuple #[stV (some ⟨b, off, none⟩) bl bc ((i : Int) + 1) n na nl nc 0, .int .u8 x])) := by
  have hB := ((Below.refl w.heap.size w).alloc (Nat.le_refl _) (.cells #[.slice (some ⟨b, off, none⟩) bl bc, .int .i64 (i : Int), .int .i64 n, .slice na nl nc, .int .i64 0] 57)).alloc (by simp) (.cells #[nilV, .int .i64 0, .int .i64 0, nilV, .int .i64 0] 57)
  have hx2 : ((w.alloc (.cells #[.slice (some ⟨b, off, none⟩) bl bc, .int .i64 (i : Int), .int .i64 n, .slice na nl nc, .int .i64 0] 57)).alloc (.cells #[nilV, .int .i64 0, .int .i64 0, nilV, .int .i64 0] 57)).cell? ⟨b, off + i, none⟩ = some (.int .u8 x) := (hB.cell (p := ⟨b, off + i, none⟩) (cell_lt hx)).trans hx
  have hHB := Lib.hid hB
  have hd : decide ((i : Int) = (bl : Int)) = false := decide_eq_false (by omega)
  have hd1 : ((i : Int) == (bl : Int)) = false := beq_eq_false_iff_ne.2 (by omega)
  have hd2 : (i == bl) = false := beq_eq_false_iff_ne.2 (by omega)
  have hi0 : (0 : Int) ≤ (i : Int) := by omega
  have hi1 : (i : Int) < (bl : Int) := by omega
  clear hB hx
  go_enter Try.func18, Try.ntmps18
  go_wp2_with fail
  exact bodyPost_ret (v := .tuple #[stV (some ⟨b, off, none⟩) bl bc ((i : Int) + 1) n na nl nc 0, .int .u8 x]) (by simp [results, Try.results18, go_sem]) rfl ⟨rfl, ((Below.refl w.heap.size w).alloc (Nat.le_refl _) _).alloc (by simp) _⟩
theorem rone_any (ba : Option Addr) (bc : Nat) (bs : List UInt8) (s : St) (na : Option Addr) (nc : Nat) (w : World) (h : RfAt w ba bc bs s na nc) :
    Calls Try.prog 18 #[stV ba bs.length bc s.i s.n na s.names.length nc 0] w (RP1 ba bs.length bc na s.names.length nc w (fun c => .int .u8 (c : Nat)) (fun u => u = .int .u8 0) (oneP bs s)) := by
  by_cases hi : s.i < bs.length
  · have e : oneP bs s = .ok (bs[s.i].toNat, { s with i := s.i + 1 }) := by unfold oneP; rw [List.getElem?_eq_getElem hi]
    rw [e]
    obtain ⟨b, off, rfl, hx⟩ := h.at hi
    exact rone_yes b off bs.length bc s.i s.n na s.names.length nc _ h.len hi w hx
  · have e : oneP bs s = .error 72 := by unfold oneP; rw [List.getElem?_eq_none (by omega)]
    rw [e]
    have hie : s.i = bs.length := by have := h.ile; omega
    rw [hie]
    refine (rone_no ba bs.length bc s.n na s.names.length nc h.len w).mono ?_
    rintro e w' ⟨rfl, hb⟩
    exact ⟨_, _, _, rfl, rfl, hb⟩
end Go.Proofs.Ytkfblapfphnggaa
/- The document's reader: numbers of any width. -/
namespace Go.Proofs.Ytkfblapfphnggaa
open Go.RowKit
set_option maxRecDepth 100000

theorem rwide_e (ba : Option Addr) (bl bc : Nat) (i n : Int) (na : Option Addr) (nl nc : Nat) (c : Int) (hc : ¬ c = 0) (w : World) : Calls Try.prog 31 #[stV ba bl bc i n na nl nc c] w (RB w (.tuple #[stV ba bl bc i n na nl nc c, .int .u64 0])) := by
  have h1 : (c == 0) = false := beq_eq_false_iff_ne.2 hc
  go_enter Try.func31, Try.ntmps31
  go_wp2_with fail
  refine wp_loop_rounds 1 ?_
  rw [rounds_succ]
  go_wp2_with fail
  exact bodyPost_ret (v := .tuple #[stV ba bl bc i n na nl nc c, .int .u64 0]) (by simp [results, Try.results31, go_sem]) rfl ⟨rfl, ((Below.refl w.heap.size w).alloc (Nat.le_refl _) _).alloc (by simp) _⟩
theorem oneP_err {bs : List UInt8} {s : St} {x : Int} (h : oneP bs s = .error x) : x = 72 := by
  unfold oneP at h
  split at h
  · cases h
  · cases h; rfl
/-- how a round of the document's number begins -/
def rwRel (ba : Option Addr) (bc : Nat) (bs : List UInt8) (n : Nat) (na : Option Addr) (nl nc : Nat) (X : Nat) (W : World) (r0 : Except Int (Nat × St)) (nm : List ByteArray) (t4 t5 : Value) (w : World) : Prop :=
  ∃ (rest k acc : Nat) (s : St), t4 = .int .u64 acc ∧ t5 = .int .i64 k ∧ k + rest = 9 ∧ acc < 2 ^ (7 * k) ∧ s.i ≤ bs.length ∧ s.n = n ∧ s.names = nm ∧ wideP bs (rest + 1) k acc s = r0 ∧
    w.heap[X]? = some (.cells #[.slice ba bs.length bc, .int .i64 (s.i : Int), .int .i64 (s.n : Int), .slice na nl nc, .int .i64 0] 57 (0, 0)) ∧ w.heap[X + 1]? = some (.cells #[nilV, .int .i64 0, .int .i64 0, nilV, .int .i64 0] 57 (0, 0)) ∧ Below X W w
set_option maxHeartbeats 2000000 in
theorem rwide_any (ba : Option Addr) (bc : Nat) (bs : List UInt8) (s : St) (na : Option Addr) (nc : Nat) (w : World) (h : RfAt w ba bc bs s na nc) :
    Calls Try.prog 31 #[stV ba bs.length bc s.i s.n na s.names.length nc 0] w (RP1 ba bs.length bc na s.names.length nc w (fun c => .int .u64 (c : Nat)) (fun u => ∃ q : Nat, u = .int .u64 q ∧ q < 18446744073709551616) (wideN bs s)) := by
  have H := Lib.hid h
  have HIL := Lib.hid h.ile
  clear h
  generalize hnl : s.names.length = nl at *
  have HNL := Lib.hid hnl
  clear hnl
  go_enter Try.func31, Try.ntmps31
  go_wp2_with fail
  have hXY : ¬ w.heap.size = w.heap.size + 1 := by omega
  have HX1 : Hid (((w.alloc (.cells #[.slice ba bs.length bc, .int .i64 (s.i : Int), .int .i64 (s.n : Int), .slice na nl nc, .int .i64 0] 57)).alloc (.cells #[nilV, .int .i64 0, .int .i64 0, nilV, .int .i64 0] 57)).heap[w.heap.size]? = some (.cells #[.slice ba bs.length bc, .int .i64 (s.i : Int), .int .i64 (s.n : Int), .slice na nl nc, .int .i64 0] 57 (0, 0))) := (Below.heap_alloc _ _ _ (by simp)).trans (heap_new w _)
  have HY1 : Hid (((w.alloc (.cells #[.slice ba bs.length bc, .int .i64 (s.i : Int), .int .i64 (s.n : Int), .slice na nl nc, .int .i64 0] 57)).alloc (.cells #[nilV, .int .i64 0, .int .i64 0, nilV, .int .i64 0] 57)).heap[w.heap.size + 1]? = some (.cells #[nilV, .int .i64 0, .int .i64 0, nilV, .int .i64 0] 57 (0, 0))) := heap_new_at (by simp)
  have HB1 := Lib.hid (((Below.refl w.heap.size w).alloc (Nat.le_refl _) (.cells #[.slice ba bs.length bc, .int .i64 (s.i : Int), .int .i64 (s.n : Int), .slice na nl nc, .int .i64 0] 57)).alloc (by simp) (.cells #[nilV, .int .i64 0, .int .i64 0, nilV, .int .i64 0] 57))
  generalize ((w.alloc (.cells #[.slice ba bs.length bc, .int .i64 (s.i : Int), .int .i64 (s.n : Int), .slice na nl nc, .int .i64 0] 57)).alloc (.cells #[nilV, .int .i64 0, .int .i64 0, nilV, .int .i64 0] 57)) = w1 at *
  go_loopw [4, 5] (fun t4 t5 wr => rwRel ba bc bs s.n na nl nc w.heap.size w (wideN bs s) s.names t4 t5 wr) (fun _ t5 _ => 10 - (intOf t5).toNat)
  case atStart => exact ⟨9, 0, 0, s, rfl, rfl, rfl, by decide, HIL.out, rfl, rfl, rfl, HX1.out, HY1.out, HB1.out⟩
  case round =>
    obtain ⟨rest, k, acc, s1, rfl, rfl, hk, hacc, hile, hn, hnm, hr, hX, hY, hB⟩ := hrel
    have HX2 := Lib.hid hX
    have HY2 := Lib.hid hY
    have HB2 := Lib.hid hB
    have HR := Lib.hid hr
    have HN := Lib.hid hn
    have HNM := Lib.hid hnm
    have HI := Lib.hid hile
    clear hX hY hB hr hn hnm hile HX1 HY1 HB1
    have HRf : Hid (RfAt wr ba bc bs s1 na nc) := ⟨H.out.src.below HB2.out, by have h := H.out.nms.below HB2.out; rw [HNM.out]; exact h, H.out.len, HI.out, by rw [HN.out]; exact H.out.nle⟩
    have H1 := rone_any ba bc bs s1 na nc wr HRf.out
    rw [show s1.names.length = nl by rw [HNM.out]; exact HNL.out] at H1
    obtain ⟨k0, k1, k2, k3, k4⟩ := FiveAt.of_block HX2.out
    generalize wr = w2 at *
    cases ho : oneP bs s1 with
    | error x =>
      rw [ho] at H1
      have hx := oneP_err ho
      subst hx
      have HK := Lib.hid (show wideN bs s = .error 72 by rw [← HR.out]; simp only [wideP, ho])
      have H1 := Lib.hid H1
      have hw0 : IntKind.u64.wrap (acc : Int) = acc := wrap_u64_nat acc (Nat.lt_of_lt_of_le hacc (Nat.le_trans (pow_le9 (by omega)) (by decide)))
      have hacc64 : acc < 18446744073709551616 := Nat.lt_of_lt_of_le hacc (Nat.le_trans (pow_le9 (by omega)) (by decide))
      have HQ := Lib.hid hacc64
      clear ho hacc64
      go_wp2_with fail
      refine H1.out.mono ?_
      rintro e w3 ⟨i3, n3, u3, rfl, rfl, hb⟩
      clear k0 k1 k2 k3 k4
      have HX3 := Lib.hid ((hb.block _ (blk_lt HX2.out)).trans HX2.out)
      have HY3 := Lib.hid ((hb.block _ (blk_lt HY2.out)).trans HY2.out)
      have HB3 := Lib.hid (HB2.out.trans (hb.mono HB2.out.size))
      clear hb HB2 HX2 HY2
      have HX3a := Lib.hid ((Below.heap_alloc w3 (.cells #[.slice ba bs.length bc, .int .i64 i3, .int .i64 n3, .slice na nl nc, .int .i64 72] 57) _ (blk_lt HX3.out)).trans HX3.out)
      have HY3a := Lib.hid ((Below.heap_alloc w3 (.cells #[.slice ba bs.length bc, .int .i64 i3, .int .i64 n3, .slice na nl nc, .int .i64 72] 57) _ (blk_lt HY3.out)).trans HY3.out)
      have HB3a := Lib.hid (HB3.out.alloc (by have := HB3.out.size; omega) (.cells #[.slice ba bs.length bc, .int .i64 i3, .int .i64 n3, .slice na nl nc, .int .i64 72] 57))
      go_upto_region 7 with (refine wpList_store_row rfl 57 (.tmp 1) (.tmp 18) rfl (w.heap.size) #[.slice ba bs.length bc, .int .i64 i3, .int .i64 n3, .slice na nl nc, .int .i64 72] rfl rfl 57 #[.slice ba bs.length bc, .int .i64 (s1.i : Int), .int .i64 (s1.n : Int), .slice na nl nc, .int .i64 0] HX3a.out infoS rfl (by simp [Array.all, Value.oneCell']) ?_)
      generalize (w3.alloc (.cells #[.slice ba bs.length bc, .int .i64 i3, .int .i64 n3, .slice na nl nc, .int .i64 72] 57)) = w3a at *
      have HX4 := Lib.hid (setRow_heap w3a (w.heap.size) #[.slice ba bs.length bc, .int .i64 (s1.i : Int), .int .i64 (s1.n : Int), .slice na nl nc, .int .i64 0] #[.slice ba bs.length bc, .int .i64 i3, .int .i64 n3, .slice na nl nc, .int .i64 72] 57 (0, 0) HX3a.out)
      have HY4 := Lib.hid ((setRow_other w3a (w.heap.size) (w.heap.size + 1) #[.slice ba bs.length bc, .int .i64 i3, .int .i64 n3, .slice na nl nc, .int .i64 72] (by omega)).trans HY3a.out)
      have HB4 := Lib.hid (HB3a.out.trans ((setRow_turn w3a (w.heap.size) #[.slice ba bs.length bc, .int .i64 i3, .int .i64 n3, .slice na nl nc, .int .i64 72]).below HB3a.out.size (fun i e => by omega)))
      clear HB3 HB3a HX3 HX3a HY3 HY3a
      generalize w3a.setRow (w.heap.size) #[.slice ba bs.length bc, .int .i64 i3, .int .i64 n3, .slice na nl nc, .int .i64 72] = w4 at *
      obtain ⟨k0, k1, k2, k3, k4⟩ := FiveAt.of_block HX4.out
      have hkc : (((k : Int) == 9) = false ∧ ¬ k = 9) ∨ (((k : Int) == 9) = true ∧ k = 9) := by
        by_cases e : k = 9
        · exact .inr ⟨by rw [beq_iff_eq]; omega, e⟩
        · exact .inl ⟨by rw [beq_eq_false_iff_ne]; omega, e⟩
      rcases hkc with ⟨hk9, hk9'⟩ | ⟨hk9, hk9'⟩
      all_goals
        go_wp2_with fail
        refine (rmust_e _ _ _ _ _ _ _ _ 72 (by decide) _ _).mono ?_
        rintro e w5 ⟨rfl, hb⟩
        clear k0 k1 k2 k3 k4
        have HX5 := Lib.hid ((hb.block _ (blk_lt HX4.out)).trans HX4.out)
        have HY5 := Lib.hid ((hb.block _ (blk_lt HY4.out)).trans HY4.out)
        have HB5 := Lib.hid (HB4.out.trans (hb.mono HB4.out.size))
        clear hb HB4 HX4 HY4
        go_wp2_with (refine wpList_store_row rfl 57 (.tmp 2) (.tmp 45) rfl (w.heap.size + 1) #[.slice ba bs.length bc, .int .i64 i3, .int .i64 n3, .slice na nl nc, .int .i64 72] rfl rfl 57 #[nilV, .int .i64 0, .int .i64 0, nilV, .int .i64 0] HY5.out infoS rfl (by simp [Array.all, Value.oneCell']) ?_)
        have HY6 := Lib.hid (setRow_heap w5 (w.heap.size + 1) #[nilV, .int .i64 0, .int .i64 0, nilV, .int .i64 0] #[.slice ba bs.length bc, .int .i64 i3, .int .i64 n3, .slice na nl nc, .int .i64 72] 57 (0, 0) HY5.out)
        have HX6 := Lib.hid ((setRow_other w5 (w.heap.size + 1) (w.heap.size) #[.slice ba bs.length bc, .int .i64 i3, .int .i64 n3, .slice na nl nc, .int .i64 72] (by omega)).trans HX5.out)
        have HB6 := Lib.hid (HB5.out.trans ((setRow_turn w5 (w.heap.size + 1) #[.slice ba bs.length bc, .int .i64 i3, .int .i64 n3, .slice na nl nc, .int .i64 72]).below HB5.out.size (fun i e => by omega)))
        clear HB5 HY5 HX5
        generalize w5.setRow (w.heap.size + 1) #[.slice ba bs.length bc, .int .i64 i3, .int .i64 n3, .slice na nl nc, .int .i64 72] = w6 at *
        go_wp2_with fail
        obtain ⟨k0, k1, k2, k3, k4⟩ := FiveAt.of_block HY6.out
        exact bodyPost_ret (v := .tuple #[stV ba bs.length bc i3 n3 na nl nc 72, .int .u64 (acc : Int)]) (by simp [results, Try.results31, go_sem, k0, k1, k2, k3, k4]) rfl (by rw [HK.out]; exact ⟨_, _, _, rfl, ⟨acc, rfl, HQ.out⟩, HB6.out⟩)
    | ok y =>
      obtain ⟨c, s2⟩ := y
      obtain ⟨hc, hs2, hi2⟩ := oneP_ok ho
      have HO := Lib.hid (show wideN bs s = if k = 9 ∧ 1 < c then .error 73
        else if 128 ≤ c then wideP bs rest (k + 1) (acc + c % 128 * 2 ^ (7 * k)) s2
        else if c = 0 ∧ 0 < k then .error 73
        else .ok (acc + c % 128 * 2 ^ (7 * k), s2) by rw [← HR.out]; simp only [wideP, ho])
      have HI2 := Lib.hid (show s2.i ≤ bs.length by rw [hs2]; exact hi2)
      have HN2 := Lib.hid (show s2.n = s.n by rw [hs2]; exact HN.out)
      have HNM2 := Lib.hid (show s2.names = s.names by rw [hs2]; exact HNM.out)
      rw [ho] at H1
      have H1 := Lib.hid H1
      clear ho hs2 hi2
      go_wp2_with fail
      refine H1.out.mono ?_
      rintro e w3 ⟨rfl, hb⟩
      clear k0 k1 k2 k3 k4
      have HX3 := Lib.hid ((hb.block _ (blk_lt HX2.out)).trans HX2.out)
      have HY3 := Lib.hid ((hb.block _ (blk_lt HY2.out)).trans HY2.out)
      have HB3 := Lib.hid (HB2.out.trans (hb.mono HB2.out.size))
      clear hb HB2 HX2 HY2
      have HX3a := Lib.hid ((Below.heap_alloc w3 (.cells #[.slice ba bs.length bc, .int .i64 (s2.i : Int), .int .i64 (s2.n : Int), .slice na nl nc, .int .i64 0] 57) _ (blk_lt HX3.out)).trans HX3.out)
      have HY3a := Lib.hid ((Below.heap_alloc w3 (.cells #[.slice ba bs.length bc, .int .i64 (s2.i : Int), .int .i64 (s2.n : Int), .slice na nl nc, .int .i64 0] 57) _ (blk_lt HY3.out)).trans HY3.out)
      have HB3a := Lib.hid (HB3.out.alloc (by have := HB3.out.size; omega) (.cells #[.slice ba bs.length bc, .int .i64 (s2.i : Int), .int .i64 (s2.n : Int), .slice na nl nc, .int .i64 0] 57))
      go_upto_region 7 with (refine wpList_store_row rfl 57 (.tmp 1) (.tmp 18) rfl (w.heap.size) #[.slice ba bs.length bc, .int .i64 (s2.i : Int), .int .i64 (s2.n : Int), .slice na nl nc, .int .i64 0] rfl rfl 57 #[.slice ba bs.length bc, .int .i64 (s1.i : Int), .int .i64 (s1.n : Int), .slice na nl nc, .int .i64 0] HX3a.out infoS rfl (by simp [Array.all, Value.oneCell']) ?_)
      generalize (w3.alloc (.cells #[.slice ba bs.length bc, .int .i64 (s2.i : Int), .int .i64 (s2.n : Int), .slice na nl nc, .int .i64 0] 57)) = w3a at *
      have HX4 := Lib.hid (setRow_heap w3a (w.heap.size) #[.slice ba bs.length bc, .int .i64 (s1.i : Int), .int .i64 (s1.n : Int), .slice na nl nc, .int .i64 0] #[.slice ba bs.length bc, .int .i64 (s2.i : Int), .int .i64 (s2.n : Int), .slice na nl nc, .int .i64 0] 57 (0, 0) HX3a.out)
      have HY4 := Lib.hid ((setRow_other w3a (w.heap.size) (w.heap.size + 1) #[.slice ba bs.length bc, .int .i64 (s2.i : Int), .int .i64 (s2.n : Int), .slice na nl nc, .int .i64 0] (by omega)).trans HY3a.out)
      have HB4 := Lib.hid (HB3a.out.trans ((setRow_turn w3a (w.heap.size) #[.slice ba bs.length bc, .int .i64 (s2.i : Int), .int .i64 (s2.n : Int), .slice na nl nc, .int .i64 0]).below HB3a.out.size (fun i e => by omega)))
      clear HB3 HB3a HX3 HX3a HY3 HY3a
      generalize w3a.setRow (w.heap.size) #[.slice ba bs.length bc, .int .i64 (s2.i : Int), .int .i64 (s2.n : Int), .slice na nl nc, .int .i64 0] = w4 at *
      obtain ⟨k0, k1, k2, k3, k4⟩ := FiveAt.of_block HX4.out
      by_cases hA : k = 9 ∧ 1 < c
      · have HW := Lib.hid (show wideN bs s = .error 73 by rw [HO.out, if_pos hA])
        obtain ⟨rfl, hA2⟩ := hA
        have hA3 : (1 : Int) < (c : Int) := by omega
        clear HO
        go_wp2_with fail
        refine (rfail0 _ _ _ _ _ _ _ _ 73 _).mono ?_
        rintro e w5 ⟨rfl, hb⟩
        clear k0 k1 k2 k3 k4
        have HX5 := Lib.hid ((hb.block _ (blk_lt HX4.out)).trans HX4.out)
        have HY5 := Lib.hid ((hb.block _ (blk_lt HY4.out)).trans HY4.out)
        have HB5 := Lib.hid (HB4.out.trans (hb.mono HB4.out.size))
        clear hb HB4 HX4 HY4
        go_wp2_with (refine wpList_store_row rfl 57 (.tmp 2) (.tmp 26) rfl (w.heap.size + 1) #[.slice ba bs.length bc, .int .i64 (s2.i : Int), .int .i64 (s2.n : Int), .slice na nl nc, .int .i64 73] rfl rfl 57 #[nilV, .int .i64 0, .int .i64 0, nilV, .int .i64 0] HY5.out infoS rfl (by simp [Array.all, Value.oneCell']) ?_)
        have HY6 := Lib.hid (setRow_heap w5 (w.heap.size + 1) #[nilV, .int .i64 0, .int .i64 0, nilV, .int .i64 0] #[.slice ba bs.length bc, .int .i64 (s2.i : Int), .int .i64 (s2.n : Int), .slice na nl nc, .int .i64 73] 57 (0, 0) HY5.out)
        have HX6 := Lib.hid ((setRow_other w5 (w.heap.size + 1) (w.heap.size) #[.slice ba bs.length bc, .int .i64 (s2.i : Int), .int .i64 (s2.n : Int), .slice na nl nc, .int .i64 73] (by omega)).trans HX5.out)
        have HB6 := Lib.hid (HB5.out.trans ((setRow_turn w5 (w.heap.size + 1) #[.slice ba bs.length bc, .int .i64 (s2.i : Int), .int .i64 (s2.n : Int), .slice na nl nc, .int .i64 73]).below HB5.out.size (fun i e => by omega)))
        clear HB5 HY5 HX5
        generalize w5.setRow (w.heap.size + 1) #[.slice ba bs.length bc, .int .i64 (s2.i : Int), .int .i64 (s2.n : Int), .slice na nl nc, .int .i64 73] = w6 at *
        go_wp2_with fail
        obtain ⟨k0, k1, k2, k3, k4⟩ := FiveAt.of_block HY6.out
        exact bodyPost_ret (v := .tuple #[stV ba bs.length bc s2.i s2.n na nl nc 73, .int .u64 0]) (by simp [results, Try.results31, go_sem, k0, k1, k2, k3, k4]) rfl (by rw [HW.out]; exact ⟨_, _, _, rfl, ⟨0, rfl, by decide⟩, HB6.out⟩)
      · have hd : c % 128 < 128 := Nat.mod_lt _ (by decide)
        have h9 : k = 9 → c % 128 ≤ 1 := fun e => by omega
        obtain ⟨d, hdd⟩ : ∃ d, c % 128 = d := ⟨_, rfl⟩
        rw [hdd] at hd h9 HO
        have hr : ((c : Int) % 128) = (d : Int) := by omega
        have HS := Lib.hid (wrapK d k hd (by omega) h9)
        have HL := Lib.hid (acc_lt (k := k) hacc hd)
        have hsum : acc + d * 2 ^ (7 * k) < 18446744073709551616 := by
          by_cases e9 : k = 9
          · subst e9
            have h1 := h9 rfl
            have h2 : d * 2 ^ (7 * 9) ≤ 1 * 2 ^ (7 * 9) := Nat.mul_le_mul_right _ h1
            have h3 : acc < 9223372036854775808 := hacc
            have h4 : d * 2 ^ (7 * 9) ≤ 9223372036854775808 := h2
            omega
          · exact Nat.lt_of_lt_of_le HL.out (Nat.le_trans (pow_le9 (k := k + 1) (by omega)) (by decide))
        have hk9 : k ≤ 9 := by omega
        have hw := wrap_u64_nat d (by omega)
        rw [if_neg hA] at HO
        generalize d * 2 ^ (7 * k) = y at *
        have HS2 := HS.out
        have hadd : IntKind.u64.wrap ((acc : Int) + (y : Int)) = (acc : Int) + (y : Int) := wraps_u64 _ (by omega) (by omega)
        have HQ := Lib.hid hsum
        clear HS hsum hdd
        have hkc : (((k : Int) == 9) = false ∧ ¬ k = 9) ∨ (((k : Int) == 9) = true ∧ (c : Int) ≤ 1) := by
          rcases Nat.lt_or_ge k 9 with hk8 | hk8
          · exact .inl ⟨by rw [beq_eq_false_iff_ne]; omega, by omega⟩
          · exact .inr ⟨by rw [beq_iff_eq]; omega, by omega⟩
        clear h9 hA
        by_cases hB : 128 ≤ c
        · rw [if_pos hB] at HO
          have hB2 : (128 : Int) ≤ (c : Int) := by omega
          rcases hkc with ⟨hk2, hk3⟩ | ⟨hk2, hk3⟩
          · go_wp2_with fail
            obtain ⟨r, rfl⟩ : ∃ r, rest = r + 1 := ⟨rest - 1, by omega⟩
            go_round
            case rel => exact ⟨r, k + 1, acc + y, s2, rfl, by go_num, by omega, HL.out, HI2.out, HN2.out, HNM2.out, HO.out.symm, HX4.out, HY4.out, HB4.out⟩
            case measure => simp [intOf]; omega
          · omega
        · rw [if_neg hB] at HO
          have hB2 : (c : Int) < 128 := by omega
          by_cases hC : c = 0 ∧ 0 < k
          · have HW := Lib.hid (show wideN bs s = .error 73 by rw [HO.out, if_pos hC])
            have hk0 : ((k : Int) == 0) = false := by rw [beq_eq_false_iff_ne]; omega
            have hc1 : (c : Int) < 1 := by omega
            clear HO hC
            rcases hkc with ⟨hk2, hk3⟩ | ⟨hk2, hk3⟩
            all_goals
              go_wp2_with fail
              refine (rmust_any _ _ _ _ _ _ _ _ 0 false _).mono ?_
              rintro e w5 ⟨rfl, hb⟩
              clear k0 k1 k2 k3 k4
              have HX5 := Lib.hid ((hb.block _ (blk_lt HX4.out)).trans HX4.out)
              have HY5 := Lib.hid ((hb.block _ (blk_lt HY4.out)).trans HY4.out)
              have HB5 := Lib.hid (HB4.out.trans (hb.mono HB4.out.size))
              clear hb HB4 HX4 HY4
              go_wp2_with (refine wpList_store_row rfl 57 (.tmp 2) (.tmp 45) rfl (w.heap.size + 1) #[.slice ba bs.length bc, .int .i64 (s2.i : Int), .int .i64 (s2.n : Int), .slice na nl nc, .int .i64 73] rfl rfl 57 #[nilV, .int .i64 0, .int .i64 0, nilV, .int .i64 0] HY5.out infoS rfl (by simp [Array.all, Value.oneCell']) ?_)
              have HY6 := Lib.hid (setRow_heap w5 (w.heap.size + 1) #[nilV, .int .i64 0, .int .i64 0, nilV, .int .i64 0] #[.slice ba bs.length bc, .int .i64 (s2.i : Int), .int .i64 (s2.n : Int), .slice na nl nc, .int .i64 73] 57 (0, 0) HY5.out)
              have HX6 := Lib.hid ((setRow_other w5 (w.heap.size + 1) (w.heap.size) #[.slice ba bs.length bc, .int .i64 (s2.i : Int), .int .i64 (s2.n : Int), .slice na nl nc, .int .i64 73] (by omega)).trans HX5.out)
              have HB6 := Lib.hid (HB5.out.trans ((setRow_turn w5 (w.heap.size + 1) #[.slice ba bs.length bc, .int .i64 (s2.i : Int), .int .i64 (s2.n : Int), .slice na nl nc, .int .i64 73]).below HB5.out.size (fun i e => by omega)))
              clear HB5 HY5 HX5
              generalize w5.setRow (w.heap.size + 1) #[.slice ba bs.length bc, .int .i64 (s2.i : Int), .int .i64 (s2.n : Int), .slice na nl nc, .int .i64 73] = w6 at *
              go_wp2_with fail
              obtain ⟨k0, k1, k2, k3, k4⟩ := FiveAt.of_block HY6.out
              exact bodyPost_ret (v := .tuple #[stV ba bs.length bc s2.i s2.n na nl nc 73, .int .u64 ((acc + y : Nat) : Int)]) (by simp [results, Try.results31, go_sem, k0, k1, k2, k3, k4]) rfl (by rw [HW.out]; exact ⟨_, _, _, rfl, ⟨acc + y, rfl, HQ.out⟩, HB6.out⟩)
          · have HW := Lib.hid (show wideN bs s = .ok (acc + y, s2) by rw [HO.out, if_neg hC])
            have hcc : ((0 : Int) < (c : Int)) ∨ ((c : Int) < 1 ∧ ((k : Int) == 0) = true) := by
              by_cases e : c = 0
              · exact .inr ⟨by omega, by rw [beq_iff_eq]; omega⟩
              · exact .inl (by omega)
            clear HO hC
            rcases hkc with ⟨hk2, hk3⟩ | ⟨hk2, hk3⟩ <;> rcases hcc with hc0 | ⟨hc0, hc1⟩
            all_goals
              go_wp2_with fail
              refine (rmust_any _ _ _ _ _ _ _ _ 0 true _).mono ?_
              rintro e w5 ⟨rfl, hb⟩
              clear k0 k1 k2 k3 k4
              have HX5 := Lib.hid ((hb.block _ (blk_lt HX4.out)).trans HX4.out)
              have HY5 := Lib.hid ((hb.block _ (blk_lt HY4.out)).trans HY4.out)
              have HB5 := Lib.hid (HB4.out.trans (hb.mono HB4.out.size))
              clear hb HB4 HX4 HY4
              go_wp2_with (refine wpList_store_row rfl 57 (.tmp 2) (.tmp 45) rfl (w.heap.size + 1) #[.slice ba bs.length bc, .int .i64 (s2.i : Int), .int .i64 (s2.n : Int), .slice na nl nc, .int .i64 0] rfl rfl 57 #[nilV, .int .i64 0, .int .i64 0, nilV, .int .i64 0] HY5.out infoS rfl (by simp [Array.all, Value.oneCell']) ?_)
              have HY6 := Lib.hid (setRow_heap w5 (w.heap.size + 1) #[nilV, .int .i64 0, .int .i64 0, nilV, .int .i64 0] #[.slice ba bs.length bc, .int .i64 (s2.i : Int), .int .i64 (s2.n : Int), .slice na nl nc, .int .i64 0] 57 (0, 0) HY5.out)
              have HX6 := Lib.hid ((setRow_other w5 (w.heap.size + 1) (w.heap.size) #[.slice ba bs.length bc, .int .i64 (s2.i : Int), .int .i64 (s2.n : Int), .slice na nl nc, .int .i64 0] (by omega)).trans HX5.out)
              have HB6 := Lib.hid (HB5.out.trans ((setRow_turn w5 (w.heap.size + 1) #[.slice ba bs.length bc, .int .i64 (s2.i : Int), .int .i64 (s2.n : Int), .slice na nl nc, .int .i64 0]).below HB5.out.size (fun i e => by omega)))
              clear HB5 HY5 HX5
              generalize w5.setRow (w.heap.size + 1) #[.slice ba bs.length bc, .int .i64 (s2.i : Int), .int .i64 (s2.n : Int), .slice na nl nc, .int .i64 0] = w6 at *
              go_wp2_with fail
              obtain ⟨k0, k1, k2, k3, k4⟩ := FiveAt.of_block HY6.out
              exact bodyPost_ret (v := .tuple #[stV ba bs.length bc s2.i s2.n na nl nc 0, .int .u64 ((acc + y : Nat) : Int)]) (by simp [results, Try.results31, go_sem, k0, k1, k2, k3, k4]) rfl (by rw [HW.out]; exact ⟨rfl, HB6.out⟩)
end Go.Proofs.Ytkfblapfphnggaa
