/- ties.sorted, walked: the ids of a map. -/
import Derived.Test.YtkpeelhanmekdaaC0
namespace Go.Proofs.Ytkpeelhanmekdaa
set_option linter.unusedVariables false
set_option linter.unusedSimpArgs false
set_option linter.constructorNameAsVariable false
open Go.Shelf Go.RowKit Go.Lib Go.Proofs Go.Maps
set_option maxRecDepth 100000

/-- what ties.sorted answers: the ids of a map, in a row of its own -/
def Sorted (l : List (Idd × Value)) (w : World) (e : Ending) (w' : World) : Prop :=
  ∃ (a : Option Addr) (c : Nat) (ids : List Idd), e = .returned (.slice a ids.length c) ∧ ids.Perm (l.map (·.1)) ∧ w'.ownsRow w.heap.size 31 3 (.slice a ids.length c) ids.length (idcat ids) ∧ Below w.heap.size w w'
set_option maxHeartbeats 4000000 in
theorem sortedB_of (hS : SortTold) (hN : NoneTold) (m : Nat) (l : List (Idd × Value)) (w : World) (hm : mapAt w m l) (hok : ∀ p ∈ l, IdOk p.1) (hlen : l.length ≤ 256) :
    Calls Try.prog 25 #[.map (some m)] w (Sorted l w) := by
  obtain ⟨D, hown, his⟩ := hm
  obtain ⟨i0, hi, hz0, hz1, hz2⟩ := info_parts infoId
  have X1 := Lib.hid hi
  have X2 := Lib.hid hz0
  have X3 := Lib.hid hz1
  have X4 := Lib.hid hz2
  have HM := Lib.hid hown
  have HI := Lib.hid his
  have HK := Lib.hid hok
  have HSo := Lib.hid hS
  have HNo := Lib.hid hN
  have hmw := hown.lt
  clear hi hz0 hz1 hz2 hown his hok hS hN
  go_enter Try.func25, Try.ntmps25
  go_wp2_with (at_range; go_loud (refine wpList_range_own _ rfl _ 49 rfl 31 4 lawI Try.underlying49 heldR m _ _ rfl HM.out ?_; intro w5 hr5 hg5 hs5; have HR5 := Lib.hid hr5; have HG5 := Lib.hid hg5; clear hr5 hg5))
  go_frame
  have HB5 : Hid (Below w.heap.size w w5) := Lib.hid ⟨HG5.out.os, HG5.out.tape, HG5.out.output, HG5.out.size, fun i hi => HG5.out.block i hi (by simp)⟩
  clear HM HG5
  generalize hrr : w.heap.size = rr at *
  rw [HI.out.size] at HR5
  go_loopg [3] l.length (fun gk t3 wr => ∃ (left : Lit → Bool) (ids : List Idd), wr.ranges Try.prog 31 heldR m rr l.length D left gk ∧ SoFar l left ids ∧ wr.ownsRow rr 31 3 t3 ids.length (idcat ids) ∧ ids.length + gk ≤ l.length ∧ Below rr w wr)
  case atStart => exact ⟨Maps.has D, [], HR5.out, SoFar.start HI.out, World.ownsRow_nil _ _ _ _, by simp, HB5.out⟩
  case round =>
    obtain ⟨left, ids, hrg, hsf, hO, hlg, hB⟩ := hrel
    obtain ⟨ra, rc, rfl⟩ := row_slice hO
    have HRg := Lib.hid hrg
    have HSF := Lib.hid hsf
    have HO := Lib.hid hO
    have HBr := Lib.hid hB
    have HLg := Lib.hid hlg
    clear hrg hsf hO hlg hB HR5 HB5
    go_wp2_with (at_next; go_loud (refine wpList_next_ranges _ rfl _ rfl 31 lawI heldR (fun c : Value => c) (fun c : Value => c) (fun key kl h => ⟨key, rfl⟩) (fun v y _ => ⟨v, rfl⟩) m rr _ _ _ _ rfl HRg.out ?_ ?_))
    · intro h0 hno
      have HP := Lib.hid (HSF.out.done (by have := HI.out.nd; exact this) hno)
      clear h0 hno HSF HRg
      subst hrr
      by_cases h0 : ids.length = 0
      · have e1 := List.eq_nil_of_length_eq_zero h0
        subst e1
        clear h0
        go_wp2_with fail
        refine (HNo.out _ _ _ _).mono ?_
        rintro e w2 ⟨rfl, rfl⟩
        go_wp2_with fail
        go_ret
        exact ⟨ra, rc, [], rfl, HP.out, HO.out, HBr.out⟩
      · obtain ⟨d, hd⟩ := lift_ids ids (fun x hx => by
          have hx' := (HP.out.mem_iff).1 hx
          obtain ⟨p, hp, rfl⟩ := List.mem_map.1 hx'
          exact HK.out p hp)
        subst hd
        obtain ⟨g, rfl, hg1, hg2, hdl, hH⟩ := holds_ids HO.out h0
        have HH := Lib.hid hH
        have HL := Lib.hid hdl
        have hdn : d.length < 4611686018427387904 := by
          have := HLg.out
          omega
        clear hH h0 hdl
        go_wp2_with fail
        rw [← HL.out]
        refine (HSo.out g rc d wr HH.out hg2 hdn).mono ?_
        rintro e w2 ⟨rfl, l', n, os, hp, rfl⟩
        have HPl := Lib.hid hp
        clear hp
        rw [HL.out]
        go_wp2_with fail
        go_ret
        refine ⟨some ⟨g, 0, none⟩, rc, l'.map (·.1), by rw [List.length_map, HPl.out.length_eq]; rfl, (HPl.out.map _).trans HP.out, ?_, below_sorted HBr.out hg1 HBr.out.size os⟩
        have := owns_sorted HO.out (l := l') (by rw [HPl.out.length_eq]; exact HL.out) (q := n) os
        rw [List.length_map] at this ⊢
        rw [HPl.out.length_eq]
        exact this
    · intro x c kl d ps w6 cnt' hkey hlk hv hat hrg6 hlt hg6 hs6 hen
      obtain ⟨x', rfl, hx', hsf'⟩ := HSF.out.step (fun p hp => (HK.out p hp).in') hkey hlk
      have HR6 := Lib.hid hrg6
      have HSF' := Lib.hid hsf'
      have HBw := Lib.hid (HBr.out.trans ⟨hg6.os, hg6.tape, hg6.output, hg6.size, fun i hi => hg6.block i (by have := HBr.out.size; omega) (by simp; omega)⟩)
      have HO6 : Hid (w6.ownsRow rr 31 3 (.slice ra ids.length rc) ids.length (idcat ids)) := Lib.hid (row_iter HO.out HRg.out hg6)
      have hlen2 := HLg.out
      have HL1 := Lib.hid (show ids.length + 1 ≤ maxLen by unfold maxLen; omega)
      have HL2 := Lib.hid (show (ids.length + 1) * 24 ≤ 140737488355328 by omega)
      clear hrg6 hsf' hkey hlk hv hat hg6 HSF HRg HO HBr hlen2
      have hws : rr ≤ w6.heap.size := by have := HBw.out.size; omega
      have hw7 : rr ≤ (w6.alloc (.cells (idC x') 31)).heap.size := by simp; omega
      obtain ⟨xn, xb, xi⟩ := x'
      have HO7 := Lib.hid (HO6.out.alloc (.cells (idC ⟨xn, xb, xi⟩) 31))
      have HR7 := Lib.hid (HR6.out.alloc (.cells (idC ⟨xn, xb, xi⟩) 31))
      have HB7 := Lib.hid (HBw.out.alloc hws (.cells (idC ⟨xn, xb, xi⟩) 31))
      have HSr := Lib.hid (src_new Try.underlying56 (idC ⟨xn, xb, xi⟩) rfl 31 (id_one _) (w6.alloc (.cells (idC ⟨xn, xb, xi⟩) 31)))
      rw [show (w6.alloc (.cells (idC ⟨xn, xb, xi⟩) 31)).heap.size = wr.heap.size + 1 by simp [hs6]] at HSr
      have HBs := Lib.hid (show rr ≤ ((w6.alloc (.cells (idC ⟨xn, xb, xi⟩) 31)).alloc (.cells (idC ⟨xn, xb, xi⟩) 31)).heap.size by simp; omega)
      clear HO6 HR6 HBw
      go_wp2_with (at_builtin; go_loud (refine wpList_app _ rfl (.tmp 11) (.tmp 13) 56 56 rfl rr 31 i0 (.agg #[.int .i64 0, .int .u32 0, .int .u64 0]) 3 24 Try.underlying56 X1.out X2.out X3.out X4.out rfl (by decide) _ _ _ rfl (HO7.out.alloc _) _ 1 (idC ⟨xn, xb, xi⟩).toList rfl HSr.out HL1.out HL2.out HBs.out ?_; intro a4 c4 wz ho4 hg4 hn4 hl4; have HRz := Lib.hid (ranges_row HR7.out HO7.out hg4); have HBz := Lib.hid (grown_below HB7.out hw7 HO7.out (Nat.le_refl _) hg4); have HOz := Lib.hid ho4; clear hg4 ho4 hn4 hl4))
      go_roundg cnt'
      case measure => exact hlt
      case rel =>
        exact ⟨_, ids ++ [⟨xn, xb, xi⟩], HRz.out, HSF'.out, by rw [List.length_append, idcat_app]; exact HOz.out, by rw [List.length_append]; have := HLg.out; simp; omega, HBz.out⟩
set_option maxHeartbeats 4000000 in
theorem sortedI_of (hS : SortTold) (hN : NoneTold) (m : Nat) (l : List (Idd × Value)) (w : World) (hm : mapAt w m l) (hok : ∀ p ∈ l, IdOk p.1) (hlen : l.length ≤ 256) :
    Calls Try.prog 32 #[.map (some m)] w (Sorted l w) := by
  obtain ⟨D, hown, his⟩ := hm
  obtain ⟨i0, hi, hz0, hz1, hz2⟩ := info_parts infoId
  have X1 := Lib.hid hi
  have X2 := Lib.hid hz0
  have X3 := Lib.hid hz1
  have X4 := Lib.hid hz2
  have HM := Lib.hid hown
  have HI := Lib.hid his
  have HK := Lib.hid hok
  have HSo := Lib.hid hS
  have HNo := Lib.hid hN
  have hmw := hown.lt
  clear hi hz0 hz1 hz2 hown his hok hS hN
  go_enter Try.func32, Try.ntmps32
  go_wp2_with (at_range; go_loud (refine wpList_range_own _ rfl _ 50 rfl 31 31 lawI Try.underlying50 heldR m _ _ rfl HM.out ?_; intro w5 hr5 hg5 hs5; have HR5 := Lib.hid hr5; have HG5 := Lib.hid hg5; clear hr5 hg5))
  go_frame
  have HB5 : Hid (Below w.heap.size w w5) := Lib.hid ⟨HG5.out.os, HG5.out.tape, HG5.out.output, HG5.out.size, fun i hi => HG5.out.block i hi (by simp)⟩
  clear HM HG5
  generalize hrr : w.heap.size = rr at *
  rw [HI.out.size] at HR5
  go_loopg [3] l.length (fun gk t3 wr => ∃ (left : Lit → Bool) (ids : List Idd), wr.ranges Try.prog 31 heldR m rr l.length D left gk ∧ SoFar l left ids ∧ wr.ownsRow rr 31 3 t3 ids.length (idcat ids) ∧ ids.length + gk ≤ l.length ∧ Below rr w wr)
  case atStart => exact ⟨Maps.has D, [], HR5.out, SoFar.start HI.out, World.ownsRow_nil _ _ _ _, by simp, HB5.out⟩
  case round =>
    obtain ⟨left, ids, hrg, hsf, hO, hlg, hB⟩ := hrel
    obtain ⟨ra, rc, rfl⟩ := row_slice hO
    have HRg := Lib.hid hrg
    have HSF := Lib.hid hsf
    have HO := Lib.hid hO
    have HBr := Lib.hid hB
    have HLg := Lib.hid hlg
    clear hrg hsf hO hlg hB HR5 HB5
    go_wp2_with (at_next; go_loud (refine wpList_next_ranges _ rfl _ rfl 31 lawI heldR (fun c : Value => c) (fun c : Value => c) (fun key kl h => ⟨key, rfl⟩) (fun v y _ => ⟨v, rfl⟩) m rr _ _ _ _ rfl HRg.out ?_ ?_))
    · intro h0 hno
      have HP := Lib.hid (HSF.out.done (by have := HI.out.nd; exact this) hno)
      clear h0 hno HSF HRg
      subst hrr
      by_cases h0 : ids.length = 0
      · have e1 := List.eq_nil_of_length_eq_zero h0
        subst e1
        clear h0
        go_wp2_with fail
        refine (HNo.out _ _ _ _).mono ?_
        rintro e w2 ⟨rfl, rfl⟩
        go_wp2_with fail
        go_ret
        exact ⟨ra, rc, [], rfl, HP.out, HO.out, HBr.out⟩
      · obtain ⟨d, hd⟩ := lift_ids ids (fun x hx => by
          have hx' := (HP.out.mem_iff).1 hx
          obtain ⟨p, hp, rfl⟩ := List.mem_map.1 hx'
          exact HK.out p hp)
        subst hd
        obtain ⟨g, rfl, hg1, hg2, hdl, hH⟩ := holds_ids HO.out h0
        have HH := Lib.hid hH
        have HL := Lib.hid hdl
        have hdn : d.length < 4611686018427387904 := by
          have := HLg.out
          omega
        clear hH h0 hdl
        go_wp2_with fail
        rw [← HL.out]
        refine (HSo.out g rc d wr HH.out hg2 hdn).mono ?_
        rintro e w2 ⟨rfl, l', n, os, hp, rfl⟩
        have HPl := Lib.hid hp
        clear hp
        rw [HL.out]
        go_wp2_with fail
        go_ret
        refine ⟨some ⟨g, 0, none⟩, rc, l'.map (·.1), by rw [List.length_map, HPl.out.length_eq]; rfl, (HPl.out.map _).trans HP.out, ?_, below_sorted HBr.out hg1 HBr.out.size os⟩
        have := owns_sorted HO.out (l := l') (by rw [HPl.out.length_eq]; exact HL.out) (q := n) os
        rw [List.length_map] at this ⊢
        rw [HPl.out.length_eq]
        exact this
    · intro x c kl d ps w6 cnt' hkey hlk hv hat hrg6 hlt hg6 hs6 hen
      obtain ⟨x', rfl, hx', hsf'⟩ := HSF.out.step (fun p hp => (HK.out p hp).in') hkey hlk
      have HR6 := Lib.hid hrg6
      have HSF' := Lib.hid hsf'
      have HBw := Lib.hid (HBr.out.trans ⟨hg6.os, hg6.tape, hg6.output, hg6.size, fun i hi => hg6.block i (by have := HBr.out.size; omega) (by simp; omega)⟩)
      have HO6 : Hid (w6.ownsRow rr 31 3 (.slice ra ids.length rc) ids.length (idcat ids)) := Lib.hid (row_iter HO.out HRg.out hg6)
      have hlen2 := HLg.out
      have HL1 := Lib.hid (show ids.length + 1 ≤ maxLen by unfold maxLen; omega)
      have HL2 := Lib.hid (show (ids.length + 1) * 24 ≤ 140737488355328 by omega)
      clear hrg6 hsf' hkey hlk hv hat hg6 HSF HRg HO HBr hlen2
      have hws : rr ≤ w6.heap.size := by have := HBw.out.size; omega
      have hw7 : rr ≤ (w6.alloc (.cells (idC x') 31)).heap.size := by simp; omega
      obtain ⟨xn, xb, xi⟩ := x'
      have HO7 := Lib.hid (HO6.out.alloc (.cells (idC ⟨xn, xb, xi⟩) 31))
      have HR7 := Lib.hid (HR6.out.alloc (.cells (idC ⟨xn, xb, xi⟩) 31))
      have HB7 := Lib.hid (HBw.out.alloc hws (.cells (idC ⟨xn, xb, xi⟩) 31))
      have HSr := Lib.hid (src_new Try.underlying56 (idC ⟨xn, xb, xi⟩) rfl 31 (id_one _) (w6.alloc (.cells (idC ⟨xn, xb, xi⟩) 31)))
      rw [show (w6.alloc (.cells (idC ⟨xn, xb, xi⟩) 31)).heap.size = wr.heap.size + 1 by simp [hs6]] at HSr
      have HBs := Lib.hid (show rr ≤ ((w6.alloc (.cells (idC ⟨xn, xb, xi⟩) 31)).alloc (.cells (idC ⟨xn, xb, xi⟩) 31)).heap.size by simp; omega)
      clear HO6 HR6 HBw
      go_wp2_with (at_builtin; go_loud (refine wpList_app _ rfl (.tmp 11) (.tmp 13) 56 56 rfl rr 31 i0 (.agg #[.int .i64 0, .int .u32 0, .int .u64 0]) 3 24 Try.underlying56 X1.out X2.out X3.out X4.out rfl (by decide) _ _ _ rfl (HO7.out.alloc _) _ 1 (idC ⟨xn, xb, xi⟩).toList rfl HSr.out HL1.out HL2.out HBs.out ?_; intro a4 c4 wz ho4 hg4 hn4 hl4; have HRz := Lib.hid (ranges_row HR7.out HO7.out hg4); have HBz := Lib.hid (grown_below HB7.out hw7 HO7.out (Nat.le_refl _) hg4); have HOz := Lib.hid ho4; clear hg4 ho4 hn4 hl4))
      go_roundg cnt'
      case measure => exact hlt
      case rel =>
        exact ⟨_, ids ++ [⟨xn, xb, xi⟩], HRz.out, HSF'.out, by rw [List.length_append, idcat_app]; exact HOz.out, by rw [List.length_append]; have := HLg.out; simp; omega, HBz.out⟩
end Go.Proofs.Ytkpeelhanmekdaa
