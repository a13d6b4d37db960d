/- match.fits: variables and ints, in lists. -/
import Derived.Test.YtlgpdpadaknnaaaC3
import Derived.Deep.LoopGhost
import Derived.WalkMore
import Derived.Outline
namespace Go.Proofs.Ytlgpdpadaknnaaa
open Go.RowKit Go.Maps
set_option maxRecDepth 100000
attribute [local go_sem] run_store_complex run_store_func' run_store_nilFunc'

/-- what was bound so far -/
structure BInv (qs B : List (ByteArray × Int)) : Prop where
  nd : (B.map (·.1)).Nodup
  mem : ∀ q ∈ B, q ∈ qs
/-- what fits leaves -/
def FitPost (W : World) (m n0 : Nat) (B0 : List (ByteArray × Value)) (qs : List (ByteArray × Int)) (e : Ending) (w' : World) : Prop :=
  Turn (fun i => i = m) W w' ∧ ((∃ B, fitM qs [] = some B ∧ e = .returned (.bool true) ∧ B.length ≤ qs.length ∧ bindAt w' m (n0 + B.length) (B0 ++ B.map intB)) ∨ (fitM qs [] = none ∧ e = .returned (.bool false)))
abbrev zP : Array Value := #[.int .i64 0, .int .i64 0, .complex .f64 0 0, .string ⟨#[]⟩, .int .i64 0, .int .u32 0, .int .u64 0, nilV, nilV, .int .i64 0, .int .i64 0, .complex .f64 0 0, .string ⟨#[]⟩, .int .i64 0, .int .u32 0, .int .u64 0, nilV, nilV]
theorem push_step {w wr wz : World} {m n0 tt n e size : Nat} {B0 : List (ByteArray × Value)} {v v4 : Value} {xs : List Value} {o : Obj} (hmw : m < w.heap.size) (hO : wr.ownsRow w.heap.size e size v n xs) (hT : Turn (fun i => i = m) w wr) (hM : bindAt wr m n0 B0)
    (htx : tt < wr.heap.size) (hb : ∀ b, v.ownBlock = some b → b ≠ tt) (hg : (wr.alloc o).grownBy wz v.ownBlock) (hl : v4.ownBlock = v.ownBlock ∨ v4.ownBlock = some (wr.alloc o).heap.size) :
    Turn (fun i => i = m) w wz ∧ bindAt wz m n0 B0 ∧ wz.heap[tt]? = wr.heap[tt]? ∧ tt < wz.heap.size ∧ ∀ b, v4.ownBlock = some b → b ≠ tt := by
  have hs := hg.size
  simp at hs
  have hml := hM.lt
  refine ⟨row_grown hO hmw hT (Nat.le_refl _) hg, map_same hM ((hg.block m (by simp; omega) (fun e => ?_)).trans (Below.heap_alloc wr o m hml)), (hg.block tt (by simp; omega) (fun e => hb tt e.symm rfl)).trans (Below.heap_alloc wr o tt htx), by omega, fun b e => ?_⟩
  · have := (hO.lt m e.symm).1
    omega
  · rcases hl with h | h
    · exact hb b (h ▸ e)
    · rw [h] at e
      cases e
      simp
      omega
theorem pcat_snoc {qs : List (ByteArray × Int)} {i : Nat} (hi : i < qs.length) : pcat (qs.drop i).reverse = pcat (qs.drop (i + 1)).reverse ++ (pvC qs[i]).toList := by
  rw [List.drop_eq_getElem_cons hi, List.reverse_cons, pcat_app]
  rfl
theorem keys_nd {B0 : List (ByteArray × Value)} {qs B : List (ByteArray × Int)} (hI : BInv qs B) (hnew : ∀ q ∈ qs, q.1 ∉ B0.map (·.1)) (hnd : (B0.map (·.1)).Nodup) : ((B0 ++ B.map intB).map (·.1)).Nodup := by
  rw [List.map_append, intB_fst, List.nodup_append]
  refine ⟨hnd, hI.nd, fun a ha b hb => ?_⟩
  obtain ⟨q, hq, rfl⟩ := List.mem_map.1 hb
  intro e
  subst e
  exact hnew q (hI.mem q hq) ha
theorem has_binds {B0 : List (ByteArray × Value)} {qs B : List (ByteArray × Int)} (hnew : ∀ q ∈ qs, q.1 ∉ B0.map (·.1)) {q : ByteArray × Int} (hq : q ∈ qs) : Maps.has (bindM (B0 ++ B.map intB)) (key q.1) = decide (q.1 ∈ B.map (·.1)) := by
  rw [has_bindM]
  refine decide_eq_decide.2 ?_
  rw [List.map_append, intB_fst, List.mem_append]
  exact ⟨fun h => h.elim (fun h => absurd h (hnew q hq)) id, .inr⟩
theorem BInv.push {qs B : List (ByteArray × Int)} (hI : BInv qs B) {q : ByteArray × Int} (hq : q ∈ qs) (hn : q.1 ∉ B.map (·.1)) : BInv qs (B ++ [q]) := by
  refine ⟨?_, fun x hx => ?_⟩
  · rw [List.map_append, List.map_singleton]
    exact nodup_snoc hI.nd hn
  · rcases List.mem_append.1 hx with h | h
    · exact hI.mem x h
    · rw [List.mem_singleton] at h
      exact h ▸ hq
--L
set_option maxHeartbeats 4000000 in
theorem fits_ok (k : Nat) (hk : k = 6 ∨ k = 7) (qs : List (ByteArray × Int)) (hlen : qs.length ≤ 256) (hv : ∀ q ∈ qs, VarName q.1 ∧ inR q.2 = true) (B0 : List (ByteArray × Value)) (hnew : ∀ q ∈ qs, q.1 ∉ B0.map (·.1)) (hnd : (B0.map (·.1)).Nodup)
    (F : Nat → Prop) (pv tv : Value) (m n0 : Nat) (w : World) (hp : LRow w F pv (varL qs)) (ht : LRow w F tv (intL qs)) (hm : bindAt w m n0 B0) (hn0 : n0 ≤ 64) (hF : ∀ b, F b → b ≠ m ∧ b < w.heap.size) :
    Calls Try.prog 17 #[.agg (hdC { kind := k } nilV pv), .agg (hdC { kind := k } nilV tv), .map (some m)] w (FitPost w m n0 B0 qs) := by
  obtain ⟨pa, pc, rfl⟩ := row_slice hp.1
  obtain ⟨ta, tc, rfl⟩ := row_slice ht.1
  have hi70 : (Try.prog.info? 70).map (·.size) = some 18 := by kernel_rfl
  have hl2 : (qs.length : Int) ≤ 256 := by omega
  have hmw := hm.lt
  simp only [List.length_map] at hp ht ⊢
  have HV := Lib.hid hv
  have HP := Lib.hid hp
  have HT := Lib.hid ht
  have HM := Lib.hid hm
  have HNew := Lib.hid hnew
  have HNd := Lib.hid hnd
  have HF := Lib.hid hF
  have HB0 : Hid (Below w.heap.size w ((w.alloc (.cells (hdC { kind := (k : Int) } nilV (.slice pa qs.length pc)) 31)).alloc (.cells (hdC { kind := (k : Int) } nilV (.slice ta qs.length tc)) 31))) := Lib.hid (((Below.refl _ w).alloc (Nat.le_refl _) _).alloc (by simp) _)
  clear hv hp ht hm hnew hnd hF
  go_enter Try.func17, Try.ntmps17
  go_wp2_with fail
  go_step3
  go_wp2_with fail
  go_step3
  go_wp2_with fail
  have hz70 : (Try.prog.info? 70).map (fun i => (i.zero, i.size)) = some (some (.agg zP), 18) := by kernel_rfl
  have HT1 : Hid (Turn (fun i => i = m) w (((w.alloc (.cells (hdC { kind := (k : Int) } nilV (.slice pa qs.length pc)) 31)).alloc (.cells (hdC { kind := (k : Int) } nilV (.slice ta qs.length tc)) 31)).alloc (.cells (plC k (.slice pa qs.length pc) (.slice ta qs.length tc)) 70))) := Lib.hid (Turn.of_below (HB0.out.alloc (by simp; omega) _))
  have HM1 : Hid (bindAt (((w.alloc (.cells (hdC { kind := (k : Int) } nilV (.slice pa qs.length pc)) 31)).alloc (.cells (hdC { kind := (k : Int) } nilV (.slice ta qs.length tc)) 31)).alloc (.cells (plC k (.slice pa qs.length pc) (.slice ta qs.length tc)) 70)) m n0 B0) := Lib.hid (((HM.out.alloc _).alloc _).alloc _)
  have HO1 : Hid ((((w.alloc (.cells (hdC { kind := (k : Int) } nilV (.slice pa qs.length pc)) 31)).alloc (.cells (hdC { kind := (k : Int) } nilV (.slice ta qs.length tc)) 31)).alloc (.cells (plC k (.slice pa qs.length pc) (.slice ta qs.length tc)) 70)).ownsRow w.heap.size 70 18 (.slice (some ⟨w.heap.size + 1 + 1, 0, none⟩) 1 1) 1 (plC k (.slice pa qs.length pc) (.slice ta qs.length tc)).toList) := Lib.hid
    ⟨rfl, .inr ⟨w.heap.size + 1 + 1, 1, plC k (.slice pa qs.length pc) (.slice ta qs.length tc), rfl, by omega, by have := heap_new ((w.alloc (.cells (hdC { kind := (k : Int) } nilV (.slice pa qs.length pc)) 31)).alloc (.cells (hdC { kind := (k : Int) } nilV (.slice ta qs.length tc)) 31)) (.cells (plC k (.slice pa qs.length pc) (.slice ta qs.length tc)) 70); simpa using this, by omega, by unfold maxLen; omega, rfl, rfl⟩⟩
  clear HB0
  go_loopg [7] (qs.length + 1) (fun gk t7 wr => Turn (fun i => i = m) w wr ∧ ((gk = qs.length + 1 ∧ bindAt wr m n0 B0 ∧ wr.ownsRow w.heap.size 70 18 t7 1 (plC k (.slice pa qs.length pc) (.slice ta qs.length tc)).toList) ∨
    (∃ (j : Nat) (B : List (ByteArray × Int)), j ≤ qs.length ∧ gk = qs.length - j ∧ BInv qs B ∧ fitM (qs.drop j) B = fitM qs [] ∧ B.length ≤ j ∧ bindAt wr m (n0 + B.length) (B0 ++ B.map intB) ∧ wr.ownsRow w.heap.size 70 18 t7 (qs.length - j) (pcat (qs.drop j).reverse))))
  case atStart => exact ⟨HT1.out, .inl ⟨rfl, HM1.out, HO1.out⟩⟩
  case round =>
    obtain ⟨hT, ⟨rfl, hMb, hO⟩ | ⟨j, B, hj, rfl, hI, hfit, hBl, hMb, hO⟩⟩ := hrel
--A
    · have HTr := Lib.hid hT
      have HMb := Lib.hid hMb
      have HO := Lib.hid hO
      clear HT1 HM1 HO1
      rcases hO.2 with ⟨_, h0⟩ | ⟨g, cap, cur, hv7, hgb, hgh, hcap, hcm, hcs, htk⟩
      · exact absurd h0 (by omega)
      subst hv7
      have hsl := fun w => slice_to18 w g 1 cap 0 (by omega)
      have HC := Lib.hid (show ∀ j v, (plC k (.slice pa qs.length pc) (.slice ta qs.length tc))[j]? = some v → wr.cell? ⟨g, 0 + j, none⟩ = some v from fun j v h => by
        have := hO.cells (g := g) rfl j v (by simpa using h)
        simpa [Addr.add_lit] using this)
      have hall : (plC k (.slice pa qs.length pc) (.slice ta qs.length tc)).all (·.oneCell') = true := by simp [Array.all, Value.oneCell']
      clear hT hMb hO hgh hcap hcm hcs htk
      simp only [Int.natCast_zero] at hsl
      go_upto_region 5 with (first
        | (refine wpList_load_at rfl 70 (.tmp 23) rfl g 0 rfl (plC k (.slice pa qs.length pc) (.slice ta qs.length tc)) _ HC.out Try.underlying70 rfl hi70 ?_)
        | (refine wpList_store_row rfl 70 (.tmp 8) (.tmp 24) rfl wr.heap.size (plC k (.slice pa qs.length pc) (.slice ta qs.length tc)) rfl rfl 70 zP (heap_new _ _) hi70 rfl hall ?_; rw [setRow_new]))
      have HX := Lib.hid (heap_new wr (.cells (plC k (.slice pa qs.length pc) (.slice ta qs.length tc)) 70))
      have HO2 := Lib.hid ((row_take (m := 0) HO.out (by omega) (by omega)).alloc (.cells (plC k (.slice pa qs.length pc) (.slice ta qs.length tc)) 70))
      have HM2 := Lib.hid (HMb.out.alloc (.cells (plC k (.slice pa qs.length pc) (.slice ta qs.length tc)) 70))
      have HT2 := Lib.hid (HTr.out.trans (Turn.alloc (fun i => i = m) wr (.cells (plC k (.slice pa qs.length pc) (.slice ta qs.length tc)) 70)))
      have hgt : g < wr.heap.size := by have := (HO.out.lt g rfl).2; omega
      have htl : wr.heap.size < (wr.alloc (.cells (plC k (.slice pa qs.length pc) (.slice ta qs.length tc)) 70)).heap.size := by simp
      have hmt : m < wr.heap.size := by have := HTr.out.size; omega
      clear HTr HMb HO HC hsl hall
      generalize wr.alloc (.cells (plC k (.slice pa qs.length pc) (.slice ta qs.length tc)) 70) = w2 at *
      generalize wr.heap.size = tt at *
      have d0 : w2.cell? ⟨tt, 0, none⟩ = some (.int .i64 k) := by simp [World.cell?, HX.out]
      have d8 : w2.cell? ⟨tt, 8, none⟩ = some (.slice pa qs.length pc) := by simp [World.cell?, HX.out]
      have d9 : w2.cell? ⟨tt, 9, none⟩ = some (.int .i64 k) := by simp [World.cell?, HX.out]
      have d17 : w2.cell? ⟨tt, 17, none⟩ = some (.slice ta qs.length tc) := by simp [World.cell?, HX.out]
      obtain ⟨i0, hi, hz0, hz1, hz2⟩ := info_parts infoPair
      have X1 := Lib.hid hi
      have X2 := Lib.hid hz0
      have X3 := Lib.hid hz1
      have X4 := Lib.hid hz2
      clear hi hz0 hz1 hz2
      have hw3 : IntKind.i64.wrap ((qs.length : Int) - 1) = (qs.length : Int) - 1 := wrapI (by omega) (by omega)
      have key : ∀ kk : Nat, kk = k → kk = 6 ∨ kk = 7 := fun kk e => e ▸ hk
      rcases hk with rfl | rfl
      all_goals
        go_upto_region 20 with fail
        go_loopw [7, 11] (fun t7 t11 wx => ∃ i : Nat, i ≤ qs.length ∧ t11 = .int .i64 ((i : Int) - 1) ∧ wx.ownsRow w.heap.size 70 18 t7 (qs.length - i) (pcat (qs.drop i).reverse) ∧ Turn (fun i => i = m) w wx ∧ bindAt wx m n0 B0 ∧ wx.heap[tt]? = w2.heap[tt]? ∧ tt < wx.heap.size ∧ ∀ b, t7.ownBlock = some b → b ≠ tt) (fun _ t11 _ => (intOf t11 + 1).toNat)
        case atStart => exact ⟨qs.length, Nat.le_refl _, rfl, by rw [Nat.sub_self, List.drop_length]; exact HO2.out, HT2.out, HM2.out, rfl, htl, fun b e => by cases e; show g ≠ tt; omega⟩
        case round =>
          obtain ⟨i, hi, rfl, hOx, hTx, hMx, hXx, htx, hbx⟩ := hrel
          have HOx := Lib.hid hOx
          have HTx := Lib.hid hTx
          have HMx := Lib.hid hMx
          have HXx := Lib.hid hXx
          have HBx := Lib.hid hbx
          obtain ⟨xa, xc, rfl⟩ := row_slice hOx
          have HXc := Lib.hid (hXx.trans HX.out)
          clear hOx hTx hMx hXx hbx HO2 HT2 HM2 d0 d8 d9 d17
          have d8 : wr.cell? ⟨tt, 8, none⟩ = some (.slice pa qs.length pc) := by simp [World.cell?, HXc.out]
          have d17 : wr.cell? ⟨tt, 17, none⟩ = some (.slice ta qs.length tc) := by simp [World.cell?, HXc.out]
          cases i with
          | zero =>
            go_wp2_with fail
            go_roundg qs.length
            case measure => omega
            case rel => exact ⟨HTx.out, .inr ⟨0, [], by omega, by omega, ⟨by simp, by simp⟩, rfl, by simp, by simpa using HMx.out, by have := HOx.out; simpa using this⟩⟩
          | succ i =>
            have hil : i < qs.length := by omega
            rw [show (((i + 1 : Nat) : Int) - 1) = (i : Int) by omega]
            obtain ⟨gp, cp, hvp, hgp, h9p⟩ := HP.out.nine (i := i) (by simp; omega)
            obtain ⟨gt, ct, hvt, hgt', h9t⟩ := HT.out.nine (i := i) (by simp; omega)
            rw [List.length_map] at hvp hvt
            cases hvp
            cases hvt
            simp only [List.getElem_map] at h9p h9t
            have hp1 := HF.out gp hgp
            have ht1 := HF.out gt hgt'
            obtain ⟨k0, k1, k2, k3, k4, k5, k6, k7, k8⟩ := h9p.block (HTx.out.block gp hp1.2 hp1.1)
            obtain ⟨j0, j1, j2, j3, j4, j5, j6, j7, j8⟩ := h9t.block (HTx.out.block gt ht1.2 ht1.1)
            have HCt := Lib.hid (pcat_snoc hil)
            have HCl := Lib.hid hil
            have k3q : wr.cell? ⟨gp, i * 9 + 3, none⟩ = some (.string (qs[i]'hil).1) := k3
            have j1q : wr.cell? ⟨gt, i * 9 + 1, none⟩ = some (.int .i64 (qs[i]'hil).2) := j1
            clear k3 j1
            obtain ⟨q, hq⟩ : ∃ q, qs[i]'hil = q := ⟨_, rfl⟩
            rw [hq] at k3q j1q HCt
            clear hq h9p h9t hgp hgt' hp1 ht1
            have hi0 : (0 : Int) ≤ (i : Int) := by omega
            have hi1 : (i : Int) < (qs.length : Int) := by omega
            have hw4 : IntKind.i64.wrap ((i : Int) - 1) = (i : Int) - 1 := wrapI (by omega) (by omega)
            have HM1' := Lib.hid (show qs.length - (i + 1) + 1 ≤ maxLen by unfold maxLen; omega)
            have HM2' := Lib.hid (show (qs.length - (i + 1) + 1) * 240 ≤ 140737488355328 by omega)
            go_upto_region 22 with fail
            go_region_law (first
              | (refine step_app (by rfl) (.tmp 94) (.tmp 108) 71 71 (by rfl) w.heap.size 70 i0 (.agg zP) 18 240 Try.underlying71 X1.out X2.out X3.out X4.out rfl (by decide) (.slice xa (qs.length - (i + 1)) xc) (qs.length - (i + 1)) (pcat (qs.drop (i + 1)).reverse) (by rfl) (HOx.out.drew.alloc _) (.slice (some ⟨wr.heap.size, 0, none⟩) 1 1) 1 (pvC q).toList (by rfl) (src_new Try.underlying71 (pvC q) rfl 70 (pv_one q) wr.drew) HM1'.out HM2'.out (by have := HTx.out.size; simp; omega) ?_; intro a4 c4 wz ho4 hg4 hl4; have HG := Lib.hid (push_step (wr := wr.drew) hmw HOx.out.drew HTx.out.drew HMx.out.drew htx HBx.out hg4 hl4); have HO4 := Lib.hid ho4; clear hg4 ho4 hl4))
            all_goals
              go_wp2_with fail
              go_round
              case rel => exact ⟨i, by omega, by go_num, by rw [HCt.out, show qs.length - i = qs.length - (i + 1) + 1 by omega]; exact HO4.out, HG.out.1, HG.out.2.1, HG.out.2.2.1.trans HXx.out, HG.out.2.2.2.1, HG.out.2.2.2.2⟩
              case measure => simp [intOf]
--/A
    · have HTr := Lib.hid hT
      have HMb := Lib.hid hMb
      have HO := Lib.hid hO
      have HI := Lib.hid hI
      have HFt := Lib.hid hfit
      have HBl := Lib.hid hBl
      clear HT1 HM1 HO1 hT hMb hI hfit hBl
      by_cases hz : j = qs.length
      · subst hz
        rw [Nat.sub_self] at hO
        rcases hO.2 with ⟨rfl, h0⟩ | ⟨g, cap, cur, rfl, _⟩
        all_goals
          clear hO HO
          go_wp2_with fail
          go_ret
          exact ⟨HTr.out, .inl ⟨B, by rw [← HFt.out, List.drop_length]; rfl, rfl, HBl.out, HMb.out⟩⟩
      · have hjl : j < qs.length := by omega
        obtain ⟨r, hr⟩ : ∃ r, qs.length - j = r + 1 := ⟨qs.length - j - 1, by omega⟩
        have hr2 : qs.length - (j + 1) = r := by omega
        rw [hr, pcat_snoc hjl] at hO
        have hql := Lib.hid (List.getElem_mem hjl)
        have HDr := Lib.hid (show qs.drop j = qs[j]'hjl :: qs.drop (j + 1) from List.drop_eq_getElem_cons hjl)
        obtain ⟨q, hq⟩ : ∃ q, qs[j]'hjl = q := ⟨_, rfl⟩
        rw [hq] at hO hql HDr
        rcases hO.2 with ⟨_, h0⟩ | ⟨g, cap, cur, hv7, hgb, hgh, hcap, hcm, hcs, htk⟩
        · exact absurd h0 (by omega)
        subst hv7
        have hrl : (pcat (qs.drop (j + 1)).reverse).length = r * 18 := by rw [pcat_len, List.length_reverse, List.length_drop, hr2]
        have hsl := fun w => slice_to18 w g (r + 1) cap r (by omega)
        have HC := Lib.hid (show ∀ jj v, (pvC q)[jj]? = some v → wr.cell? ⟨g, r * 18 + jj, none⟩ = some v from fun jj v h => by
          have := hO.cells (g := g) rfl (r * 18 + jj) v (by rw [List.getElem?_append_right (by omega), hrl, Nat.add_sub_cancel_left]; simpa using h)
          simpa [Addr.add_lit] using this)
        have HO2 := Lib.hid (by
          have := (row_take (m := r) hO (by omega) (by omega)).alloc (.cells (pvC q) 70)
          rw [List.take_left' hrl] at this
          exact this)
        have hall : (pvC q).all (·.oneCell') = true := by simp [Array.all, Value.oneCell']
        have hrq : (r : Int) + 1 ≤ 256 := by omega
        have hw3 : IntKind.i64.wrap ((r : Int) + 1 - 1) = r := by rw [Int.add_sub_cancel]; exact wrapI (by omega) (by omega)
        have hgt : g < wr.heap.size := (hO.lt g rfl).2
        have hmt : m < wr.heap.size := by have := HTr.out.size; omega
        have hr0 : (0 : Int) ≤ (r : Int) := by omega
        clear hO HO hgh hcap hcm hcs htk hq hrl hr
        obtain ⟨qn, qx⟩ := q
        go_upto_region 5 with (first
          | (refine wpList_load_at rfl 70 (.tmp 23) rfl g (r * 18) rfl (pvC (qn, qx)) _ HC.out Try.underlying70 rfl hi70 ?_)
          | (refine wpList_store_row rfl 70 (.tmp 8) (.tmp 24) rfl wr.heap.size (pvC (qn, qx)) rfl rfl 70 zP (heap_new _ _) hi70 rfl hall ?_; rw [setRow_new]))
        have HX := Lib.hid (heap_new wr (.cells (pvC (qn, qx)) 70))
        have HM2 := Lib.hid (HMb.out.alloc (.cells (pvC (qn, qx)) 70))
        have HT2 := Lib.hid (HTr.out.trans (Turn.alloc (fun i => i = m) wr (.cells (pvC (qn, qx)) 70)))
        have htl : wr.heap.size < (wr.alloc (.cells (pvC (qn, qx)) 70)).heap.size := by simp
        clear HTr HMb HC hsl hall
        generalize wr.alloc (.cells (pvC (qn, qx)) 70) = w2 at *
        generalize wr.heap.size = tt at *
        have d0 : w2.cell? ⟨tt, 0, none⟩ = some (.int .i64 9) := by simp [World.cell?, HX.out]
        have d3 : w2.cell? ⟨tt, 3, none⟩ = some (.string qn) := by simp [World.cell?, HX.out]
        have e0 : w2.cell? ⟨tt, 9, none⟩ = some (.int .i64 1) := by simp [World.cell?, HX.out]
        have e1 : w2.cell? ⟨tt, 10, none⟩ = some (.int .i64 qx) := by simp [World.cell?, HX.out]
        have e2 : w2.cell? ⟨tt, 11, none⟩ = some (.complex .f64 0 0) := by simp [World.cell?, HX.out]
        have e3 : w2.cell? ⟨tt, 12, none⟩ = some (.string ⟨#[]⟩) := by simp [World.cell?, HX.out]
        have e4 : w2.cell? ⟨tt, 13, none⟩ = some (.int .i64 0) := by simp [World.cell?, HX.out]
        have e5 : w2.cell? ⟨tt, 14, none⟩ = some (.int .u32 0) := by simp [World.cell?, HX.out]
        have e6 : w2.cell? ⟨tt, 15, none⟩ = some (.int .u64 0) := by simp [World.cell?, HX.out]
        have e7 : w2.cell? ⟨tt, 16, none⟩ = some nilV := by simp [World.cell?, HX.out]
        have e8 : w2.cell? ⟨tt, 17, none⟩ = some nilV := by simp [World.cell?, HX.out]
        have HKe := Lib.hid (keyS (s := qn) (by have := (HV.out _ hql.out).1.le; unfold maxLen; simp only at this; omega))
        have HN300 := Lib.hid (show n0 + B.length < maxLen by have := HBl.out; unfold maxLen; omega)
        have HNd2 := Lib.hid (keys_nd HI.out HNew.out HNd.out)
        have HHas := Lib.hid (has_binds (B := B) HNew.out hql.out)
        by_cases hin : qn ∈ B.map (·.1)
        · obtain ⟨⟨qn', y⟩, hy, rfl⟩ := List.mem_map.1 hin
          have HAt := Lib.hid (at_bindM HNd2.out (List.mem_append_right B0 (List.mem_map_of_mem (f := intB) hy)) (.held (lfV 0 0 ⟨#[]⟩)))
          have HHas2 : Hid (Maps.has (bindM (B0 ++ B.map intB)) (key qn') = true) := Lib.hid (HHas.out.trans (decide_eq_true hin))
          have HS := Lib.hid (same_int y qx (HV.out _ (HI.out.mem _ hy)).2 (HV.out _ hql.out).2)
          have HY := Lib.hid hy
          have HIn := Lib.hid hin
          clear hy hin HHas
          simp only at HAt HKe
          go_upto_region 13 with (at_lookup; go_loud (refine wpList_held_ok _ rfl _ _ 50 rfl 9 31 lawS Try.underlying50 (lfV 0 0 ⟨#[]⟩) (zeroT _) m _ _ rfl HM2.out _ _ rfl HKe.out _ HAt.out true HHas2.out ?_))
          have HT3 := Lib.hid (HT2.out.trans (Turn.alloc (fun i => i = m) w2 (.cells (lfC 1 y ⟨#[]⟩) 31)))
          have HM3 := Lib.hid (HM2.out.alloc (.cells (lfC 1 y ⟨#[]⟩) 31))
          have HO3 := Lib.hid (HO2.out.alloc (.cells (lfC 1 y ⟨#[]⟩) 31))
          go_wp2_with fail
          refine (HS.out _).mono ?_
          rintro e w4 ⟨rfl, hb4⟩
          have HT4 := Lib.hid (HT3.out.trans (Turn.of_below (S := fun i => i = m) hb4))
          have HM4 := Lib.hid (map_same HM3.out (hb4.block m HM3.out.lt))
          have HO4 := Lib.hid (row_same HO3.out (fun b e hb => hb4.block b hb))
          clear hb4 d0 d3 e0 e1 e2 e3 e4 e5 e6 e7 e8 HT3 HM3 HO3 HT2 HM2 HO2 HS
          by_cases hyq : y = qx
          · subst hyq
            have HE := Lib.hid (beq_self_eq_true y)
            rw [HE.out]
            go_wp2_with fail
            go_roundg (qs.length - (j + 1))
            case measure => omega
            case rel => exact ⟨HT4.out, .inr ⟨j + 1, B, by omega, rfl, HI.out, by rw [← HFt.out, HDr.out, fitM_old HY.out], by have := HBl.out; omega, HM4.out, by rw [hr2]; exact HO4.out⟩⟩
          · have HE : Hid ((y == qx) = false) := Lib.hid (by rw [beq_eq_false_iff_ne]; exact hyq)
            have HNy : Hid ((qn', qx) ∉ B) := Lib.hid (fun h => hyq (by
              have h1 := at_bindM HNd2.out (List.mem_append_right B0 (List.mem_map_of_mem (f := intB) h)) (.held (lfV 0 0 ⟨#[]⟩))
              have h2 := h1.symm.trans HAt.out
              simp only [DataW.held.injEq] at h2
              cases h2
              rfl))
            rw [HE.out]
            go_wp2_with fail
            go_ret
            exact ⟨HT4.out, .inr ⟨by rw [← HFt.out, HDr.out, fitM_bad HIn.out HNy.out], rfl⟩⟩
        · have HHas2 : Hid (Maps.has (bindM (B0 ++ B.map intB)) (key qn) = false) := Lib.hid (HHas.out.trans (decide_eq_false hin))
          have HAt := Lib.hid (atKey_of_not_has HHas2.out (.held (lfV 0 0 ⟨#[]⟩)))
          have HIn := Lib.hid hin
          clear hin HHas
          go_upto_region 11 with (at_lookup; go_loud (refine wpList_held_ok _ rfl _ _ 50 rfl 9 31 lawS Try.underlying50 (lfV 0 0 ⟨#[]⟩) (zeroT _) m _ _ rfl HM2.out _ _ rfl HKe.out _ HAt.out false HHas2.out ?_))
          have HM3 := Lib.hid (HM2.out.alloc (.cells (lfC 0 0 ⟨#[]⟩) 31))
          go_wp2_with (at_mapUpdate; go_loud (refine wpList_mapUpdate_own _ rfl _ _ _ 50 rfl 9 31 lawS Try.underlying50 heldR m _ _ rfl HM3.out HN300.out _ _ _ rfl rfl HKe.out (.held (lfV 1 qx ⟨#[]⟩)) [] rfl ?_; intro w5 hm5 hg5; have HM5 := Lib.hid hm5; have HG5 := Lib.hid hg5; clear hm5 hg5))
          go_roundg (qs.length - (j + 1))
          case measure => omega
          case rel =>
            refine ⟨(HT2.out.trans (Turn.alloc _ w2 _)).andThen (Turn.of_grownBy HG5.out) (fun i e => .inl (by cases e; rfl)), .inr ⟨j + 1, B ++ [(qn, qx)], by omega, rfl, HI.out.push hql.out HIn.out, by rw [← HFt.out, HDr.out, fitM_new HIn.out], by have := HBl.out; simp; omega, ?_, ?_⟩⟩
            · rw [List.map_append, ← List.append_assoc, List.length_append]
              exact bind_snoc (x := intB (qn, qx)) HM5.out
            · rw [hr2]
              refine row_same (HO2.out.alloc (.cells (lfC 0 0 ⟨#[]⟩) 31)) (fun b e hb => HG5.out.block b hb (fun h => ?_))
              have := (HO2.out.lt b e).1
              cases h
              omega
end Go.Proofs.Ytlgpdpadaknnaaa
