/- SerialSorts: the walk. -/
import Derived.Test.YtdlcbejgadmdcaaT4
namespace Go.Proofs.Ytdlcbejgadmdcaa
open Go.Shelf Go.RowKit Go.Lib Go.Sort Go.Proofs

/-- what the second loop keeps: the sorted copy is the call's own -/
def soRel (w2 : World) (n : Nat) (v6 : Value) (t9 : Value) (wr : World) : Prop := ∃ k : Nat, k ≤ n ∧ t9 = .int .i64 k ∧ Below w2.heap.size w2 wr ∧ ∃ xs, wr.ownsRow w2.heap.size 22 1 v6 n xs
def rdRel (n : Nat) (w4 : World) (t8 : Value) (wr : World) : Prop := ∃ k : Nat, k ≤ n ∧ t8 = .int .i64 k ∧ ∃ q, wr = w4.drewN q
set_option maxHeartbeats 4000000 in
theorem sorts_walk (base : U) (v : Value) (l : List U) (w : World) (hv : Sl w v (l.map encU)) :
    Calls Try.prog 4 #[.int .u32 base.1, v] w (RB w (.bool true)) := by
  obtain ⟨i0, hi, hz0, hz1, hz2⟩ := info_parts infoU
  have HV := Lib.hid hv
  have hlen : (l.map encU).length = l.length := by simp
  obtain ⟨a, c, rfl, hm, -⟩ := hv
  rw [hlen] at HV hm ⊢
  have H1 := Lib.hid hi
  have H2 := Lib.hid hz0
  have H3 := Lib.hid hz1
  have H4 := Lib.hid hz2
  clear hi hz0 hz1 hz2 hlen
  by_cases h300 : 300 < l.length
  · go_enter Try.func4, Try.ntmps4
    go_wp2_with fail
    refine (alive_any w).mono ?_
    rintro e w1 ⟨rfl, hb1⟩
    have HB1 := Lib.hid hb1
    clear hb1
    go_wp2_with fail
    go_ret
    exact ⟨rfl, HB1.out⟩
  · have hl : l.length ≤ 300 := by omega
    have HSo := Lib.hid (fun v W hv => sort_any base v l W hv (by omega))
    have HRe := Lib.hid (fun v W hv => refSort_any base v l W hv hl)
    have HL := Lib.hid (sortU_length base.1 l)
    generalize sortU base.1 l = s at HSo HRe HL
    go_enter Try.func4, Try.ntmps4
    go_wp2_with fail
    refine (alive_any w).mono ?_
    rintro e w1 ⟨rfl, hb1⟩
    have HB1 := Lib.hid hb1
    have HV1 := Lib.hid (HV.out.below hb1)
    have hsrc := Lib.hid ((HV1.out.alloc (.cells #[] 22)).src Try.underlying29 (encU_one l))
    have hll : (l.map encU).length = l.length := by simp
    rw [hll] at hsrc
    clear hb1 hll
    go_wp2_with (at_builtin; refine wpList_app _ rfl (.tmp 16) (.tmp 17) 29 29 rfl w1.heap.size 22 i0 (.int .u32 0) 1 4 Try.underlying29 H1.out H2.out H3.out H4.out rfl (by decide) _ 0 [] rfl (ownsRow_empty _ _ _) _ l.length _ rfl hsrc.out (by unfold maxLen; omega) (by omega) (by simp) ?_; intro a' c' w2 hown hgrow hnil hblk; obtain ⟨HO, HB⟩ := ref_mid w1 hown hgrow; clear hown hgrow hnil hblk hsrc; simp only [Nat.zero_add])
    refine (HSo.out _ w2 (Sl.of_owns HO.out (by simp; omega))).mono ?_
    rintro e w3 ⟨v6, rfl, ho6, hb3⟩
    obtain ⟨a6, c6, rfl⟩ : ∃ a6 c6, v6 = .slice a6 l.length c6 := by
      rcases ho6.2 with ⟨rfl, h0⟩ | ⟨g, cap, cur, rfl, _⟩
      · exact ⟨none, 0, by rw [h0]⟩
      · exact ⟨_, _, rfl⟩
    have H6 := Lib.hid ho6
    have HB3 := Lib.hid hb3
    have HV3 := Lib.hid ((HV1.out.below HB.out).below hb3)
    clear ho6 hb3
    go_wp2_with fail
    refine (HRe.out _ w3 HV3.out).mono ?_
    rintro e w4 ⟨v7, rfl, hs7, hb4⟩
    obtain ⟨a7, c7, rfl⟩ : ∃ a7 c7, v7 = .slice a7 l.length c7 := by
      obtain ⟨a7, c7, rfl, _⟩ := hs7
      exact ⟨a7, c7, by simp [HL.out]⟩
    have H7 := Lib.hid hs7
    have HV4 := Lib.hid (HV3.out.below hb4)
    have HC4 := Lib.hid (((Sl.of_owns HO.out (by simp; omega)).below HB3.out).below hb4)
    have H64 := Lib.hid (owns_below H6.out hb4)
    have H64s := Lib.hid (Sl.of_owns H64.out (by simp [HL.out]; omega))
    have HB24 := Lib.hid (HB3.out.trans (hb4.mono HB3.out.size))
    clear hs7 hb4
    go_wp2_with fail
    go_loopw [8] (fun t8 wr => rdRel l.length w4 t8 wr) (fun t8 _ => l.length - (intOf t8).toNat)
    case atStart => exact ⟨0, Nat.zero_le _, rfl, 0, rfl⟩
    case round =>
      obtain ⟨k, hk, rfl, q, hq⟩ := hrel
      have HQ := Lib.hid hq
      clear hq
      by_cases hlt : k < l.length
      · have hks : k < s.length := by rw [HL.out]; exact hlt
        obtain ⟨b1, o1, rfl, hc1⟩ := HV4.out.cellU hlt
        obtain ⟨b5, o5, rfl, hc5⟩ := HC4.out.cellU hlt
        obtain ⟨b6, o6, rfl, hc6⟩ := H64s.out.cellU hks
        obtain ⟨b7, o7, rfl, hc7⟩ := H7.out.cellU hks
        have k1 : wr.cell? ⟨b1, o1 + k, none⟩ = some (.int .u32 l[k].1) := by rw [HQ.out]; exact hc1 k hlt
        have k5 : wr.cell? ⟨b5, o5 + k, none⟩ = some (.int .u32 l[k].1) := by rw [HQ.out]; exact hc5 k hlt
        have k6 : wr.cell? ⟨b6, o6 + k, none⟩ = some (.int .u32 s[k].1) := by rw [HQ.out]; exact hc6 k hks
        have k7 : wr.cell? ⟨b7, o7 + k, none⟩ = some (.int .u32 s[k].1) := by rw [HQ.out]; exact hc7 k hks
        clear hc1 hc5 hc6 hc7
        generalize l[k].1 = x at *
        generalize s[k].1 = y at *
        go_wp2_with fail
        go_quiet (fail)
        go_wp2_with fail
        go_roundw
        case rel => exact ⟨k + 1, by omega, by go_num, _, by rw [HQ.out]; exact World.drewN_drewN _ _ _⟩
        case measure => simp [intOf]; omega
      · obtain ⟨wo, rfl⟩ : ∃ wo : World, wo = wr := ⟨_, rfl⟩
        have HBo := Lib.hid (below_drewW HB24.out HQ.out)
        have HOo : Hid (wo.ownsRow w2.heap.size 22 1 (.slice a6 l.length c6) l.length (s.map encU)) := by
          have := H64.out
          rw [HQ.out]
          exact this
        go_wp2_with fail
        go_loopw [9] (fun t9 wr => soRel w2 l.length (.slice a6 l.length c6) t9 wr) (fun t9 _ => l.length - (intOf t9).toNat)
        case atStart => exact ⟨0, Nat.zero_le _, rfl, HBo.out, _, HOo.out⟩
        case round =>
          obtain ⟨j, hj, rfl, hbr, xs, hor⟩ := hrel
          have HBR := Lib.hid hbr
          have HOR := Lib.hid hor
          by_cases hjlt : j < l.length
          · obtain ⟨g, rfl, hg⟩ : ∃ g, a6 = some ⟨g, 0, none⟩ ∧ w2.heap.size ≤ g := by
              rcases hor.2 with ⟨e, h0⟩ | ⟨g, cap, cur, e, hg, _⟩
              · omega
              · injection e with e1 _ _
                exact ⟨g, e1, hg⟩
            have hxl : xs.length = l.length := by have := hor.1; simpa using this
            have hcell : wr.cell? ⟨g, j, none⟩ = some (xs[j]'(by omega)) := by
              rw [hor.cellAt j (by omega)]
              simp
            have hfz := hor.frozenAt j
            have hst := Lib.hid (hor.stored j (.int .u32 7)).1
            have HG := Lib.hid hg
            generalize xs[j]'(by omega) = x at hcell
            clear hor hbr hxl hg
            go_wp2_with fail
            go_roundw
            case rel => exact ⟨j + 1, by omega, by go_num, HBR.out.setCell HG.out _, _, hst.out⟩
            case measure => simp [intOf]; omega
          · clear hor hbr
            obtain ⟨wo2, rfl⟩ : ∃ wo2 : World, wo2 = wr := ⟨_, rfl⟩
            have HB2 := Lib.hid (HB1.out.trans ((HB.out.trans (HBR.out.mono HB.out.size)).mono HB1.out.size))
            have L1 := Lib.hid ((HV1.out.below HB.out).below HBR.out)
            have L5 := Lib.hid ((Sl.of_owns HO.out (by simp; omega)).below HBR.out)
            go_wp2_with fail
            go_loopw [10] (fun t10 wr => rdRel l.length wo2 t10 wr) (fun t10 _ => l.length - (intOf t10).toNat)
            case atStart => exact ⟨0, Nat.zero_le _, rfl, 0, rfl⟩
            case round =>
              obtain ⟨i, hi, rfl, q2, hq2⟩ := hrel
              have HQ2 := Lib.hid hq2
              clear hq2
              by_cases hilt : i < l.length
              · obtain ⟨b1, o1, rfl, hc1⟩ := L1.out.cellU hilt
                obtain ⟨b5, o5, rfl, hc5⟩ := L5.out.cellU hilt
                have k1 : wr.cell? ⟨b1, o1 + i, none⟩ = some (.int .u32 l[i].1) := by rw [HQ2.out]; exact hc1 i hilt
                have k5 : wr.cell? ⟨b5, o5 + i, none⟩ = some (.int .u32 l[i].1) := by rw [HQ2.out]; exact hc5 i hilt
                clear hc1 hc5
                generalize l[i].1 = x at *
                go_wp2_with fail
                go_quiet (fail)
                go_wp2_with fail
                go_roundw
                case rel => exact ⟨i + 1, by omega, by go_num, _, by rw [HQ2.out]; exact World.drewN_drewN _ _ _⟩
                case measure => simp [intOf]; omega
              · go_wp2_with fail
                go_ret
                exact ⟨rfl, below_drewW HB2.out HQ2.out⟩
theorem sorts_row (base : Int) (v : Value) (l : List U) (w : World) (hb : (Lit.int .u32 base).wf = true) (hv : Sl w v (l.map encU)) : Calls Try.prog 4 #[.int .u32 base, v] w (RB w (.bool true)) := by
  simp [Lit.wf, IntKind.min, IntKind.max, IntKind.signed, IntKind.bits] at hb
  exact sorts_walk ⟨base, hb.1, by omega⟩ v l w hv
end Go.Proofs.Ytdlcbejgadmdcaa
