/- SerialTells, SerialOne, SerialWindow: the walks. -/
import Derived.Test.YtdlcbejgadmdcaaS7
namespace Go.Proofs.Ytdlcbejgadmdcaa
open Go.Shelf Go.RowKit Go.Lib Go.Sort Go.Proofs

theorem tells_walk (a b n : Int) (w : World) (ha : U32 a) (hb : U32 b) (hn : U32 n) : Calls Try.prog 3 #[.int .u32 a, .int .u32 b, .int .u32 n] w (RB w (.bool true)) := by
  have hz := aheadI_nonneg a b
  have HA := Lib.hid ha
  have HB := Lib.hid hb
  obtain ⟨n0, n1⟩ := hn
  clear ha hb
  by_cases hx : aheadI a b < n
  all_goals
    have HX := Lib.hid hx
    cases hl : lessB a b
    all_goals
      have HM : Hid (maxI a b = if lessB a b then b else a) := rfl
      have HL := Lib.hid hl
      clear hl hx
      go_enter Try.func3, Try.ntmps3
      go_wp2_with fail
      refine (alive_any w).mono ?_
      rintro e w1 ⟨rfl, hb1⟩
      have HB1 := Lib.hid hb1
      clear hb1
      go_wp2_with fail
      refine (refAhead_any a b w1 HA.out HB.out).mono ?_
      rintro e w2 ⟨rfl, rfl⟩
      go_wp2_with fail
      refine (refLess_any a b w1 HA.out HB.out).mono ?_
      rintro e w2 ⟨rfl, rfl⟩
      rw [HL.out]
      go_wp2_with fail
      refine (ahead_any a b w1).mono ?_
      rintro e w2 ⟨rfl, rfl⟩
      go_wp2_with fail
      refine (less_any a b w1).mono ?_
      rintro e w2 ⟨rfl, rfl⟩
      rw [HL.out]
      go_wp2_with fail
      refine (refLess_any a b w1 HA.out HB.out).mono ?_
      rintro e w2 ⟨rfl, rfl⟩
      rw [HL.out]
      go_wp2_with fail
      refine (in_any a n b w1).mono ?_
      rintro e w2 ⟨rfl, rfl⟩
      go_wp2_with fail
      refine (max_any a b w1).mono ?_
      rintro e w2 ⟨rfl, rfl⟩
      rw [HM.out, HL.out]
      go_wp2_with fail
      go_ret
      exact ⟨by simp, HB1.out⟩
end Go.Proofs.Ytdlcbejgadmdcaa
