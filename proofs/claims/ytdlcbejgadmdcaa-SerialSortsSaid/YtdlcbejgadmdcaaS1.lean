/- The numbers' plain functions: how far one lies ahead of another, which is less, the greater, the window. -/
import Derived.Test.YtdlcbejgadmdcaaL0
import Derived.Deep.QuietTactic
import Derived.BigQuiet
namespace Go.Proofs.Ytdlcbejgadmdcaa
open Go.RowKit

/-- how far b lies ahead of a -/
def aheadI (a b : Int) : Int := IntKind.u32.wrap (b - a)
def lessB (a b : Int) : Bool := decide (0 < aheadI a b ∧ aheadI a b < 2147483648)
theorem far_any (a b : Int) (w : World) : Calls Try.prog 17 #[.int .u32 a, .int .u32 b] w (RW w (.int .u32 (aheadI a b))) := by
  go_enter Try.func17, Try.ntmps17
  go_wp2
  go_ret
  exact ⟨rfl, rfl⟩
theorem ahead_any (a b : Int) (w : World) : Calls Try.prog 11 #[.int .u32 a, .int .u32 b] w (RW w (.int .u32 (aheadI a b))) := by
  go_enter Try.func11, Try.ntmps11
  go_wp2_with fail
  refine (far_any a b w).mono ?_
  rintro e w1 ⟨rfl, rfl⟩
  go_wp2_with fail
  go_ret
  exact ⟨rfl, rfl⟩
theorem in_any (a n b : Int) (w : World) : Calls Try.prog 13 #[.int .u32 a, .int .u32 n, .int .u32 b] w (RW w (.bool (decide (aheadI a b < n)))) := by
  go_enter Try.func13, Try.ntmps13
  go_wp2_with fail
  refine (far_any a b w).mono ?_
  rintro e w1 ⟨rfl, rfl⟩
  go_wp2_with fail
  go_ret
  exact ⟨rfl, rfl⟩
theorem less_any (a b : Int) (w : World) : Calls Try.prog 12 #[.int .u32 a, .int .u32 b] w (RW w (.bool (lessB a b))) := by
  have hL : Hid (lessB a b = decide (0 < aheadI a b ∧ aheadI a b < 2147483648)) := rfl
  by_cases h0 : 0 < aheadI a b
  · by_cases h1 : aheadI a b < 2147483648
    · go_enter Try.func12, Try.ntmps12
      go_wp2_with fail
      refine (far_any a b w).mono ?_
      rintro e w1 ⟨rfl, rfl⟩
      go_wp2_with fail
      refine (far_any a b _).mono ?_
      rintro e w2 ⟨rfl, rfl⟩
      go_wp2_with fail
      go_ret
      exact ⟨by rw [hL.out]; simp [h0, h1], rfl⟩
    · go_enter Try.func12, Try.ntmps12
      go_wp2_with fail
      refine (far_any a b w).mono ?_
      rintro e w1 ⟨rfl, rfl⟩
      go_wp2_with fail
      refine (far_any a b _).mono ?_
      rintro e w2 ⟨rfl, rfl⟩
      go_wp2_with fail
      go_ret
      exact ⟨by rw [hL.out]; simp [h0, h1], rfl⟩
  · go_enter Try.func12, Try.ntmps12
    go_wp2_with fail
    refine (far_any a b w).mono ?_
    rintro e w1 ⟨rfl, rfl⟩
    go_wp2_with fail
    go_ret
    exact ⟨by rw [hL.out]; simp; omega, rfl⟩
def maxI (a b : Int) : Int := if lessB a b then b else a
theorem max_any (a b : Int) (w : World) : Calls Try.prog 14 #[.int .u32 a, .int .u32 b] w (RW w (.int .u32 (maxI a b))) := by
  cases hl : lessB a b
  all_goals
    have hM : Hid (maxI a b = if lessB a b then b else a) := rfl
    have HL := Lib.hid hl
    clear hl
    go_enter Try.func14, Try.ntmps14
    go_wp2_with fail
    refine (less_any a b w).mono ?_
    rintro e w1 ⟨rfl, rfl⟩
    rw [HL.out]
    go_wp2_with fail
    go_ret
    exact ⟨by rw [hM.out, HL.out]; rfl, rfl⟩
end Go.Proofs.Ytdlcbejgadmdcaa
