/- The document's plain functions over numbers: Ahead, Less. -/
import Derived.Test.YtdlcbejgadmdcaaS1
namespace Go.Proofs.Ytdlcbejgadmdcaa
open Go.RowKit

/-- a is a number of 32 bits -/
def U32 (a : Int) : Prop := 0 ≤ a ∧ a < 4294967296
theorem aheadI_eq (a b : Int) : aheadI a b = (b - a) % 4294967296 := by
  simp [aheadI, IntKind.wrap, IntKind.min, IntKind.max, IntKind.signed, IntKind.bits]
theorem refAhead_any (a b : Int) (w : World) (ha : U32 a) (hb : U32 b) : Calls Try.prog 9 #[.int .u32 a, .int .u32 b] w (RW w (.int .u64 (aheadI a b))) := by
  have hA := Lib.hid (aheadI_eq a b)
  obtain ⟨a0, a1⟩ := ha
  obtain ⟨b0, b1⟩ := hb
  go_enter Try.func9, Try.ntmps9
  go_wp2_with fail
  go_ret
  refine ⟨?_, rfl⟩
  rw [hA.out]
  show Ending.returned (.int .u64 ((b + 4294967296 - a) % 4294967296)) = _
  rw [show (b + 4294967296 - a) % 4294967296 = (b - a) % 4294967296 by omega]
theorem aheadI_nonneg (a b : Int) : 0 ≤ aheadI a b ∧ aheadI a b < 4294967296 := by rw [aheadI_eq]; omega
theorem refLess_any (a b : Int) (w : World) (ha : U32 a) (hb : U32 b) : Calls Try.prog 10 #[.int .u32 a, .int .u32 b] w (RW w (.bool (lessB a b))) := by
  have hL : Hid (lessB a b = decide (0 < aheadI a b ∧ aheadI a b < 2147483648)) := rfl
  have hC := Lib.hid (refAhead_any a b · ha hb)
  have hz := aheadI_nonneg a b
  by_cases h0 : 1 ≤ aheadI a b
  · by_cases h1 : aheadI a b ≤ 2147483647
    all_goals
      go_enter Try.func10, Try.ntmps10
      go_wp2_with fail
      refine (hC.out _).mono ?_
      rintro e w1 ⟨rfl, rfl⟩
      go_wp2_with fail
      go_ret
      refine ⟨?_, rfl⟩
      rw [hL.out]
      first
        | (simp; omega)
        | (have h2 : ¬ aheadI a b < 2147483648 := by omega
           simp [h2]; exact h1)
  · go_enter Try.func10, Try.ntmps10
    go_wp2_with fail
    refine (hC.out _).mono ?_
    rintro e w1 ⟨rfl, rfl⟩
    go_wp2_with fail
    go_ret
    exact ⟨by rw [hL.out]; simp; omega, rfl⟩
end Go.Proofs.Ytdlcbejgadmdcaa
