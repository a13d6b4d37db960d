/- serial.Sort's closure. -/
import Derived.Test.YtdlcbejgadmdcaaS2
import Derived.Stop.RegionWithIn
import Derived.Deep.RegionWith
import Derived.Deep.QuietTactic
namespace Go.Proofs.Ytdlcbejgadmdcaa
open Go.RowKit

/-- how two numbers compare, seen from base -/
def cfS (base x y : Int) : Int := if aheadI base x < aheadI base y then -1 else if aheadI base y < aheadI base x then 1 else 0
theorem closure_any (base x y : Int) (b : Nat) (W : World) (hb : W.cell? ⟨b, 0, none⟩ = some (.int .u32 base)) :
    Calls Try.prog 19 #[.int .u32 x, .int .u32 y, .pointer (some ⟨b, 0, none⟩)] W fun e w' => e = .returned (.int .i64 (cfS base x y)) ∧ ∃ q, w' = W.drewN q := by
  have hF : Hid (∀ (y : Int) (w : World), Calls Try.prog 17 #[.int .u32 base, .int .u32 y] w fun e w' => e = .returned (.int .u32 (aheadI base y)) ∧ w' = w) := fun y w => (far_any base y w).mono fun e w' h => ⟨h.1, h.2.symm⟩
  have hc : W.drew.cell? ⟨b, 0, none⟩ = some (.int .u32 base) := hb
  go_enter Try.func19, Try.ntmps19
  go_wp2_with fail
  go_quiet (exact Calls.quiet_of_same (hF.out _ _))
  have hC : Hid (cfS base x y = if aheadI base x < aheadI base y then -1 else if aheadI base y < aheadI base x then 1 else 0) := rfl
  generalize aheadI base x = p at *
  generalize aheadI base y = q at *
  by_cases h1 : p < q
  · go_wp2_with fail
    go_ret
    exact ⟨by rw [hC.out, if_pos h1]; rfl, nq, rfl⟩
  · by_cases h2 : q < p
    · go_wp2_with fail
      go_ret
      exact ⟨by rw [hC.out, if_neg (by omega), if_pos h2]; rfl, nq, rfl⟩
    · go_wp2_with fail
      go_ret
      exact ⟨by rw [hC.out, if_neg (by omega), if_neg (by omega)]; rfl, nq, rfl⟩
end Go.Proofs.Ytdlcbejgadmdcaa
