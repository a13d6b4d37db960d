/- match.Name at right names, and at "_". -/
import Derived.Test.YtlgpdpadaknnaaaB0
namespace Go.Proofs.Ytlgpdpadaknnaaa
open Go.RowKit
set_option maxRecDepth 100000

set_option maxHeartbeats 1000000 in
theorem vname_good (s : ByteArray) (hv : VarName s) (w : World) : Calls Try.prog 23 #[.string s] w (RB w (.bool true)) := by
  obtain ⟨hpos, h32, hne, hf, hall⟩ := hv
  have hl := isEmpty_false (s := s) (by omega)
  have hu : (s.toList == [95]) = false := by
    rw [beq_eq_false_iff_ne]
    exact fun e => hne (ByteArray.ext (Array.toList_inj.1 (by rw [← Lib.toList_data]; exact e)))
  have hu2 : ¬ s.toList = [95] := by simpa using hu
  have kc := Lib.run_convert_string_bytes (P := Try.prog) w 9 29 5 s Try.underlying9 Try.underlying29 Try.underlying5
  have hcell := Lib.bytesWorld_cell w 5 s
  have HB := Lib.hid (below_bytesWorld w 5 s)
  have HA := Lib.hid hall
  rw [getD_at s hpos] at hf
  have hf2 : (((s[0]'hpos).toNat : Int) = 95 ∧ (((s[0]'hpos).toNat : Int) != 95) = false) ∨ (¬ ((s[0]'hpos).toNat : Int) = 95 ∧ (((s[0]'hpos).toNat : Int) != 95) = true ∧ 65 ≤ ((s[0]'hpos).toNat : Int) ∧ ((s[0]'hpos).toNat : Int) ≤ 90) := by
    have e : (s[0]'hpos).toNat = (s.data[0]'hpos).toNat := rfl
    rw [e]
    simp only [big, Bool.or_eq_true, decide_eq_true_eq, beq_iff_eq] at hf
    by_cases h : (s.data[0]'hpos).toNat = 95
    · exact .inl ⟨by omega, by simp [h]⟩
    · exact .inr ⟨by omega, by simp; omega, by omega, by omega⟩
  clear hf hall hne
  have hs63 : (s.size : Int) ≤ 32 := by omega
  have hd32 : decide (32 < (s.size : Int)) = false := decide_eq_false (by omega)
  rcases hf2 with ⟨h1, h2⟩ | ⟨h1, h2, h3, h4⟩
  all_goals
    go_enter Try.func23, Try.ntmps23
    go_wp2
    go_loop [2, 4, 34] (fun r _ i => ∃ k : Nat, k ≤ s.size ∧ i = .int .i64 k ∧ r = .bool false) (fun _ _ i => s.size - (intOf i).toNat)
    case atStart => exact ⟨0, Nat.zero_le _, rfl, rfl⟩
    case round =>
      obtain ⟨k, hk, rfl, rfl⟩ := hrel
      by_cases hlt : k < s.size
      · have hc := hcell k hlt
        have HO := Lib.hid (HA.out k hlt)
        have HG := Lib.hid (getD_at s hlt)
        clear hcell
        rcases classes ((s.data[k]'hlt).toNat : Int) (by omega) with ⟨c1, c2, c3, d1, d2, d3⟩ | ⟨c1, c2, c3, d1, d2, d3⟩ | ⟨c1, c2, c3, d1, d2, d3⟩ | ⟨c1, c2, c3, d1, d2, d3⟩ | ⟨c1, c2, c3, d1, d2, d3⟩ | ⟨c1, c2, c3, d1, d2, d3⟩ | ⟨c1, c2, c3, d1, d2, d3⟩ | ⟨c1, c2, c3, d1, d2, d3⟩ | ⟨c1, c2, c3, d1, d2, d3⟩
        all_goals
          have C3 := Lib.hid c3
          first
          | (exfalso
             have := HO.out
             rw [HG.out, okb_not (by omega) (by omega) (by omega) (beq_eq_false_iff_ne.1 C3.out)] at this
             cases this
             done)
          | (go_wp2
             go_round
             case rel => exact ⟨k + 1, by omega, by go_num, rfl⟩
             case measure => simp [intOf]; omega)
      · go_wp2
        go_ret
        exact ⟨rfl, HB.out⟩
theorem vname_under (w : World) : Calls Try.prog 23 #[.string ⟨#[95]⟩] w (RB w (.bool false)) := by
  go_enter Try.func23, Try.ntmps23
  go_wp2
  go_ret
  exact ⟨rfl, Below.refl _ _⟩
end Go.Proofs.Ytlgpdpadaknnaaa
