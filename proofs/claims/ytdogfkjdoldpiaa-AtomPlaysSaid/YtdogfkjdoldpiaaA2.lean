/- Walks over the document's answers for layer 3 (atom): names, where they stand. -/
import Derived.Test.YtdogfkjdoldpiaaA1
namespace Go.Proofs.Ytdogfkjdoldpiaa
open Go.RowKit

theorem classes (c : Int) (h0 : 0 ≤ c) : (0 ≤ c ∧ c ≤ 47 ∧ (c == 95) = false ∧ decide (c ≤ 122) = true ∧ decide (c ≤ 90) = true ∧ decide (c ≤ 57) = true) ∨
    (48 ≤ c ∧ c ≤ 57 ∧ (c == 95) = false ∧ decide (c ≤ 122) = true ∧ decide (c ≤ 90) = true ∧ decide (c ≤ 57) = true) ∨
    (58 ≤ c ∧ c ≤ 64 ∧ (c == 95) = false ∧ decide (c ≤ 122) = true ∧ decide (c ≤ 90) = true ∧ decide (c ≤ 57) = false) ∨
    (65 ≤ c ∧ c ≤ 90 ∧ (c == 95) = false ∧ decide (c ≤ 122) = true ∧ decide (c ≤ 90) = true ∧ decide (c ≤ 57) = false) ∨
    (91 ≤ c ∧ c ≤ 94 ∧ (c == 95) = false ∧ decide (c ≤ 122) = true ∧ decide (c ≤ 90) = false ∧ decide (c ≤ 57) = false) ∨
    (95 ≤ c ∧ c ≤ 95 ∧ (c == 95) = true ∧ decide (c ≤ 122) = true ∧ decide (c ≤ 90) = false ∧ decide (c ≤ 57) = false) ∨
    (96 ≤ c ∧ c ≤ 96 ∧ (c == 95) = false ∧ decide (c ≤ 122) = true ∧ decide (c ≤ 90) = false ∧ decide (c ≤ 57) = false) ∨
    (97 ≤ c ∧ c ≤ 122 ∧ (c == 95) = false ∧ decide (c ≤ 122) = true ∧ decide (c ≤ 90) = false ∧ decide (c ≤ 57) = false) ∨
    (123 ≤ c ∧ c ≤ c ∧ (c == 95) = false ∧ decide (c ≤ 122) = false ∧ decide (c ≤ 90) = false ∧ decide (c ≤ 57) = false) := by
  by_cases h0 : c ≤ 47
  · exact .inl ⟨by omega, by omega, beq_eq_false_iff_ne.2 (by omega), decide_eq_true (by omega), decide_eq_true (by omega), decide_eq_true (by omega)⟩
  by_cases h1 : c ≤ 57
  · exact .inr (.inl ⟨by omega, by omega, beq_eq_false_iff_ne.2 (by omega), decide_eq_true (by omega), decide_eq_true (by omega), decide_eq_true (by omega)⟩)
  by_cases h2 : c ≤ 64
  · exact .inr (.inr (.inl ⟨by omega, by omega, beq_eq_false_iff_ne.2 (by omega), decide_eq_true (by omega), decide_eq_true (by omega), decide_eq_false (by omega)⟩))
  by_cases h3 : c ≤ 90
  · exact .inr (.inr (.inr (.inl ⟨by omega, by omega, beq_eq_false_iff_ne.2 (by omega), decide_eq_true (by omega), decide_eq_true (by omega), decide_eq_false (by omega)⟩)))
  by_cases h4 : c ≤ 94
  · exact .inr (.inr (.inr (.inr (.inl ⟨by omega, by omega, beq_eq_false_iff_ne.2 (by omega), decide_eq_true (by omega), decide_eq_false (by omega), decide_eq_false (by omega)⟩))))
  by_cases h5 : c ≤ 95
  · exact .inr (.inr (.inr (.inr (.inr (.inl ⟨by omega, by omega, beq_iff_eq.2 (by omega), decide_eq_true (by omega), decide_eq_false (by omega), decide_eq_false (by omega)⟩)))))
  by_cases h6 : c ≤ 96
  · exact .inr (.inr (.inr (.inr (.inr (.inr (.inl ⟨by omega, by omega, beq_eq_false_iff_ne.2 (by omega), decide_eq_true (by omega), decide_eq_false (by omega), decide_eq_false (by omega)⟩))))))
  by_cases h7 : c ≤ 122
  · exact .inr (.inr (.inr (.inr (.inr (.inr (.inr (.inl ⟨by omega, by omega, beq_eq_false_iff_ne.2 (by omega), decide_eq_true (by omega), decide_eq_false (by omega), decide_eq_false (by omega)⟩)))))))
  exact .inr (.inr (.inr (.inr (.inr (.inr (.inr (.inr ⟨by omega, by omega, beq_eq_false_iff_ne.2 (by omega), decide_eq_false (by omega), decide_eq_false (by omega), decide_eq_false (by omega)⟩)))))))
theorem small_of {c : Nat} (h1 : 97 ≤ (c : Int)) (h2 : (c : Int) ≤ 122) : small c = true := by unfold small; simp; omega
theorem small_not {c : Nat} (h : (c : Int) < 97 ∨ 122 < (c : Int)) : small c = false := by unfold small; simp; omega
theorem len_ne {s : ByteArray} (h : ¬ s.size = 0) : ((s.size : Int) == 0) = false := by rw [beq_eq_false_iff_ne]; omega

def nameRel (s : ByteArray) (r i : Value) : Prop := ∃ k : Nat, k ≤ s.size ∧ i = .int .i64 k ∧ r = .bool false ∧ okTo s k ∧ (0 < k → small (s.data.toList.getD 0 0).toNat = true)
theorem getB (s : ByteArray) {k : Nat} (h : k < s.size) : (s.data.toList.getD k 0).toNat = (s[k]'h).toNat := by rw [getD_at s h]; rfl
theorem first_bad {s : ByteArray} {k : Nat} (hk : k < s.size) (hg : (s.data.toList.getD k 0).toNat = (s[k]'hk).toNat) (h : (k = 0 ∧ small (s[k]'hk).toNat = false) ∨ okb (s[k]'hk).toNat = false) : nameB s = false := by
  rcases h with ⟨rfl, h⟩ | h
  · exact nameB_first (by rw [hg]; exact h)
  · exact nameB_bad hk (by rw [hg]; exact h)
set_option maxHeartbeats 2000000 in
theorem name_any (s : ByteArray) (w : World) (hs : s.size ≤ maxLen) :
    Calls Try.prog 11 #[.string s] w (RB w (.bool (nameB s))) := by
  unfold maxLen at hs
  by_cases h0 : s.size = 0
  · go_enter Try.func11, Try.ntmps11
    go_wp2
    go_ret
    exact ⟨ret_bool (nameB_empty h0).symm, Below.refl _ _⟩
  · have hpos : 0 < s.size := by omega
    have hl := len_ne h0
    by_cases h32 : 32 < s.size
    · go_enter Try.func11, Try.ntmps11
      go_wp2
      go_ret
      exact ⟨ret_bool (nameB_long h32).symm, Below.refl _ _⟩
    · go_enter Try.func11, Try.ntmps11
      go_wp2
      go_loop [2, 3] (fun r i => nameRel s r i) (fun _ i => s.size - (intOf i).toNat)
      case atStart => exact ⟨0, Nat.zero_le _, rfl, rfl, okTo_zero s, fun h => absurd h (by omega)⟩
      case round =>
        obtain ⟨k, hk, rfl, rfl, hall, hfirst⟩ := hrel
        have HA := Lib.hid hall
        have HF := Lib.hid hfirst
        clear hall hfirst
        by_cases hlt : k < s.size
        · have HG := Lib.hid (getB s hlt)
          rcases classes ((s[k]'hlt).toNat : Int) (by omega) with ⟨c1, c2, c3, d1, d2, d3⟩ | ⟨c1, c2, c3, d1, d2, d3⟩ | ⟨c1, c2, c3, d1, d2, d3⟩ | ⟨c1, c2, c3, d1, d2, d3⟩ | ⟨c1, c2, c3, d1, d2, d3⟩ | ⟨c1, c2, c3, d1, d2, d3⟩ | ⟨c1, c2, c3, d1, d2, d3⟩ | ⟨c1, c2, c3, d1, d2, d3⟩ | ⟨c1, c2, c3, d1, d2, d3⟩
          all_goals
            have C3 := Lib.hid c3
            rcases Nat.eq_zero_or_pos k with rfl | hkp
          all_goals
            try have hk0 : ((k : Int) == 0) = false := by rw [beq_eq_false_iff_ne]; omega
            go_wp2
            all_goals
             first
              | (go_ret
                 exact ⟨ret_bool (first_bad hlt HG.out (.inl ⟨rfl, small_not (by omega)⟩)).symm, Below.refl _ _⟩)
              | (go_ret
                 exact ⟨ret_bool (first_bad hlt HG.out (.inr (okb_not (by omega) (by omega) (by omega) (beq_eq_false_iff_ne.1 C3.out)))).symm, Below.refl _ _⟩)
              | (go_round
                 case rel => exact ⟨_, by omega, by go_num, rfl, okTo_succ HA.out (by rw [HG.out]; first | exact okb_of (by omega) | exact okb_of (.inr (.inr (.inr (beq_iff_eq.1 C3.out))))), fun _ => by first | exact HF.out (by omega) | (rw [HG.out]; exact small_of (by omega) (by omega))⟩
                 case measure => simp [intOf]; omega)
        · go_wp2
          go_ret
          obtain rfl : k = s.size := by omega
          exact ⟨ret_bool (nameB_true hpos (by omega) (HF.out hpos) HA.out).symm, Below.refl _ _⟩
end Go.Proofs.Ytdogfkjdoldpiaa
