/- Walks over layer 3 (atom): which strings are names. -/
import Derived.Test.YtdogfkjdoldpiaaL0
import Derived.Test.YtdogfkjdoldpiaaA0
namespace Go.Proofs.Ytdogfkjdoldpiaa
open Go.RowKit

theorem getD_at (s : ByteArray) {k : Nat} (h : k < s.size) : s.data.toList.getD k 0 = s.data[k] := by simp [List.getD, h]
theorem isEmpty_false {s : ByteArray} (h : ¬ s.size = 0) : s.toList.isEmpty = false := by
  rw [Lib.toList_data]
  cases e : s.data.toList with
  | nil => exact absurd (by rw [Lib.size_eq, e]; rfl) h
  | cons a l => rfl
theorem toList_nil {s : ByteArray} (h : s.size = 0) : s.toList = [] := by
  rw [Lib.toList_data]
  exact List.eq_nil_of_length_eq_zero (by rw [← Lib.size_eq]; exact h)

/-- how a search's round ends: the byte is one of a name's -/
def rightRel (s : ByteArray) (r i : Value) : Prop := ∃ k : Nat, k ≤ s.size ∧ i = .int .i64 k ∧ r = .bool false ∧ okTo s k
set_option maxHeartbeats 1000000 in
theorem right_any (s : ByteArray) (w : World) (hs : s.size ≤ maxLen) :
    Calls Try.prog 10 #[.string s] w (RB w (.bool (nameB s))) := by
  unfold maxLen at hs
  by_cases h0 : s.size = 0
  · have hl := toList_nil h0
    go_enter Try.func10, Try.ntmps10
    go_wp2
    go_ret
    exact ⟨ret_bool (nameB_empty h0).symm, Below.refl _ _⟩
  · have hpos : 0 < s.size := by omega
    have hl := isEmpty_false h0
    by_cases h32 : 32 < s.size
    · go_enter Try.func10, Try.ntmps10
      go_wp2
      go_ret
      exact ⟨ret_bool (nameB_long h32).symm, Below.refl _ _⟩
    · have kc := Lib.run_convert_string_bytes (P := Try.prog) w 9 51 5 s Try.underlying9 Try.underlying51 Try.underlying5
      have hcell := Lib.bytesWorld_cell w 5 s
      have HB := Lib.hid (below_bytesWorld w 5 s)
      by_cases h1 : small (s.data.toList.getD 0 0).toNat = true
      · have HS := Lib.hid h1
        rw [getD_at s hpos] at h1
        simp [small] at h1
        have h1a : 97 ≤ ((s[0]'hpos).toNat : Int) := by have := h1.1; show 97 ≤ ((s.data[0]'hpos).toNat : Int); omega
        have h1b : ((s[0]'hpos).toNat : Int) ≤ 122 := by have := h1.2; show ((s.data[0]'hpos).toNat : Int) ≤ 122; omega
        clear h1
        go_enter Try.func10, Try.ntmps10
        go_wp2
        go_loop [2, 4, 25] (fun r _ i => rightRel s r i) (fun _ _ i => s.size - (intOf i).toNat)
        case atStart => exact ⟨0, Nat.zero_le _, rfl, rfl, okTo_zero s⟩
        case round =>
          obtain ⟨k, hk, rfl, rfl, hall⟩ := hrel
          have HA := Lib.hid hall
          clear hall
          by_cases hlt : k < s.size
          · have hc := hcell k hlt
            have HG := Lib.hid (getD_at s hlt)
            clear hcell
            go_wp2
            all_goals
              first
              | (go_ret
                 exact ⟨ret_bool (nameB_bad hlt (by rw [HG.out]; exact okb_not (by omega) (by omega) (by omega) (by simpa using ‹(((s.data[k]'hlt).toNat : Int) == 95) = false›))).symm, HB.out⟩)
              | (go_round
                 case rel => exact ⟨k + 1, by omega, by go_num, rfl, okTo_succ HA.out (by rw [HG.out]; first | exact okb_of (.inl ⟨by omega, by omega⟩) | exact okb_of (.inr (.inl ⟨by omega, by omega⟩)) | exact okb_of (.inr (.inr (.inl ⟨by omega, by omega⟩))) | exact okb_of (.inr (.inr (.inr (by simpa using ‹(((s.data[k]'hlt).toNat : Int) == 95) = true›)))))⟩
                 case measure => simp [intOf]; omega)
          · go_wp2
            go_ret
            exact ⟨ret_bool (nameB_true hpos (by omega) HS.out (by obtain rfl : k = s.size := by omega
                                                                   exact HA.out)).symm, HB.out⟩
      · have h1' : small (s.data.toList.getD 0 0).toNat = false := by simpa using h1
        have HS := Lib.hid h1'
        rw [getD_at s hpos] at h1
        simp [small] at h1
        clear h1' hcell kc
        have h1' : 97 ≤ ((s[0]'hpos).toNat : Int) → 122 < ((s[0]'hpos).toNat : Int) := fun h => by
          have h3 : 97 ≤ ((s.data[0]'hpos).toNat : Int) := h
          show 122 < ((s.data[0]'hpos).toNat : Int)
          have := h1 (by omega)
          omega
        by_cases hlow : 97 ≤ ((s[0]'hpos).toNat : Int)
        · have h2 := h1' hlow
          clear h1 h1'
          go_enter Try.func10, Try.ntmps10
          go_wp2
          go_ret
          exact ⟨ret_bool (nameB_first HS.out).symm, Below.refl _ _⟩
        · clear h1 h1'
          go_enter Try.func10, Try.ntmps10
          go_wp2
          go_ret
          exact ⟨ret_bool (nameB_first HS.out).symm, Below.refl _ _⟩
end Go.Proofs.Ytdogfkjdoldpiaa
