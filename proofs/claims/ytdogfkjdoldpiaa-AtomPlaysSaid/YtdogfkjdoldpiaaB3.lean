/- digits: a name of four letters for each number. -/
import Derived.Test.YtdogfkjdoldpiaaB1
namespace Go.Proofs.Ytdogfkjdoldpiaa
open Go.RowKit Go.Maps

def dg (n k : Nat) : UInt8 := UInt8.ofNat (97 + n / 26 ^ k % 26)
/-- the last k letters -/
def digTo (n : Nat) : Nat → ByteArray
  | 0 => ByteArray.empty
  | k + 1 => ⟨#[dg n k] ++ (digTo n k).data⟩
def digB (n : Nat) : ByteArray := digTo n 4
theorem digB_list (n : Nat) : (digB n).data.toList = [dg n 3, dg n 2, dg n 1, dg n 0] := by
  simp [digB, digTo]
theorem dg_toNat (n k : Nat) : (dg n k).toNat = 97 + n / 26 ^ k % 26 := by
  unfold dg
  have : n / 26 ^ k % 26 < 26 := Nat.mod_lt _ (by decide)
  rw [UInt8.toNat_ofNat']
  omega
theorem digB_inj {a b : Nat} (ha : a < 4096) (hb : b < 4096) (h : digB a = digB b) : a = b := by
  have e := congrArg (fun s : ByteArray => s.data.toList.map (·.toNat)) h
  simp only [digB_list, List.map_cons, List.map_nil, dg_toNat, List.cons.injEq, and_true] at e
  obtain ⟨e3, e2, e1, e0⟩ := e
  simp at e0 e1 e2 e3
  omega
theorem digB_name (n : Nat) : nameB (digB n) = true := by
  have hs : (digB n).size = 4 := by show (digB n).data.size = 4; rw [← Array.length_toList, digB_list]; rfl
  have hd : ∀ k, small (dg n k).toNat = true ∧ okb (dg n k).toNat = true := fun k => by
    rw [dg_toNat]
    have : n / 26 ^ k % 26 < 26 := Nat.mod_lt _ (by decide)
    exact ⟨by unfold small; simp; omega, okb_of (by omega)⟩
  unfold nameB
  rw [hs, digB_list]
  simp [hd]
def names (k : Nat) : List ByteArray := (List.range k).map digB
theorem names_succ (k : Nat) : names (k + 1) = names k ++ [digB k] := by simp [names, List.range_succ]
theorem names_length (k : Nat) : (names k).length = k := by simp [names]
theorem names_none {k : Nat} (h : k < 4096) : pos (names k) (digB k) = none := by
  rw [pos_none_iff]
  intro hm
  obtain ⟨j, hj, e⟩ := List.mem_map.1 hm
  rw [List.mem_range] at hj
  have := digB_inj (by omega) h e
  omega
theorem put_digit {k : Nat} (h : k < 4096) : putL (names k) (digB k) = (names (k + 1), k, 0) := by
  simp [putL, digB_name, names_none h, names_length, show ¬ k = 4096 by omega, names_succ]
theorem digit_at {n k : Nat} (h : n < k) (hk : k ≤ 4096) (hn : (names k).Nodup) : pos (names k) (digB n) = some n := by
  have hlt : n < (names k).length := by rw [names_length]; exact h
  have e : (names k)[n] = digB n := by simp [names]
  rw [← e]
  exact pos_at hn hlt

theorem digTo_size (n : Nat) : ∀ k, (digTo n k).size = k
  | 0 => rfl
  | k + 1 => by
    show (#[dg n k] ++ (digTo n k).data).size = k + 1
    rw [Array.size_append]
    have : (digTo n k).data.size = k := digTo_size n k
    simp [this]; omega
theorem digTo_step (n k : Nat) : (⟨#[97 + UInt8.ofNat (n / 26 ^ k % 26)]⟩ ++ digTo n k : ByteArray) = digTo n (k + 1) := by
  have e : dg n k = 97 + UInt8.ofNat (n / 26 ^ k % 26) := by unfold dg; rw [UInt8.ofNat_add]; rfl
  rw [digTo, e]
  apply ByteArray.ext
  simp [ByteArray.data_append]

def digRel (n : Nat) (B : Nat) (w : World) (t0 t3 t4 : Value) (wr : World) : Prop := ∃ k : Nat, k ≤ 4 ∧ t4 = .int .i64 k ∧ t0 = .int .i64 (n / 26 ^ k : Nat) ∧ t3 = .string (digTo n k) ∧ Below B w wr
set_option maxHeartbeats 1000000 in
theorem digits_any (n : Nat) (w : World) (hn : n < 4096) : Calls Try.prog 22 #[.int .i64 n] w (RB w (.string (digB n))) := by
  have hcv := fun (w : World) (x : Int) => run_string_one (P := Try.prog) w Try.underlying51 Try.underlying5 Try.underlying9 x
  go_enter Try.func22, Try.ntmps22
  go_wp2
  go_loopw [0, 3, 4] (fun t0 t3 t4 wr => digRel n w.heap.size w t0 t3 t4 wr) (fun _ _ t4 _ => 4 - (intOf t4).toNat)
  case atStart => exact ⟨0, by omega, rfl, by simp, rfl, Below.refl _ _⟩
  case round =>
    obtain ⟨k, hk, rfl, rfl, rfl, hb⟩ := hrel
    have HB := Lib.hid hb
    clear hb
    by_cases hlt : k < 4
    · obtain ⟨q, hq⟩ : ∃ q, q = n / 26 ^ k := ⟨_, rfl⟩
      rw [← hq]
      have hq4 : q < 4096 := by rw [hq]; exact Nat.lt_of_le_of_lt (Nat.div_le_self _ _) hn
      have HQ := Lib.hid hq
      clear hq
      have hsz : (digTo n k).size ≤ 4 := by rw [digTo_size]; omega
      go_wp2
      go_roundw
      case rel =>
        refine ⟨k + 1, by omega, by go_num, ?_, ?_, HB.out.alloc HB.out.size _⟩
        · rw [HQ.out, Nat.pow_succ, ← Nat.div_div_eq_div_mul]; rfl
        · rw [HQ.out, digTo_step]
      case measure => simp [intOf]; omega
    · go_wp2
      go_ret
      obtain rfl : k = 4 := by omega
      exact ⟨rfl, HB.out⟩
end Go.Proofs.Ytdogfkjdoldpiaa
