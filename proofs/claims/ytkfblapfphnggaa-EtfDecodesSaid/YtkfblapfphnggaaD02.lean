/- Several texts in one. -/
import Derived.Test.YtkfblapfphnggaaD01
import Derived.Deep.DeepMust
import Derived.Maps.OwnOps
import Derived.Maps.OwnSet
import Derived.StringKeys
/- Walks over layer 3 (atom): which strings are names. -/
namespace Go.Proofs.Ytkfblapfphnggaa
open Go.RowKit
set_option maxRecDepth 100000

theorem getD_at (s : ByteArray) {k : Nat} (h : k < s.size) : s.data.toList.getD k 0 = s.data[k] := by simp [List.getD, h]
theorem isEmpty_false {s : ByteArray} (h : ¬ s.size = 0) : s.toList.isEmpty = false := by
  rw [Lib.toList_data]
  cases e : s.data.toList with
  | nil => exact absurd (by rw [Lib.size_eq, e]; rfl) h
  | cons a l => rfl
theorem toList_nil {s : ByteArray} (h : s.size = 0) : s.toList = [] := by
  rw [Lib.toList_data]
  exact List.eq_nil_of_length_eq_zero (by rw [← Lib.size_eq]; exact h)

/-- how a search's round ends: the byte is one of a name's -/
def rightRel (s : ByteArray) (r i : Value) : Prop := ∃ k : Nat, k ≤ s.size ∧ i = .int .i64 k ∧ r = .bool false ∧ okTo s k
set_option maxHeartbeats 1000000 in
theorem right_any (s : ByteArray) (w : World) (hs : s.size ≤ maxLen) :
    Calls Try.prog 66 #[.string s] w (RB w (.bool (nameB s))) := by
  unfold maxLen at hs
  by_cases h0 : s.size = 0
  · have hl := toList_nil h0
    go_enter Try.func66, Try.ntmps66
    go_wp2
    go_ret
    exact ⟨ret_bool (nameB_empty h0).symm, Below.refl _ _⟩
  · have hpos : 0 < s.size := by omega
    have hl := isEmpty_false h0
    by_cases h32 : 32 < s.size
    · go_enter Try.func66, Try.ntmps66
      go_wp2
      go_ret
      exact ⟨ret_bool (nameB_long h32).symm, Below.refl _ _⟩
    · have kc := Lib.run_convert_string_bytes (P := Try.prog) w 9 22 5 s Try.underlying9 Try.underlying22 Try.underlying5
      have hcell := Lib.bytesWorld_cell w 5 s
      have HB := Lib.hid (below_bytesWorld w 5 s)
      by_cases h1 : small (s.data.toList.getD 0 0).toNat = true
      · have HS := Lib.hid h1
        rw [getD_at s hpos] at h1
        simp [small] at h1
        have h1a : 97 ≤ ((s[0]'hpos).toNat : Int) := by have := h1.1; show 97 ≤ ((s.data[0]'hpos).toNat : Int); omega
        have h1b : ((s[0]'hpos).toNat : Int) ≤ 122 := by have := h1.2; show ((s.data[0]'hpos).toNat : Int) ≤ 122; omega
        clear h1
        go_enter Try.func66, Try.ntmps66
        go_wp2
        go_loop [2, 4, 25] (fun r _ i => rightRel s r i) (fun _ _ i => s.size - (intOf i).toNat)
        case atStart => exact ⟨0, Nat.zero_le _, rfl, rfl, okTo_zero s⟩
        case round =>
          obtain ⟨k, hk, rfl, rfl, hall⟩ := hrel
          have HA := Lib.hid hall
          clear hall
          by_cases hlt : k < s.size
          · have hc := hcell k hlt
            have HG := Lib.hid (getD_at s hlt)
            clear hcell
            go_wp2
            all_goals
              first
              | (go_ret
                 exact ⟨ret_bool (nameB_bad hlt (by rw [HG.out]; exact okb_not (by omega) (by omega) (by omega) (by simpa using ‹(((s.data[k]'hlt).toNat : Int) == 95) = false›))).symm, HB.out⟩)
              | (go_round
                 case rel => exact ⟨k + 1, by omega, by go_num, rfl, okTo_succ HA.out (by rw [HG.out]; first | exact okb_of (.inl ⟨by omega, by omega⟩) | exact okb_of (.inr (.inl ⟨by omega, by omega⟩)) | exact okb_of (.inr (.inr (.inl ⟨by omega, by omega⟩))) | exact okb_of (.inr (.inr (.inr (by simpa using ‹(((s.data[k]'hlt).toNat : Int) == 95) = true›)))))⟩
                 case measure => simp [intOf]; omega)
          · go_wp2
            go_ret
            exact ⟨ret_bool (nameB_true hpos (by omega) HS.out (by obtain rfl : k = s.size := by omega
                                                                   exact HA.out)).symm, HB.out⟩
      · have h1' : small (s.data.toList.getD 0 0).toNat = false := by simpa using h1
        have HS := Lib.hid h1'
        rw [getD_at s hpos] at h1
        simp [small] at h1
        clear h1' hcell kc
        have h1' : 97 ≤ ((s[0]'hpos).toNat : Int) → 122 < ((s[0]'hpos).toNat : Int) := fun h => by
          have h3 : 97 ≤ ((s.data[0]'hpos).toNat : Int) := h
          show 122 < ((s.data[0]'hpos).toNat : Int)
          have := h1 (by omega)
          omega
        by_cases hlow : 97 ≤ ((s[0]'hpos).toNat : Int)
        · have h2 := h1' hlow
          clear h1 h1'
          go_enter Try.func66, Try.ntmps66
          go_wp2
          go_ret
          exact ⟨ret_bool (nameB_first HS.out).symm, Below.refl _ _⟩
        · clear h1 h1'
          go_enter Try.func66, Try.ntmps66
          go_wp2
          go_ret
          exact ⟨ret_bool (nameB_first HS.out).symm, Below.refl _ _⟩
end Go.Proofs.Ytkfblapfphnggaa
/- Walks over the document's answers for layer 3 (atom): names, where they stand. -/
namespace Go.Proofs.Ytkfblapfphnggaa
open Go.RowKit
set_option maxRecDepth 100000

theorem classes (c : Int) (h0 : 0 ≤ c) : (0 ≤ c ∧ c ≤ 47 ∧ (c == 95) = false ∧ decide (c ≤ 122) = true ∧ decide (c ≤ 90) = true ∧ decide (c ≤ 57) = true) ∨
    (48 ≤ c ∧ c ≤ 57 ∧ (c == 95) = false ∧ decide (c ≤ 122) = true ∧ decide (c ≤ 90) = true ∧ decide (c ≤ 57) = true) ∨
    (58 ≤ c ∧ c ≤ 64 ∧ (c == 95) = false ∧ decide (c ≤ 122) = true ∧ decide (c ≤ 90) = true ∧ decide (c ≤ 57) = false) ∨
    (65 ≤ c ∧ c ≤ 90 ∧ (c == 95) = false ∧ decide (c ≤ 122) = true ∧ decide (c ≤ 90) = true ∧ decide (c ≤ 57) = false) ∨
    (91 ≤ c ∧ c ≤ 94 ∧ (c == 95) = false ∧ decide (c ≤ 122) = true ∧ decide (c ≤ 90) = false ∧ decide (c ≤ 57) = false) ∨
    (95 ≤ c ∧ c ≤ 95 ∧ (c == 95) = true ∧ decide (c ≤ 122) = true ∧ decide (c ≤ 90) = false ∧ decide (c ≤ 57) = false) ∨
    (96 ≤ c ∧ c ≤ 96 ∧ (c == 95) = false ∧ decide (c ≤ 122) = true ∧ decide (c ≤ 90) = false ∧ decide (c ≤ 57) = false) ∨
    (97 ≤ c ∧ c ≤ 122 ∧ (c == 95) = false ∧ decide (c ≤ 122) = true ∧ decide (c ≤ 90) = false ∧ decide (c ≤ 57) = false) ∨
    (123 ≤ c ∧ c ≤ c ∧ (c == 95) = false ∧ decide (c ≤ 122) = false ∧ decide (c ≤ 90) = false ∧ decide (c ≤ 57) = false) := by
  by_cases h0 : c ≤ 47
  · exact .inl ⟨by omega, by omega, beq_eq_false_iff_ne.2 (by omega), decide_eq_true (by omega), decide_eq_true (by omega), decide_eq_true (by omega)⟩
  by_cases h1 : c ≤ 57
  · exact .inr (.inl ⟨by omega, by omega, beq_eq_false_iff_ne.2 (by omega), decide_eq_true (by omega), decide_eq_true (by omega), decide_eq_true (by omega)⟩)
  by_cases h2 : c ≤ 64
  · exact .inr (.inr (.inl ⟨by omega, by omega, beq_eq_false_iff_ne.2 (by omega), decide_eq_true (by omega), decide_eq_true (by omega), decide_eq_false (by omega)⟩))
  by_cases h3 : c ≤ 90
  · exact .inr (.inr (.inr (.inl ⟨by omega, by omega, beq_eq_false_iff_ne.2 (by omega), decide_eq_true (by omega), decide_eq_true (by omega), decide_eq_false (by omega)⟩)))
  by_cases h4 : c ≤ 94
  · exact .inr (.inr (.inr (.inr (.inl ⟨by omega, by omega, beq_eq_false_iff_ne.2 (by omega), decide_eq_true (by omega), decide_eq_false (by omega), decide_eq_false (by omega)⟩))))
  by_cases h5 : c ≤ 95
  · exact .inr (.inr (.inr (.inr (.inr (.inl ⟨by omega, by omega, beq_iff_eq.2 (by omega), decide_eq_true (by omega), decide_eq_false (by omega), decide_eq_false (by omega)⟩)))))
  by_cases h6 : c ≤ 96
  · exact .inr (.inr (.inr (.inr (.inr (.inr (.inl ⟨by omega, by omega, beq_eq_false_iff_ne.2 (by omega), decide_eq_true (by omega), decide_eq_false (by omega), decide_eq_false (by omega)⟩))))))
  by_cases h7 : c ≤ 122
  · exact .inr (.inr (.inr (.inr (.inr (.inr (.inr (.inl ⟨by omega, by omega, beq_eq_false_iff_ne.2 (by omega), decide_eq_true (by omega), decide_eq_false (by omega), decide_eq_false (by omega)⟩)))))))
  exact .inr (.inr (.inr (.inr (.inr (.inr (.inr (.inr ⟨by omega, by omega, beq_eq_false_iff_ne.2 (by omega), decide_eq_false (by omega), decide_eq_false (by omega), decide_eq_false (by omega)⟩)))))))
theorem small_of {c : Nat} (h1 : 97 ≤ (c : Int)) (h2 : (c : Int) ≤ 122) : small c = true := by unfold small; simp; omega
theorem small_not {c : Nat} (h : (c : Int) < 97 ∨ 122 < (c : Int)) : small c = false := by unfold small; simp; omega
theorem len_ne {s : ByteArray} (h : ¬ s.size = 0) : ((s.size : Int) == 0) = false := by rw [beq_eq_false_iff_ne]; omega

def nameRel (s : ByteArray) (r i : Value) : Prop := ∃ k : Nat, k ≤ s.size ∧ i = .int .i64 k ∧ r = .bool false ∧ okTo s k ∧ (0 < k → small (s.data.toList.getD 0 0).toNat = true)
theorem getB (s : ByteArray) {k : Nat} (h : k < s.size) : (s.data.toList.getD k 0).toNat = (s[k]'h).toNat := by rw [getD_at s h]; rfl
theorem first_bad {s : ByteArray} {k : Nat} (hk : k < s.size) (hg : (s.data.toList.getD k 0).toNat = (s[k]'hk).toNat) (h : (k = 0 ∧ small (s[k]'hk).toNat = false) ∨ okb (s[k]'hk).toNat = false) : nameB s = false := by
  rcases h with ⟨rfl, h⟩ | h
  · exact nameB_first (by rw [hg]; exact h)
  · exact nameB_bad hk (by rw [hg]; exact h)
set_option maxHeartbeats 2000000 in
theorem name_any (s : ByteArray) (w : World) (hs : s.size ≤ maxLen) :
    Calls Try.prog 63 #[.string s] w (RB w (.bool (nameB s))) := by
  unfold maxLen at hs
  by_cases h0 : s.size = 0
  · go_enter Try.func63, Try.ntmps63
    go_wp2
    go_ret
    exact ⟨ret_bool (nameB_empty h0).symm, Below.refl _ _⟩
  · have hpos : 0 < s.size := by omega
    have hl := len_ne h0
    by_cases h32 : 32 < s.size
    · go_enter Try.func63, Try.ntmps63
      go_wp2
      go_ret
      exact ⟨ret_bool (nameB_long h32).symm, Below.refl _ _⟩
    · go_enter Try.func63, Try.ntmps63
      go_wp2
      go_loop [2, 3] (fun r i => nameRel s r i) (fun _ i => s.size - (intOf i).toNat)
      case atStart => exact ⟨0, Nat.zero_le _, rfl, rfl, okTo_zero s, fun h => absurd h (by omega)⟩
      case round =>
        obtain ⟨k, hk, rfl, rfl, hall, hfirst⟩ := hrel
        have HA := Lib.hid hall
        have HF := Lib.hid hfirst
        clear hall hfirst
        by_cases hlt : k < s.size
        · have HG := Lib.hid (getB s hlt)
          rcases classes ((s[k]'hlt).toNat : Int) (by omega) with ⟨c1, c2, c3, d1, d2, d3⟩ | ⟨c1, c2, c3, d1, d2, d3⟩ | ⟨c1, c2, c3, d1, d2, d3⟩ | ⟨c1, c2, c3, d1, d2, d3⟩ | ⟨c1, c2, c3, d1, d2, d3⟩ | ⟨c1, c2, c3, d1, d2, d3⟩ | ⟨c1, c2, c3, d1, d2, d3⟩ | ⟨c1, c2, c3, d1, d2, d3⟩ | ⟨c1, c2, c3, d1, d2, d3⟩
          all_goals
            have C3 := Lib.hid c3
            rcases Nat.eq_zero_or_pos k with rfl | hkp
          all_goals
            try have hk0 : ((k : Int) == 0) = false := by rw [beq_eq_false_iff_ne]; omega
            go_wp2
            all_goals
             first
              | (go_ret
                 exact ⟨ret_bool (first_bad hlt HG.out (.inl ⟨rfl, small_not (by omega)⟩)).symm, Below.refl _ _⟩)
              | (go_ret
                 exact ⟨ret_bool (first_bad hlt HG.out (.inr (okb_not (by omega) (by omega) (by omega) (beq_eq_false_iff_ne.1 C3.out)))).symm, Below.refl _ _⟩)
              | (go_round
                 case rel => exact ⟨_, by omega, by go_num, rfl, okTo_succ HA.out (by rw [HG.out]; first | exact okb_of (by omega) | exact okb_of (.inr (.inr (.inr (beq_iff_eq.1 C3.out))))), fun _ => by first | exact HF.out (by omega) | (rw [HG.out]; exact small_of (by omega) (by omega))⟩
                 case measure => simp [intOf]; omega)
        · go_wp2
          go_ret
          obtain rfl : k = s.size := by omega
          exact ⟨ret_bool (nameB_true hpos (by omega) (HF.out hpos) HA.out).symm, Below.refl _ _⟩
end Go.Proofs.Ytkfblapfphnggaa
/- Lists of names in memory; where a name stands (the document's find). -/
namespace Go.Proofs.Ytkfblapfphnggaa
open Go.RowKit
set_option maxRecDepth 100000

/-- v is a slice that holds the strings l -/
def Strs (W : World) (v : Value) (l : List ByteArray) : Prop :=
  ∃ a c, v = .slice a l.length c ∧ l.length ≤ 9223372036854775807 ∧ (0 < l.length → ∃ b off, a = some ⟨b, off, none⟩ ∧ ∀ j, (h : j < l.length) → W.cell? ⟨b, off + j, none⟩ = some (.string l[j]))
theorem Strs.nil (W : World) : Strs W (.slice none 0 0) [] := ⟨none, 0, rfl, by simp, fun h => absurd h (by simp)⟩
theorem Strs.same {W W' : World} {v : Value} {l : List ByteArray} (h : Strs W v l) (hs : ∀ b, v.ownBlock = some b → b < W.heap.size → W'.heap[b]? = W.heap[b]?) : Strs W' v l := by
  obtain ⟨a, c, rfl, hm, hc⟩ := h
  refine ⟨a, c, rfl, hm, fun hp => ?_⟩
  obtain ⟨b, off, rfl, hcell⟩ := hc hp
  refine ⟨b, off, rfl, fun j hj => ?_⟩
  rw [← hcell j hj]
  exact World.cell?_of_block (w := W) (hs b rfl (cell_lt (hcell j hj)))
theorem Strs.below {W W' : World} {v : Value} {l : List ByteArray} (h : Strs W v l) (hb : Below W.heap.size W W') : Strs W' v l :=
  h.same fun b _ hlt => hb.block b hlt
theorem Strs.alloc {W : World} {v : Value} {l : List ByteArray} (h : Strs W v l) (o : Obj) : Strs (W.alloc o) v l := h.below ((Below.refl _ _).alloc (Nat.le_refl _) o)
theorem Strs.src {W : World} {v : Value} {l : List ByteArray} (h : Strs W v l) : Src Try.prog 1 55 v l.length (l.map .string) W := by
  obtain ⟨a, c, rfl, hm, hc⟩ := h
  by_cases h0 : 0 < l.length
  · obtain ⟨b, off, rfl, hcell⟩ := hc h0
    refine Src.ofSlice _ Try.underlying55 _ _ _ _ (by simp) (fun j u hj => ?_) (by simp [Value.oneCell'])
    obtain ⟨hjl, rfl⟩ := List.getElem?_eq_some_iff.1 hj
    simp only [List.getElem_map]
    have := hcell j (by simpa using hjl)
    simpa [Addr.add_lit] using this
  · have : l = [] := List.eq_nil_of_length_eq_zero (by omega)
    subst this
    cases a with
    | none => exact Src.ofNil _ Try.underlying55 _
    | some a => exact Src.ofSlice _ Try.underlying55 _ _ _ _ (by simp) (fun j u hj => by simp at hj) (by simp)
theorem Strs.of_owns {W : World} {base : Nat} {v : Value} {n : Nat} {l : List ByteArray} (h : W.ownsRow base 9 1 v n (l.map .string)) (hm : l.length ≤ 9223372036854775807) : Strs W v l := by
  have hn : l.length = n := by have := h.1; simpa using this
  subst hn
  rcases h.2 with ⟨rfl, h0⟩ | ⟨g, cap, cur, rfl, _, hg, hnc, _, hcs, htake⟩
  · exact ⟨none, 0, by rw [h0], hm, fun hp => by omega⟩
  · refine ⟨_, cap, rfl, hm, fun _ => ⟨g, 0, rfl, fun j hj => ?_⟩⟩
    have := h.cells (g := g) rfl j (.string l[j]) (by simp [hj])
    simpa [Addr.add_lit] using this
/-- s is not among the first k -/
def notTo (l : List ByteArray) (s : ByteArray) (k : Nat) : Prop := ∀ j, (h : j < l.length) → j < k → ¬ l[j] = s
theorem pos_of_first : ∀ {l : List ByteArray} {s : ByteArray} {k : Nat} (hk : k < l.length), notTo l s k → l[k] = s → pos l s = some k
  | [], _, k, hk, _, _ => by simp at hk
  | x :: l, s, 0, _, _, h => by simp at h; simp [pos, h]
  | x :: l, s, k + 1, hk, hn, h => by
    have hx : ¬ x = s := hn 0 (by simp) (by omega)
    unfold pos
    rw [if_neg hx, pos_of_first (k := k) (by simpa using hk) (fun j hj hjk => hn (j + 1) (by simpa using hj) (by omega)) (by simpa using h)]
    rfl
theorem pos_of_none {l : List ByteArray} {s : ByteArray} (h : notTo l s l.length) : pos l s = none := by
  rw [pos_none_iff]
  intro hm
  obtain ⟨j, hj, e⟩ := List.getElem_of_mem hm
  exact h j hj hj e

theorem beq_bytes_true {a b : ByteArray} (h : a = b) : (a.toList == b.toList) = true := by subst h; simp
theorem beq_bytes_false {a b : ByteArray} (h : ¬ a = b) : (a.toList == b.toList) = false := by
  rw [Lib.toList_data, Lib.toList_data, beq_eq_false_iff_ne]
  intro e
  apply h
  cases a; cases b
  congr 1
  exact Array.toList_inj.1 e

def findRel (l : List ByteArray) (s : ByteArray) (r i : Value) : Prop := ∃ k : Nat, k ≤ l.length ∧ i = .int .i64 k ∧ r = .int .i64 0 ∧ notTo l s k
set_option maxHeartbeats 1000000 in
theorem find_any (v : Value) (l : List ByteArray) (s : ByteArray) (w : World) (hv : Strs w v l) :
    Calls Try.prog 64 #[v, .string s] w (RW w (.int .i64 ((pos l s).getD l.length : Nat))) := by
  obtain ⟨a, c, rfl, hm, hc⟩ := hv
  have HM := Lib.hid hc
  clear hc
  go_enter Try.func64, Try.ntmps64
  go_wp2
  go_loop [4, 5] (fun r i => findRel l s r i) (fun _ i => l.length - (intOf i).toNat)
  case atStart => exact ⟨0, Nat.zero_le _, rfl, rfl, fun j _ h => by omega⟩
  case round =>
    obtain ⟨k, hk, rfl, rfl, hn⟩ := hrel
    have HN := Lib.hid hn
    clear hn
    by_cases hlt : k < l.length
    · obtain ⟨b, off, rfl, hcell⟩ := HM.out (by omega)
      have hck := hcell k hlt
      clear hcell
      by_cases he : l[k] = s
      · have hb := beq_bytes_true he
        have HE := Lib.hid he
        clear he
        go_wp2
        go_ret
        exact ⟨ret_int (by rw [pos_of_first hlt HN.out HE.out]; rfl), rfl⟩
      · have hb := beq_bytes_false he
        have HE := Lib.hid he
        clear he
        go_wp2
        go_round
        case rel => exact ⟨k + 1, by omega, by go_num, rfl, fun j hj hjk => by
          by_cases e : j = k
          · subst e; exact HE.out
          · exact HN.out j hj (by omega)⟩
        case measure => simp [intOf]; omega
    · go_wp2
      go_ret
      obtain rfl : k = l.length := by omega
      exact ⟨ret_int (by rw [pos_of_none HN.out]; rfl), rfl⟩
end Go.Proofs.Ytkfblapfphnggaa
/- What a string is in memory. -/
namespace Go.Proofs.Ytkfblapfphnggaa
open Go.RowKit

theorem infoString : (Try.prog.info? 9).map (fun i => (i.zero, i.size, i.bytes)) = some (some (.string ByteArray.empty), 1, 16) := by kernel_rfl
/-- the list, the number, the error -/
def putL (l : List ByteArray) (s : ByteArray) : List ByteArray × Nat × Int :=
  if nameB s = false then (l, 0, 30) else
  match pos l s with
  | some i => (l, i, 0)
  | none => if l.length = 4096 then (l, 0, 31) else (l ++ [s], l.length, 0)
end Go.Proofs.Ytkfblapfphnggaa
/- The table of names in memory: New, Len, Find, Name, Put. -/
namespace Go.Proofs.Ytkfblapfphnggaa
open Go.RowKit Go.Maps
set_option maxRecDepth 100000

theorem lawS : Keyed Try.prog 9 := string_keyed Try.underlying9
theorem zeroI (w : World) : (zeroValue 3).run Try.prog w = .ok (.int .i64 0) w := by kernel_rfl
abbrev mapAt (W : World) (m n : Nat) (l : List ByteArray) : Prop := W.ownsMap Try.prog 9 (plainElem (H := Unit) Try.prog 3) m n (mapOf l)
/-- BLOCK p HOLDS A TABLE OF THE NAMES l: its map lies in block m, its slice is v -/
structure Tab (W : World) (p m : Nat) (v : Value) (l : List ByteArray) : Prop where
  obj : W.heap[p]? = some (.cells #[.map (some m), v] 79)
  map : mapAt W m l.length l
  row : W.ownsRow 0 9 1 v l.length (l.map .string)
  nd : l.Nodup
  len : l.length ≤ 4096
  nm : ∀ s ∈ l, nameB s = true
/-- the blocks of a table -/
def tabIn (p m : Nat) (v : Value) (i : Nat) : Prop := i = p ∨ i = m ∨ v.ownBlock = some i
theorem row_same {w w' : World} {base e size : Nat} {v : Value} {n : Nat} {xs : List Value} (h : w.ownsRow base e size v n xs) (hs : ∀ b, v.ownBlock = some b → b < w.heap.size → w'.heap[b]? = w.heap[b]?) : w'.ownsRow base e size v n xs := by
  refine ⟨h.1, ?_⟩
  rcases h.2 with h2 | ⟨g, cap, cur, rfl, hb, hg, r⟩
  · exact .inl h2
  · exact .inr ⟨g, cap, cur, rfl, hb, by rw [hs g rfl (Array.getElem?_eq_some_iff.1 hg).1]; exact hg, r⟩
theorem map_same {w w' : World} {P : Program} {k : TypeId} {R : Value → Option (DataW Unit × List MemPlace)} {b n : Nat} {D : DataW Unit} (h : w.ownsMap P k R b n D) (hs : w'.heap[b]? = w.heap[b]?) : w'.ownsMap P k R b n D := by
  obtain ⟨es, clock, hb, F, hs', hD⟩ := h
  exact ⟨es, clock, hs.trans hb, F, hs', hD⟩
theorem Tab.lt {W : World} {p m : Nat} {v : Value} {l : List ByteArray} (h : Tab W p m v l) : p < W.heap.size ∧ m < W.heap.size ∧ ∀ b, v.ownBlock = some b → b < W.heap.size := by
  refine ⟨(Array.getElem?_eq_some_iff.1 h.obj).1, h.map.lt, fun b e => ?_⟩
  rcases h.row.2 with ⟨rfl, _⟩ | ⟨g, cap, cur, rfl, hb, hg, r⟩
  · cases e
  · cases e; exact (Array.getElem?_eq_some_iff.1 hg).1
theorem Tab.same {W W' : World} {p m : Nat} {v : Value} {l : List ByteArray} (h : Tab W p m v l) (hs : ∀ i, tabIn p m v i → i < W.heap.size → W'.heap[i]? = W.heap[i]?) : Tab W' p m v l :=
  ⟨(hs p (.inl rfl) h.lt.1).trans h.obj, map_same h.map (hs m (.inr (.inl rfl)) h.lt.2.1), row_same h.row (fun b e hb => hs b (.inr (.inr e)) hb), h.nd, h.len, h.nm⟩
theorem Tab.below {W W' : World} {p m : Nat} {v : Value} {l : List ByteArray} (h : Tab W p m v l) (hb : Below W.heap.size W W') : Tab W' p m v l := h.same fun i _ hi => hb.block i hi
theorem Tab.apart {W : World} {p m : Nat} {v : Value} {l : List ByteArray} (h : Tab W p m v l) : p ≠ m ∧ v.ownBlock ≠ some p ∧ v.ownBlock ≠ some m := by
  have hm : ∃ es clock, W.heap[m]? = some (.map es clock) := by obtain ⟨es, clock, hb, _⟩ := h.map; exact ⟨es, clock, hb⟩
  obtain ⟨es, clock, hm⟩ := hm
  refine ⟨fun e => ?_, fun e => ?_, fun e => ?_⟩
  · subst e; rw [h.obj] at hm; cases hm
  · rcases h.row.2 with ⟨rfl, _⟩ | ⟨g, cap, cur, rfl, hb, hg, r⟩
    · cases e
    · cases e; rw [h.obj] at hg; cases hg
  · rcases h.row.2 with ⟨rfl, _⟩ | ⟨g, cap, cur, rfl, hb, hg, r⟩
    · cases e
    · cases e; rw [hm] at hg; cases hg
theorem row_slice {w : World} {base e size : Nat} {v : Value} {n : Nat} {xs : List Value} (h : w.ownsRow base e size v n xs) : ∃ a c, v = .slice a n c := by
  rcases h.2 with ⟨rfl, rfl⟩ | ⟨g, cap, cur, rfl, _⟩
  · exact ⟨_, _, rfl⟩
  · exact ⟨_, _, rfl⟩
theorem Tab.cells {W : World} {p m : Nat} {v : Value} {l : List ByteArray} (h : Tab W p m v l) :
    W.cell? ⟨p, 0, none⟩ = some (.map (some m)) ∧ W.cell? ⟨p, 1, none⟩ = some v ∧ W.frozen? ⟨p, 0, none⟩ = false ∧ W.frozen? ⟨p, 1, none⟩ = false := by
  refine ⟨?_, ?_, ?_, ?_⟩ <;> simp [World.cell?, World.frozen?, h.obj]
theorem Tab.strs {W : World} {p m : Nat} {v : Value} {l : List ByteArray} (h : Tab W p m v l) : Strs W v l := .of_owns h.row (by have := h.len; omega)

def NewPost (W : World) (e : Ending) (w' : World) : Prop := e = .returned (.pointer (some ⟨W.heap.size + 1, 0, none⟩)) ∧ Tab w' (W.heap.size + 1) W.heap.size (.slice none 0 0) [] ∧ Below W.heap.size W w'
set_option maxHeartbeats 400000 in
theorem new_any (w : World) : Calls Try.prog 14 #[] w (NewPost w) := by
  have hmm := @run_makeMap Try.prog
  go_enter Try.func14, Try.ntmps14
  go_wp2
  go_ret
  refine ⟨rfl, ⟨?_, ?_, World.ownsRow_nil _ _ _ _, List.nodup_nil, by simp, by simp⟩, ((Below.refl _ w).alloc (Nat.le_refl _) _).alloc (by simp) _⟩
  · have := heap_new (w.alloc (.map #[] 0)) (.cells #[.map (some w.heap.size), .slice none 0 0] 79)
    rw [World.size_alloc] at this
    exact this
  · exact (World.ownsMap_made w _ _ _).alloc _

set_option maxHeartbeats 400000 in
theorem len_any (p m : Nat) (v : Value) (l : List ByteArray) (w : World) (h : Tab w p m v l) :
    Calls Try.prog 40 #[.pointer (some ⟨p, 0, none⟩)] w (RW w (.int .i64 l.length)) := by
  obtain ⟨c0, c1, f0, f1⟩ := h.cells
  obtain ⟨a, c, rfl⟩ := row_slice h.row
  clear h
  go_enter Try.func40, Try.ntmps40
  go_wp2
  go_ret
  exact ⟨rfl, rfl⟩
set_option maxHeartbeats 400000 in
theorem len_nil (w : World) : Calls Try.prog 40 #[.pointer none] w (RW w (.int .i64 0)) := by
  go_enter Try.func40, Try.ntmps40
  go_wp2
  go_ret
  exact ⟨rfl, rfl⟩

/-- what Find answers -/
def findV (l : List ByteArray) (s : ByteArray) : Value := .tuple #[.int .i64 ((pos l s).getD 0 : Nat), .bool (pos l s).isSome]
set_option maxHeartbeats 400000 in
theorem tfind_any (p m : Nat) (v : Value) (l : List ByteArray) (s : ByteArray) (w : World) (h : Tab w p m v l) (hs : s.size ≤ maxLen) :
    Calls Try.prog 58 #[.pointer (some ⟨p, 0, none⟩), .string s] w (RW w (findV l s)) := by
  obtain ⟨c0, c1, f0, f1⟩ := h.cells
  have HM := Lib.hid h.map
  have HK : Hid (keyOf Try.prog 9 (.string s) = some (key s)) := Go.WideMaps.keyOf_string_mk Try.underlying9 hs
  have HA := Lib.hid (at_mapOf h.nd s)
  have HH := Lib.hid (has_mapOf l s)
  clear h
  go_enter Try.func58, Try.ntmps58
  go_wp2_with (at_lookup; refine wpList_lookup_own_ok_int _ rfl _ _ 77 rfl 9 3 .i64 lawS Try.underlying77 Try.underlying3 (zeroI _) m _ _ rfl HM.out _ _ rfl HK.out ?_; intro cc hat hwc; have HC := Lib.hid hat; clear hat hwc)
  go_ret2
  refine ⟨?_, rfl⟩
  have e1 := HA.out.symm.trans HC.out
  simp only [num, DataW.lit.injEq, Lit.int.injEq, true_and] at e1
  rw [HH.out, ← e1]
  rfl
set_option maxHeartbeats 400000 in
theorem tfind_nil (s : ByteArray) (w : World) : Calls Try.prog 58 #[.pointer none, .string s] w (RW w (.tuple #[.int .i64 0, .bool false])) := by
  go_enter Try.func58, Try.ntmps58
  go_wp2
  go_ret2
  exact ⟨rfl, rfl⟩
end Go.Proofs.Ytkfblapfphnggaa
/- The table of names in memory: Name, Put. -/
namespace Go.Proofs.Ytkfblapfphnggaa
open Go.RowKit Go.Maps
set_option maxRecDepth 100000

set_option maxHeartbeats 400000 in
theorem tname_in (p m : Nat) (v : Value) (l : List ByteArray) (n : Nat) (w : World) (h : Tab w p m v l) (hn : n < l.length) :
    Calls Try.prog 57 #[.pointer (some ⟨p, 0, none⟩), .int .i64 n] w (RW w (.tuple #[.string l[n], .int .i64 0])) := by
  obtain ⟨c0, c1, f0, f1⟩ := h.cells
  have hlen := h.len
  obtain ⟨a, c, rfl, hm, hc⟩ := h.strs
  obtain ⟨b, off, rfl, hcell⟩ := hc (by omega)
  have hck := hcell n hn
  have hg : ¬ ((n : Int) < 0) := by omega
  clear h hcell hc
  go_enter Try.func57, Try.ntmps57
  go_wp2
  go_ret2
  exact ⟨rfl, rfl⟩
set_option maxHeartbeats 400000 in
theorem tname_out (p m : Nat) (v : Value) (l : List ByteArray) (n : Int) (w : World) (h : Tab w p m v l) (hn : n < 0 ∨ (l.length : Int) ≤ n) :
    Calls Try.prog 57 #[.pointer (some ⟨p, 0, none⟩), .int .i64 n] w (RW w (.tuple #[.string ByteArray.empty, .int .i64 32])) := by
  obtain ⟨c0, c1, f0, f1⟩ := h.cells
  have hlen := h.len
  obtain ⟨a, c, rfl, hm, hc⟩ := h.strs
  clear h hc
  by_cases h0 : n < 0
  · clear hn
    go_enter Try.func57, Try.ntmps57
    go_wp2
    go_ret2
    exact ⟨rfl, rfl⟩
  · have h1 : (l.length : Int) ≤ n := by omega
    clear hn
    go_enter Try.func57, Try.ntmps57
    go_wp2
    go_ret2
    exact ⟨rfl, rfl⟩
set_option maxHeartbeats 400000 in
theorem tname_nil (n : Int) (w : World) : Calls Try.prog 57 #[.pointer none, .int .i64 n] w (RW w (.tuple #[.string ByteArray.empty, .int .i64 1])) := by
  go_enter Try.func57, Try.ntmps57
  go_wp2
  go_ret2
  exact ⟨rfl, rfl⟩

def TPutPost (W : World) (p m : Nat) (v : Value) (l : List ByteArray) (s : ByteArray) (e : Ending) (w' : World) : Prop :=
  ∃ v', e = .returned (.tuple #[.int .i64 (putL l s).2.1, .int .i64 (putL l s).2.2]) ∧ Tab w' p m v' (putL l s).1 ∧ Turn (tabIn p m v) W w' ∧ (v'.ownBlock = v.ownBlock ∨ ∀ b, v'.ownBlock = some b → W.heap.size ≤ b)
set_option maxHeartbeats 400000 in
theorem tput_nil (s : ByteArray) (w : World) : Calls Try.prog 41 #[.pointer none, .string s] w (RW w (.tuple #[.int .i64 0, .int .i64 1])) := by
  go_enter Try.func41, Try.ntmps41
  go_wp2
  go_ret2
  exact ⟨rfl, rfl⟩
set_option maxHeartbeats 400000 in
theorem tput_bad (p m : Nat) (v : Value) (l : List ByteArray) (s : ByteArray) (w : World) (h : Tab w p m v l) (hs : s.size ≤ maxLen) (hn : nameB s = false) :
    Calls Try.prog 41 #[.pointer (some ⟨p, 0, none⟩), .string s] w (TPutPost w p m v l s) := by
  have hfin : putL l s = (l, 0, 30) := by simp [putL, hn]
  have HF := Lib.hid hfin
  clear hfin
  go_enter Try.func41, Try.ntmps41
  go_wp2_with fail
  refine (right_any s w hs).mono ?_
  rintro e w1 ⟨rfl, hb1⟩
  rw [hn]
  go_wp2_with fail
  go_ret2
  exact ⟨v, by rw [HF.out]; rfl, by rw [HF.out]; exact h.below hb1, .of_below hb1, .inl rfl⟩
set_option maxHeartbeats 400000 in
theorem tput_there (p m : Nat) (v : Value) (l : List ByteArray) (s : ByteArray) (i : Nat) (w : World) (h : Tab w p m v l) (hs : s.size ≤ maxLen) (hn : nameB s = true) (hp : pos l s = some i) :
    Calls Try.prog 41 #[.pointer (some ⟨p, 0, none⟩), .string s] w (TPutPost w p m v l s) := by
  have hfin : putL l s = (l, i, 0) := by simp [putL, hn, hp]
  have HF := Lib.hid hfin
  have HK : Hid (keyOf Try.prog 9 (.string s) = some (key s)) := Go.WideMaps.keyOf_string_mk Try.underlying9 hs
  have HA := Lib.hid (at_mapOf h.nd s)
  have hH := has_mapOf l s
  rw [hp] at hH
  have HH := Lib.hid hH
  have HP := Lib.hid hp
  clear hfin hH hp
  go_enter Try.func41, Try.ntmps41
  go_wp2_with fail
  refine (right_any s w hs).mono ?_
  rintro e w1 ⟨rfl, hb1⟩
  rw [hn]
  have h1 := h.below hb1
  obtain ⟨c0, c1, f0, f1⟩ := h1.cells
  have HM := Lib.hid h1.map
  have H1 := Lib.hid h1
  clear h h1
  go_wp2_with (at_lookup; refine wpList_lookup_own_ok_int _ rfl _ _ 77 rfl 9 3 .i64 lawS Try.underlying77 Try.underlying3 (zeroI _) m _ _ rfl HM.out _ _ rfl HK.out ?_; intro cc hat hwc; rw [HH.out]; have HC := Lib.hid hat; clear hat hwc)
  go_ret2
  have e1 := HA.out.symm.trans HC.out
  rw [HP.out] at e1
  simp only [num, DataW.lit.injEq, Lit.int.injEq, true_and, Option.getD_some] at e1
  exact ⟨v, by rw [HF.out, ← e1]; rfl, by rw [HF.out]; exact H1.out, .of_below hb1, .inl rfl⟩
set_option maxHeartbeats 400000 in
theorem tput_full (p m : Nat) (v : Value) (l : List ByteArray) (s : ByteArray) (w : World) (h : Tab w p m v l) (hs : s.size ≤ maxLen) (hn : nameB s = true) (hp : pos l s = none) (h4 : l.length = 4096) :
    Calls Try.prog 41 #[.pointer (some ⟨p, 0, none⟩), .string s] w (TPutPost w p m v l s) := by
  have hfin : putL l s = (l, 0, 31) := by simp [putL, hn, hp, h4]
  have HF := Lib.hid hfin
  have HK : Hid (keyOf Try.prog 9 (.string s) = some (key s)) := Go.WideMaps.keyOf_string_mk Try.underlying9 hs
  have hH := has_mapOf l s
  rw [hp] at hH
  have HH := Lib.hid hH
  have hge : (4096 : Int) ≤ (l.length : Int) := by omega
  clear hfin hH hp h4
  go_enter Try.func41, Try.ntmps41
  go_wp2_with fail
  refine (right_any s w hs).mono ?_
  rintro e w1 ⟨rfl, hb1⟩
  rw [hn]
  have h1 := h.below hb1
  obtain ⟨c0, c1, f0, f1⟩ := h1.cells
  have HM := Lib.hid h1.map
  have H1 := Lib.hid h1
  obtain ⟨a, c, rfl⟩ := row_slice h1.row
  clear h h1
  go_wp2_with (at_lookup; refine wpList_lookup_own_ok_int _ rfl _ _ 77 rfl 9 3 .i64 lawS Try.underlying77 Try.underlying3 (zeroI _) m _ _ rfl HM.out _ _ rfl HK.out ?_; intro cc hat hwc; rw [HH.out]; have HC := Lib.hid hat; clear hat hwc)
  go_ret2
  exact ⟨_, by rw [HF.out]; rfl, by rw [HF.out]; exact H1.out, .of_below hb1, .inl rfl⟩
end Go.Proofs.Ytkfblapfphnggaa
