/- Lists of names in memory; where a name stands (the document's Find). -/
import Derived.Test.YtdogfkjdoldpiaaA2
namespace Go.Proofs.Ytdogfkjdoldpiaa
open Go.RowKit

/-- v is a slice that holds the strings l -/
def Strs (W : World) (v : Value) (l : List ByteArray) : Prop :=
  ∃ a c, v = .slice a l.length c ∧ l.length ≤ 9223372036854775807 ∧ (0 < l.length → ∃ b off, a = some ⟨b, off, none⟩ ∧ ∀ j, (h : j < l.length) → W.cell? ⟨b, off + j, none⟩ = some (.string l[j]))
theorem Strs.nil (W : World) : Strs W (.slice none 0 0) [] := ⟨none, 0, rfl, by simp, fun h => absurd h (by simp)⟩
theorem Strs.same {W W' : World} {v : Value} {l : List ByteArray} (h : Strs W v l) (hs : ∀ b, v.ownBlock = some b → b < W.heap.size → W'.heap[b]? = W.heap[b]?) : Strs W' v l := by
  obtain ⟨a, c, rfl, hm, hc⟩ := h
  refine ⟨a, c, rfl, hm, fun hp => ?_⟩
  obtain ⟨b, off, rfl, hcell⟩ := hc hp
  refine ⟨b, off, rfl, fun j hj => ?_⟩
  rw [← hcell j hj]
  exact World.cell?_of_block (w := W) (hs b rfl (cell_lt (hcell j hj)))
theorem Strs.below {W W' : World} {v : Value} {l : List ByteArray} (h : Strs W v l) (hb : Below W.heap.size W W') : Strs W' v l :=
  h.same fun b _ hlt => hb.block b hlt
theorem Strs.alloc {W : World} {v : Value} {l : List ByteArray} (h : Strs W v l) (o : Obj) : Strs (W.alloc o) v l := h.below ((Below.refl _ _).alloc (Nat.le_refl _) o)
theorem Strs.src {W : World} {v : Value} {l : List ByteArray} (h : Strs W v l) : Src Try.prog 1 24 v l.length (l.map .string) W := by
  obtain ⟨a, c, rfl, hm, hc⟩ := h
  by_cases h0 : 0 < l.length
  · obtain ⟨b, off, rfl, hcell⟩ := hc h0
    refine Src.ofSlice _ Try.underlying24 _ _ _ _ (by simp) (fun j u hj => ?_) (by simp [Value.oneCell'])
    obtain ⟨hjl, rfl⟩ := List.getElem?_eq_some_iff.1 hj
    simp only [List.getElem_map]
    have := hcell j (by simpa using hjl)
    simpa [Addr.add_lit] using this
  · have : l = [] := List.eq_nil_of_length_eq_zero (by omega)
    subst this
    cases a with
    | none => exact Src.ofNil _ Try.underlying24 _
    | some a => exact Src.ofSlice _ Try.underlying24 _ _ _ _ (by simp) (fun j u hj => by simp at hj) (by simp)
theorem Strs.of_owns {W : World} {base : Nat} {v : Value} {n : Nat} {l : List ByteArray} (h : W.ownsRow base 9 1 v n (l.map .string)) (hm : l.length ≤ 9223372036854775807) : Strs W v l := by
  have hn : l.length = n := by have := h.1; simpa using this
  subst hn
  rcases h.2 with ⟨rfl, h0⟩ | ⟨g, cap, cur, rfl, _, hg, hnc, _, hcs, htake⟩
  · exact ⟨none, 0, by rw [h0], hm, fun hp => by omega⟩
  · refine ⟨_, cap, rfl, hm, fun _ => ⟨g, 0, rfl, fun j hj => ?_⟩⟩
    have := h.cells (g := g) rfl j (.string l[j]) (by simp [hj])
    simpa [Addr.add_lit] using this
/-- a name's number, -1: it has none -/
def posI (l : List ByteArray) (s : ByteArray) : Int := match pos l s with | some i => i | none => -1
/-- s is not among the first k -/
def notTo (l : List ByteArray) (s : ByteArray) (k : Nat) : Prop := ∀ j, (h : j < l.length) → j < k → ¬ l[j] = s
theorem pos_of_first : ∀ {l : List ByteArray} {s : ByteArray} {k : Nat} (hk : k < l.length), notTo l s k → l[k] = s → pos l s = some k
  | [], _, k, hk, _, _ => by simp at hk
  | x :: l, s, 0, _, _, h => by simp at h; simp [pos, h]
  | x :: l, s, k + 1, hk, hn, h => by
    have hx : ¬ x = s := hn 0 (by simp) (by omega)
    unfold pos
    rw [if_neg hx, pos_of_first (k := k) (by simpa using hk) (fun j hj hjk => hn (j + 1) (by simpa using hj) (by omega)) (by simpa using h)]
    rfl
theorem pos_of_none {l : List ByteArray} {s : ByteArray} (h : notTo l s l.length) : pos l s = none := by
  rw [pos_none_iff]
  intro hm
  obtain ⟨j, hj, e⟩ := List.getElem_of_mem hm
  exact h j hj hj e

theorem beq_bytes_true {a b : ByteArray} (h : a = b) : (a.toList == b.toList) = true := by subst h; simp
theorem beq_bytes_false {a b : ByteArray} (h : ¬ a = b) : (a.toList == b.toList) = false := by
  rw [Lib.toList_data, Lib.toList_data, beq_eq_false_iff_ne]
  intro e
  apply h
  cases a; cases b
  congr 1
  exact Array.toList_inj.1 e

def findRel (l : List ByteArray) (s : ByteArray) (r i : Value) : Prop := ∃ k : Nat, k ≤ l.length ∧ i = .int .i64 k ∧ r = .int .i64 0 ∧ notTo l s k
set_option maxHeartbeats 1000000 in
theorem find_any (v : Value) (l : List ByteArray) (s : ByteArray) (w : World) (hv : Strs w v l) :
    Calls Try.prog 19 #[v, .string s] w (RW w (.int .i64 (posI l s))) := by
  obtain ⟨a, c, rfl, hm, hc⟩ := hv
  have HM := Lib.hid hc
  clear hc
  go_enter Try.func19, Try.ntmps19
  go_wp2
  go_loop [4, 5] (fun r i => findRel l s r i) (fun _ i => l.length - (intOf i).toNat)
  case atStart => exact ⟨0, Nat.zero_le _, rfl, rfl, fun j _ h => by omega⟩
  case round =>
    obtain ⟨k, hk, rfl, rfl, hn⟩ := hrel
    have HN := Lib.hid hn
    clear hn
    by_cases hlt : k < l.length
    · obtain ⟨b, off, rfl, hcell⟩ := HM.out (by omega)
      have hck := hcell k hlt
      clear hcell
      by_cases he : l[k] = s
      · have hb := beq_bytes_true he
        have HE := Lib.hid he
        clear he
        go_wp2
        go_ret
        exact ⟨ret_int (by unfold posI; rw [pos_of_first hlt HN.out HE.out]), rfl⟩
      · have hb := beq_bytes_false he
        have HE := Lib.hid he
        clear he
        go_wp2
        go_round
        case rel => exact ⟨k + 1, by omega, by go_num, rfl, fun j hj hjk => by
          by_cases e : j = k
          · subst e; exact HE.out
          · exact HN.out j hj (by omega)⟩
        case measure => simp [intOf]; omega
    · go_wp2
      go_ret
      obtain rfl : k = l.length := by omega
      exact ⟨ret_int (by unfold posI; rw [pos_of_none HN.out]), rfl⟩
end Go.Proofs.Ytdogfkjdoldpiaa
