/- AtomLasts: a name keeps its number, which is its own: what the lists are. -/
import Derived.Test.YtdogfkjdoldpiaaB5
namespace Go.Proofs.Ytdogfkjdoldpiaa
open Go.RowKit Go.Maps

/-- the names behind the first k calls of Put -/
def lst (l : List ByteArray) (k : Nat) : List ByteArray := (l.take k).foldl (fun acc s => (putL acc s).1) []
/-- what a call of Put tells: the number; -1: there is an error -/
def codeP (r : List ByteArray × Nat × Int) : Int := if r.2.2 = 0 then r.2.1 else -1
def code (l : List ByteArray) (j : Nat) : Int := codeP (putL (lst l j) (l.getD j ByteArray.empty))
def codes (l : List ByteArray) (k : Nat) : List Int := (List.range k).map (code l)
theorem codes_succ (l : List ByteArray) (k : Nat) : codes l (k + 1) = codes l k ++ [code l k] := by simp [codes, List.range_succ]
theorem codes_length (l : List ByteArray) (k : Nat) : (codes l k).length = k := by simp [codes]
theorem codes_get (l : List ByteArray) {k i : Nat} (h : i < k) : (codes l k)[i]? = some (code l i) := by simp [codes, h]
theorem lst_zero (l : List ByteArray) : lst l 0 = [] := rfl
theorem lst_succ (l : List ByteArray) {k : Nat} (h : k < l.length) : lst l (k + 1) = (putL (lst l k) l[k]).1 := by
  unfold lst
  rw [List.take_succ_eq_append_getElem h, List.foldl_append]
  rfl
theorem putL_len (l : List ByteArray) (s : ByteArray) : (putL l s).1.length ≤ l.length + 1 := by
  unfold putL
  split
  · simp
  · split
    · simp
    · split <;> simp
theorem lst_len (l : List ByteArray) : ∀ k, k ≤ l.length → (lst l k).length ≤ k
  | 0, _ => by simp [lst]
  | k + 1, h => by
    rw [lst_succ l (by omega)]
    have := putL_len (lst l k) l[k]
    have := lst_len l k (by omega)
    omega
theorem putL_bad {l : List ByteArray} {s : ByteArray} (h : nameB s = false) : putL l s = (l, 0, 30) := by simp [putL, h]
/-- a right name behind Put: it is there, at the number that is told; what was there keeps its number -/
theorem putL_good {l : List ByteArray} {s : ByteArray} (hl : l.length < 4096) (h : nameB s = true) : ∃ i : Nat, (putL l s).2 = (i, 0) ∧ pos (putL l s).1 s = some i := by
  cases hp : pos l s with
  | some i => exact ⟨i, by simp [putL, h, hp], by simp [putL, h, hp]⟩
  | none => exact ⟨l.length, by simp [putL, h, hp, show ¬ l.length = 4096 by omega], by simp [putL, h, hp, show ¬ l.length = 4096 by omega, pos_snoc]⟩
theorem putL_keeps {l : List ByteArray} {s x : ByteArray} {i : Nat} (h : pos l x = some i) : pos (putL l s).1 x = some i := by
  unfold putL
  split
  · exact h
  · split
    · exact h
    · split
      · exact h
      · simp [pos_snoc, h]
theorem putL_mem {l : List ByteArray} {s x : ByteArray} (hl : ∀ y ∈ l, nameB y = true) (h : x ∈ (putL l s).1) : nameB x = true := by
  unfold putL at h
  split at h
  · exact hl x h
  · rename_i hn
    split at h
    · exact hl x h
    · split at h
      · exact hl x h
      · rcases List.mem_append.1 h with h | h
        · exact hl x h
        · rw [List.mem_singleton] at h; subst h; simpa using hn
theorem lst_mem (l : List ByteArray) : ∀ k, k ≤ l.length → ∀ x ∈ lst l k, nameB x = true
  | 0, _, x, h => by simp [lst] at h
  | k + 1, hk, x, h => by
    rw [lst_succ l (by omega)] at h
    exact putL_mem (lst_mem l k (by omega)) h
theorem lst_code (l : List ByteArray) : ∀ k, k ≤ l.length → k ≤ 200 → ∀ j (h : j < l.length), j < k → nameB l[j] = true → ∃ i : Nat, code l j = i ∧ pos (lst l k) l[j] = some i
  | 0, _, _, j, _, h, _ => by omega
  | k + 1, hk, h2, j, hj, hjk, hn => by
    by_cases e : j = k
    · subst e
      obtain ⟨i, h3, h4⟩ := putL_good (l := lst l j) (s := l[j]) (by have := lst_len l j (by omega); omega) hn
      refine ⟨i, ?_, by rw [lst_succ l hj]; exact h4⟩
      unfold code codeP
      rw [List.getD_eq_getElem?_getD, List.getElem?_eq_getElem hj, Option.getD_some, h3]
      rfl
    · obtain ⟨i, h3, h4⟩ := lst_code l k (by omega) (by omega) j hj (by omega) hn
      exact ⟨i, h3, by rw [lst_succ l (by omega)]; exact putL_keeps h4⟩
theorem code_bad {l : List ByteArray} {j : Nat} (h : j < l.length) (hn : nameB l[j] = false) : code l j = -1 := by
  unfold code codeP
  rw [List.getD_eq_getElem?_getD, List.getElem?_eq_getElem h, Option.getD_some, putL_bad hn]
  rfl
theorem lst_none {l : List ByteArray} {k : Nat} (hk : k ≤ l.length) {s : ByteArray} (hn : nameB s = false) : pos (lst l k) s = none := by
  rw [pos_none_iff]
  intro h
  have := lst_mem l k hk s h
  rw [hn] at this
  cases this
/-- two right names have one number just if they are one -/
theorem code_iff {l : List ByteArray} {k a b : Nat} (hk : k ≤ l.length) (h2 : k ≤ 200) (ha : a < k) (hb : b < k) (na : nameB (l[a]'(by omega)) = true) (nb : nameB (l[b]'(by omega)) = true) :
    code l a = code l b ↔ l[a]'(by omega) = l[b]'(by omega) := by
  obtain ⟨i, e1, p1⟩ := lst_code l k hk h2 a (by omega) ha na
  obtain ⟨j, e2, p2⟩ := lst_code l k hk h2 b (by omega) hb nb
  rw [e1, e2]
  constructor
  · intro e
    have : i = j := by omega
    subst this
    have q1 := (pos_lt p1).2
    have q2 := (pos_lt p2).2
    rw [q1] at q2
    exact Option.some.inj q2
  · intro e
    rw [e] at p1
    rw [p1] at p2
    rw [Option.some.inj p2]
end Go.Proofs.Ytdogfkjdoldpiaa
