/- AtomPlays: the table beside the document's list, in a variable's slots. -/
import Derived.Test.YtdogfkjdoldpiaaB9
import Derived.Test.YtdogfkjdoldpiaaD3
namespace Go.Proofs.Ytdogfkjdoldpiaa
open Go.RowKit Go.Maps

/-- the world's rest lies as it lay; the table in p holds lt; lv is the document's list l -/
def Pl (w : World) (p m : Nat) (lt l : List ByteArray) (lv : Value) (W : World) : Prop :=
  Below w.heap.size w W ∧ ∃ v, Tab W p m v lt ∧ (∀ i, tabIn p m v i → w.heap.size ≤ i) ∧ Strs W lv l ∧ (l ≠ [] → ∀ b, lv.ownBlock = some b → ¬ tabIn p m v b)
theorem Pl.later {w : World} {p m : Nat} {lt l : List ByteArray} {lv : Value} {W W' : World} (h : Pl w p m lt l lv W) (hb : Below W.heap.size W W') : Pl w p m lt l lv W' := by
  obtain ⟨h1, v, h3, h4, h6, h7⟩ := h
  exact ⟨h1.trans (hb.mono h1.size), v, h3.below hb, h4, h6.below hb, h7⟩
theorem strs_turn {W W' : World} {lv : Value} {l : List ByteArray} {T : Nat → Prop} (h : Strs W lv l) (ht : Turn T W W') (hd : l ≠ [] → ∀ b, lv.ownBlock = some b → ¬ T b) : Strs W' lv l := by
  by_cases hl : l = []
  · subst hl
    obtain ⟨a, c, rfl, hm, _⟩ := h
    exact ⟨a, c, rfl, hm, fun h => by simp at h⟩
  · exact h.same fun b e hlt => ht.block b hlt (hd hl b e)
theorem tab_put_in {W : World} {p m : Nat} {v v' : Value} (hv : v'.ownBlock = v.ownBlock ∨ ∀ b, v'.ownBlock = some b → W.heap.size ≤ b) {b : Nat} (hlt : b < W.heap.size) (h : ¬ tabIn p m v b) : ¬ tabIn p m v' b := by
  rintro (e | e | e)
  · exact h (.inl e)
  · exact h (.inr (.inl e))
  · rcases hv with hv | hv
    · rw [hv] at e; exact h (.inr (.inr e))
    · have := hv b e; omega
theorem Pl.put {w : World} {p m : Nat} {lt l : List ByteArray} {lv : Value} {W : World} (h : Pl w p m lt l lv W) (s : ByteArray) (hs : s.size ≤ maxLen) :
    Calls Try.prog 13 #[.pointer (some ⟨p, 0, none⟩), .string s] W fun e W' =>
      e = .returned (.tuple #[.int .i64 (putL lt s).2.1, .int .i64 (putL lt s).2.2]) ∧ Pl w p m (putL lt s).1 l lv W' := by
  obtain ⟨h1, v, h3, h4, h6, h7⟩ := h
  refine (tput_any p m v lt s W h3 hs).mono fun e W' hp => ?_
  have hq := hp
  obtain ⟨v', he, hT', ht, hv⟩ := hp
  obtain ⟨_, _, hb'⟩ := from_put h1 h4 hq
  refine ⟨he, hb', v', hT', ?_, strs_turn h6 ht h7, fun hl b e => tab_put_in hv (strs_lt h6 hl b e) (h7 hl b e)⟩
  rintro i (e | e | e)
  · exact h4 i (.inl e)
  · exact h4 i (.inr (.inl e))
  · exact put_fresh hv h1.size (fun b e => h4 b (.inr (.inr e))) i e
theorem Pl.ref {w : World} {p m : Nat} {lt l : List ByteArray} {lv : Value} {W : World} (h : Pl w p m lt l lv W) (s : ByteArray) (hs : s.size ≤ maxLen) (hl : l.length ≤ 4096) :
    Calls Try.prog 14 #[lv, .string s] W fun e W' => ∃ a c, e = .returned (.tuple #[.slice a (putL l s).1.length c, .int .i64 (putL l s).2.1, .int .i64 (putL l s).2.2]) ∧ Pl w p m lt (putL l s).1 (.slice a (putL l s).1.length c) W' ∧ Below W.heap.size W W' := by
  obtain ⟨h1, v, h3, h4, h6, h7⟩ := h
  refine (putref_any lv l s W hs h6 hl).mono fun e W' ⟨lv', he, hS', hb, hn⟩ => ?_
  obtain ⟨a4, n4, rfl, _⟩ := id hS'
  refine ⟨a4, n4, he, ⟨h1.trans (hb.mono h1.size), v, h3.below hb, h4, hS', fun hl b e hi => ?_⟩, hb⟩
  rcases hn with e2 | hn
  · have hlen := put_same (e2 ▸ h6) hS'
    have hl0 : l ≠ [] := by intro e3; subst e3; exact hl (List.length_eq_zero_iff.1 hlen)
    rw [e2] at e
    exact h7 hl0 b e hi
  · have := hn b e
    rcases hi with rfl | rfl | hi
    · have := h3.lt.1; omega
    · have := h3.lt.2.1; omega
    · have := h3.lt.2.2 b hi; omega
theorem Pl.strs {w : World} {p m : Nat} {lt l : List ByteArray} {lv : Value} {W : World} (h : Pl w p m lt l lv W) : Strs W lv l := by
  obtain ⟨h1, v, h3, h4, h6, h7⟩ := h; exact h6
theorem Pl.find {w : World} {p m : Nat} {lt l : List ByteArray} {lv : Value} {W : World} (h : Pl w p m lt l lv W) (s : ByteArray) (hs : s.size ≤ maxLen) :
    Calls Try.prog 20 #[.pointer (some ⟨p, 0, none⟩), .string s] W (RW W (findV lt s)) := by
  obtain ⟨h1, v, h3, h4, h6, h7⟩ := h; exact tfind_any p m v lt s W h3 hs
theorem Pl.nameIn {w : World} {p m : Nat} {lt l : List ByteArray} {lv : Value} {W : World} (h : Pl w p m lt l lv W) (n : Nat) (hn : n < lt.length) :
    Calls Try.prog 21 #[.pointer (some ⟨p, 0, none⟩), .int .i64 n] W (RW W (.tuple #[.string lt[n], .int .i64 0])) := by
  obtain ⟨h1, v, h3, h4, h6, h7⟩ := h; exact tname_in p m v lt n W h3 hn
theorem Pl.nameOut {w : World} {p m : Nat} {lt l : List ByteArray} {lv : Value} {W : World} (h : Pl w p m lt l lv W) (n : Int) (hn : n < 0 ∨ (lt.length : Int) ≤ n) :
    Calls Try.prog 21 #[.pointer (some ⟨p, 0, none⟩), .int .i64 n] W (RW W (.tuple #[.string ByteArray.empty, .int .i64 32])) := by
  obtain ⟨h1, v, h3, h4, h6, h7⟩ := h; exact tname_out p m v lt n W h3 hn
theorem Pl.len {w : World} {p m : Nat} {lt l : List ByteArray} {lv : Value} {W : World} (h : Pl w p m lt l lv W) :
    Calls Try.prog 18 #[.pointer (some ⟨p, 0, none⟩)] W (RW W (.int .i64 lt.length)) := by
  obtain ⟨h1, v, h3, h4, h6, h7⟩ := h; exact len_any p m v lt W h3
theorem Pl.all {w : World} {p m : Nat} {l : List ByteArray} {lv : Value} {W : World} (h : Pl w p m l l lv W) (stop : Int) (hn : (Lit.int .i64 stop).wf = true) :
    Calls Try.prog 17 #[.pointer (some ⟨p, 0, none⟩), lv, .int .i64 stop] W fun e W' => e = .returned (.bool true) ∧ Pl w p m l l lv W' := by
  have h0 := h
  obtain ⟨h1, v, h3, h4, h6, h7⟩ := h
  exact (all_walk p m v lv l stop W h3 h6 hn).mono fun e W' ⟨he, hb⟩ => ⟨he, h0.later hb⟩
theorem Pl.bound {w : World} {p m : Nat} {lt l : List ByteArray} {lv : Value} {W : World} (h : Pl w p m lt l lv W) : lt.length ≤ 4096 := by
  obtain ⟨h1, v, h3, h4, h6, h7⟩ := h; exact h3.len
/-- the copy, and beside it the elder table -/
def Pl2 (w : World) (p m : Nat) (lo : List ByteArray) (p' m' : Nat) (l : List ByteArray) (lv : Value) (W : World) : Prop :=
  Below w.heap.size w W ∧ ∃ v v', Tab W p m v lo ∧ (∀ i, tabIn p m v i → w.heap.size ≤ i) ∧ Tab W p' m' v' l ∧ (∀ i, tabIn p' m' v' i → w.heap.size ≤ i) ∧ Strs W lv l ∧
    (l ≠ [] → ∀ b, lv.ownBlock = some b → ¬ tabIn p m v b) ∧ (l ≠ [] → ∀ b, lv.ownBlock = some b → ¬ tabIn p' m' v' b) ∧ ∀ i, tabIn p' m' v' i → ¬ tabIn p m v i
theorem Pl.copy {w : World} {p m : Nat} {l : List ByteArray} {lv : Value} {W : World} (h : Pl w p m l l lv W) :
    Calls Try.prog 16 #[.pointer (some ⟨p, 0, none⟩)] W fun e W' => ∃ p' m', e = .returned (.pointer (some ⟨p', 0, none⟩)) ∧ Pl2 w p m l p' m' l lv W' := by
  obtain ⟨h1, v, h3, h4, h6, h7⟩ := h
  refine (copy_any p m v l W h3).mono fun e W' ⟨p', m', v', he, hT', hb, hf⟩ => ?_
  refine ⟨p', m', he, h1.trans (hb.mono h1.size), v, v', h3.below hb, h4, hT', fun i hi => Nat.le_trans h1.size (hf i hi), h6.below hb, h7, fun hl b e hi => ?_, fun i hi hj => ?_⟩
  · have := hf b hi; have := strs_lt h6 hl b e; omega
  · have := hf i hi
    rcases hj with rfl | rfl | hj
    · have := h3.lt.1; omega
    · have := h3.lt.2.1; omega
    · have := h3.lt.2.2 i hj; omega
theorem Pl2.put {w : World} {p m : Nat} {lo : List ByteArray} {p' m' : Nat} {l : List ByteArray} {lv : Value} {W : World} (h : Pl2 w p m lo p' m' l lv W) (s : ByteArray) (hs : s.size ≤ maxLen) :
    Calls Try.prog 13 #[.pointer (some ⟨p, 0, none⟩), .string s] W fun e W' =>
      e = .returned (.tuple #[.int .i64 (putL lo s).2.1, .int .i64 (putL lo s).2.2]) ∧ Pl2 w p m (putL lo s).1 p' m' l lv W' := by
  obtain ⟨h1, v, v', h3, h4, h5, h6, h7, h8, h9, h10⟩ := h
  refine (tput_any p m v lo s W h3 hs).mono fun e W' hp => ?_
  have hq := hp
  obtain ⟨v2, he, hT2, ht, hv⟩ := hp
  obtain ⟨_, _, hb'⟩ := from_put h1 h4 hq
  refine ⟨he, hb', v2, v', hT2, ?_, h5.same (fun i hi hlt => ht.block i hlt (h10 i hi)), h6, strs_turn h7 ht h8, fun hl b e => tab_put_in hv (strs_lt h7 hl b e) (h8 hl b e), h9, fun i hi => tab_put_in hv ?_ (h10 i hi)⟩
  · rintro i (e | e | e)
    · exact h4 i (.inl e)
    · exact h4 i (.inr (.inl e))
    · exact put_fresh hv h1.size (fun b e => h4 b (.inr (.inr e))) i e
  · rcases hi with e | e | e
    · rw [e]; exact h5.lt.1
    · rw [e]; exact h5.lt.2.1
    · exact h5.lt.2.2 i e
theorem Pl2.copied {w : World} {p m : Nat} {lo : List ByteArray} {p' m' : Nat} {l : List ByteArray} {lv : Value} {W : World} (h : Pl2 w p m lo p' m' l lv W) : Pl w p' m' l l lv W := by
  obtain ⟨h1, v, v', h3, h4, h5, h6, h7, h8, h9, h10⟩ := h
  exact ⟨h1, v', h5, h6, h7, h9⟩
theorem Pl.new (w X : World) (hb : Below w.heap.size w X) : Calls Try.prog 12 #[] X fun e Y =>
    e = .returned (.pointer (some ⟨X.heap.size + 1, 0, none⟩)) ∧ Pl w (X.heap.size + 1) X.heap.size [] [] (.slice none 0 0) Y :=
  (new_from w X hb).mono fun e Y ⟨he, ⟨v, hT, hf⟩, hbY⟩ => ⟨he, hbY, v, hT, hf, Strs.nil _, fun h => absurd rfl h⟩
end Go.Proofs.Ytdogfkjdoldpiaa
