/- AtomApart: a table that is filled beside the document's list. -/
import Derived.Test.YtdogfkjdoldpiaaB6
import Derived.Test.YtdogfkjdoldpiaaB4
import Derived.StillTailTactics
import Derived.Stop.RegionWithIn
import Derived.Deep.QuietTactic
import Derived.BigQuiet
namespace Go.Proofs.Ytdogfkjdoldpiaa
open Go.RowKit Go.Maps Go.Shelf

theorem tab_not_box {W : World} {p m : Nat} {v : Value} {l : List ByteArray} (h : Tab W p m v l) {b : Nat} {t : TypeId} {u : Value} (hb : Boxed W b t u) (h1 : t ≠ 9) (h2 : t ≠ 54) : ¬ tabIn p m v b := by
  rintro (rfl | rfl | e)
  · have := (show W.heap[b]? = _ from hb).symm.trans h.obj
    simp at this
  · obtain ⟨es, ck, hm, _⟩ := h.map
    have := (show W.heap[b]? = _ from hb).symm.trans hm
    simp at this
  · exact hb.not_row h1 h.row e.symm
theorem strs_lt {W : World} {v : Value} {l : List ByteArray} (h : Strs W v l) (hl : l ≠ []) : ∀ b, v.ownBlock = some b → b < W.heap.size := by
  obtain ⟨a, c, rfl, hm, hc⟩ := h
  intro b e
  have h0 : 0 < l.length := List.length_pos_iff.2 hl
  obtain ⟨b', off, rfl, hcell⟩ := hc h0
  cases e
  exact cell_lt (hcell 0 h0)
theorem strs_not_box {W : World} {v : Value} {l : List ByteArray} (h : Strs W v l) (hl : l ≠ []) {b : Nat} {t : TypeId} {u : Value} (hb : Boxed W b t u) (hu : ∀ s, u ≠ .string s) : v.ownBlock ≠ some b := by
  obtain ⟨a, c, rfl, hm, hc⟩ := h
  intro e
  have h0 : 0 < l.length := List.length_pos_iff.2 hl
  obtain ⟨b', off, rfl, hcell⟩ := hc h0
  cases e
  have h1 := hcell 0 h0
  have hB : W.heap[b']? = some (.cells #[u] t (0, 0)) := hb
  simp only [World.cell?, hB] at h1
  by_cases ho : off + 0 = 0
  · simp [ho] at h1
    exact hu _ h1
  · have : ([u] : List Value)[off]? = none := by simp; omega
    simp [this] at h1
/-- the world's rest lies as it lay; tb holds the table, in which the names lt are; lb holds the document's list l -/
def Ap (w : World) (p m tb lb : Nat) (lt l : List ByteArray) (W : World) : Prop :=
  Below w.heap.size w W ∧ Boxed W tb 25 (.pointer (some ⟨p, 0, none⟩)) ∧ ∃ v lv, Tab W p m v lt ∧ (∀ i, tabIn p m v i → w.heap.size ≤ i) ∧ Boxed W lb 24 lv ∧ Strs W lv l ∧ (l ≠ [] → ∀ b, lv.ownBlock = some b → ¬ tabIn p m v b)
theorem Ap.later {w : World} {p m tb lb : Nat} {lt l : List ByteArray} {W W' : World} (h : Ap w p m tb lb lt l W) (hb : Below W.heap.size W W') : Ap w p m tb lb lt l W' := by
  obtain ⟨h1, h2, v, lv, h3, h4, h5, h6, h7⟩ := h
  exact ⟨h1.trans (hb.mono h1.size), (hb.block _ h2.lt).trans h2, v, lv, h3.below hb, h4, (hb.block _ h5.lt).trans h5, h6.below hb, h7⟩
theorem Ap.put {w : World} {p m tb lb : Nat} {lt l : List ByteArray} {W : World} (h : Ap w p m tb lb lt l W) (s : ByteArray) (hs : s.size ≤ maxLen) :
    Calls Try.prog 13 #[.pointer (some ⟨p, 0, none⟩), .string s] W fun e W' =>
      e = .returned (.tuple #[.int .i64 (putL lt s).2.1, .int .i64 (putL lt s).2.2]) ∧ Ap w p m tb lb (putL lt s).1 l W' := by
  obtain ⟨h1, h2, v, lv, h3, h4, h5, h6, h7⟩ := h
  refine (tput_any p m v lt s W h3 hs).mono fun e W' hp => ?_
  have hq := hp
  obtain ⟨v', he, hT', ht, hv⟩ := hp
  obtain ⟨_, _, hb'⟩ := from_put h1 h4 hq
  have n1 := tab_not_box h3 h2 (by decide) (by decide)
  have n2 := tab_not_box h3 h5 (by decide) (by decide)
  refine ⟨he, hb', (ht.block _ h2.lt n1).trans h2, v', lv, hT', ?_, (ht.block _ h5.lt n2).trans h5, ?_, ?_⟩
  · rintro i (e | e | e)
    · exact h4 i (.inl e)
    · exact h4 i (.inr (.inl e))
    · exact put_fresh hv h1.size (fun b e => h4 b (.inr (.inr e))) i e
  · by_cases hl : l = []
    · subst hl
      obtain ⟨a, c, rfl, hm, _⟩ := h6
      exact ⟨a, c, rfl, hm, fun h => by simp at h⟩
    · exact h6.same fun b e hlt => ht.block b hlt (h7 hl b e)
  · intro hl b e hi
    have hlt := strs_lt h6 hl b e
    rcases hi with hi | hi | hi
    · exact h7 hl b e (.inl hi)
    · exact h7 hl b e (.inr (.inl hi))
    · rcases hv with hv | hv
      · rw [hv] at hi; exact h7 hl b e (.inr (.inr hi))
      · have := hv b hi; omega
theorem Ap.load {w : World} {p m tb lb : Nat} {lt l : List ByteArray} {W : World} (h : Ap w p m tb lb lt l W) :
    W.cell? ⟨tb, 0, none⟩ = some (.pointer (some ⟨p, 0, none⟩)) ∧ W.frozen? ⟨lb, 0, none⟩ = false ∧ ∃ lv, W.cell? ⟨lb, 0, none⟩ = some lv ∧ Strs W lv l := by
  obtain ⟨h1, h2, v, lv, h3, h4, h5, h6, h7⟩ := h
  exact ⟨h2.cell, h5.frozen, lv, h5.cell, h6⟩
/-- the list's new value lies in its box -/
theorem Ap.store {w : World} {p m tb lb : Nat} {lt l l' : List ByteArray} {W W' : World} {lv lv' : Value} (h : Ap w p m tb lb lt l W) (hlv : W.cell? ⟨lb, 0, none⟩ = some lv) (hb : Below W.heap.size W W') (hs : Strs W' lv' l') (hn : lv' = lv ∧ l' = l ∨ ∀ b, lv'.ownBlock = some b → W.heap.size ≤ b) (hne : tb ≠ lb) (hlb : w.heap.size ≤ lb) :
    Ap w p m tb lb lt l' (W'.setCell ⟨lb, 0, none⟩ lv') := by
  obtain ⟨h1, h2, v, lv0, h3, h4, h5, h6, h7⟩ := h
  have e0 : lv0 = lv := by have := h5.cell.symm.trans hlv; simpa using this
  subst e0
  have k2 : Boxed W' tb 25 (.pointer (some ⟨p, 0, none⟩)) := (hb.block _ h2.lt).trans h2
  have k5 : Boxed W' lb 24 lv0 := (hb.block _ h5.lt).trans h5
  have k3 := h3.below hb
  have n2 := tab_not_box k3 k5 (by decide) (by decide)
  refine ⟨(h1.trans (hb.mono h1.size)).setCell hlb _, k2.other hne _, v, lv', k3.same (fun i hi _ => Below.heap_setCell _ _ _ _ (fun e => by subst e; exact n2 hi)), h4, k5.set _, ?_, ?_⟩
  · by_cases hl : l' = []
    · subst hl
      obtain ⟨a, c, rfl, hm, _⟩ := hs
      exact ⟨a, c, rfl, hm, fun h => by simp at h⟩
    · have hu : ∀ s, lv0 ≠ .string s := by obtain ⟨a, c, rfl, _⟩ := h6; intro s e; cases e
      exact hs.same fun b e _ => Below.heap_setCell _ _ _ _ (fun e2 => by subst e2; exact strs_not_box hs hl k5 hu e)
  · intro hl b e hi
    rcases hn with ⟨rfl, rfl⟩ | hn
    · exact h7 hl b e hi
    · have := hn b e
      rcases hi with rfl | rfl | hi
      · have := h3.lt.1; omega
      · have := h3.lt.2.1; omega
      · have := h3.lt.2.2 b hi; omega
theorem put_same {lv : Value} {W W' : World} {l l' : List ByteArray} (h : Strs W lv l) (h' : Strs W' lv l') : l'.length = l.length := by
  obtain ⟨a, c, rfl, _⟩ := h
  obtain ⟨a', c', e, _⟩ := h'
  simp at e
  exact e.2.1.symm
theorem putL_same {l : List ByteArray} {s : ByteArray} (h : (putL l s).1.length = l.length) : (putL l s).1 = l := by
  unfold putL at h ⊢
  split
  · rfl
  · split
    · rfl
    · split
      · rfl
      · rename_i h1 _ h2 h3; simp [h1, h2, h3] at h
/-- the document's Put -/
theorem Ap.ref {w : World} {p m tb lb : Nat} {lt l : List ByteArray} {W : World} {lv : Value} (h : Ap w p m tb lb lt l W) (hlv : W.cell? ⟨lb, 0, none⟩ = some lv) (s : ByteArray) (hs : s.size ≤ maxLen) (hl : l.length ≤ 4096) (hne : tb ≠ lb) (hlb : w.heap.size ≤ lb) :
    Calls Try.prog 14 #[lv, .string s] W fun e W' => ∃ a n c, e = .returned (.tuple #[.slice a n c, .int .i64 (putL l s).2.1, .int .i64 (putL l s).2.2]) ∧
      W'.cell? ⟨lb, 0, none⟩ = some lv ∧ W'.frozen? ⟨lb, 0, none⟩ = false ∧ Ap w p m tb lb lt (putL l s).1 (W'.setCell ⟨lb, 0, none⟩ (.slice a n c)) := by
  obtain ⟨c1, f2, lv0, c2, hS⟩ := h.load
  have e0 : lv0 = lv := by have := c2.symm.trans hlv; simpa using this
  subst e0
  refine (putref_any lv0 l s W hs hS hl).mono fun e W' ⟨lv', he, hS', hb, hn⟩ => ?_
  have hlt := cell_lt c2
  obtain ⟨a4, n4, rfl, _⟩ := id hS'
  refine ⟨a4, _, n4, he, (World.cell?_of_block (w := W) (a := ⟨lb, 0, none⟩) (hb.block _ hlt)).trans c2, (World.frozen?_of_block (w := W) (a := ⟨lb, 0, none⟩) (hb.block _ hlt)).trans f2, ?_⟩
  refine h.store hlv hb hS' ?_ hne hlb
  rcases hn with rfl | hn
  · exact .inl ⟨rfl, putL_same (put_same hS hS')⟩
  · exact .inr hn
end Go.Proofs.Ytdogfkjdoldpiaa
