/- General: slices in memory that read as lists of one-cell values; what the call owns behind a sort. -/
import Derived.Test.YtkpeelhanmekdaaL0
import Derived.ChangeSlices
import Derived.RowKit
import Derived.Laws.OwnMore
namespace Go.Proofs.Ytkpeelhanmekdaa
open Go.RowKit Go.WideShapes Go.ChangeShapes

/-- v is a slice that holds the one-cell values xs -/
def Sl (W : World) (v : Value) (xs : List Value) : Prop :=
  ∃ a c, v = .slice a xs.length c ∧ xs.length ≤ 9223372036854775807 ∧ (0 < xs.length → ∃ b off, a = some ⟨b, off, none⟩ ∧ ∀ j, (h : j < xs.length) → W.cell? ⟨b, off + j, none⟩ = some xs[j])
theorem Sl.nil (W : World) : Sl W (.slice none 0 0) [] := ⟨none, 0, rfl, by simp, fun h => absurd h (by simp)⟩
theorem Sl.same {W W' : World} {v : Value} {l : List Value} (h : Sl W v l) (hs : ∀ b, v.ownBlock = some b → b < W.heap.size → W'.heap[b]? = W.heap[b]?) : Sl W' v l := by
  obtain ⟨a, c, rfl, hm, hc⟩ := h
  refine ⟨a, c, rfl, hm, fun hp => ?_⟩
  obtain ⟨b, off, rfl, hcell⟩ := hc hp
  refine ⟨b, off, rfl, fun j hj => ?_⟩
  rw [← hcell j hj]
  exact World.cell?_of_block (w := W) (hs b rfl (cell_lt (hcell j hj)))
theorem Sl.below {W W' : World} {v : Value} {l : List Value} (h : Sl W v l) (hb : Below W.heap.size W W') : Sl W' v l :=
  h.same fun b _ hlt => hb.block b hlt
theorem Sl.alloc {W : World} {v : Value} {l : List Value} (h : Sl W v l) (o : Obj) : Sl (W.alloc o) v l := h.below ((Below.refl _ _).alloc (Nat.le_refl _) o)
theorem Sl.src {P : Program} {W : World} {T e : TypeId} {v : Value} {l : List Value} (h : Sl W v l) (ht : P.underlying T = some (.slice e)) (h1 : ∀ u ∈ l, u.oneCell' = true) : Src P 1 T v l.length l W := by
  obtain ⟨a, c, rfl, hm, hc⟩ := h
  by_cases h0 : 0 < l.length
  · obtain ⟨b, off, rfl, hcell⟩ := hc h0
    refine Src.ofSlice _ ht _ _ _ _ (by simp) (fun j u hj => ?_) h1
    obtain ⟨hjl, rfl⟩ := List.getElem?_eq_some_iff.1 hj
    have := hcell j hjl
    simpa [Addr.add_lit] using this
  · have : l = [] := List.eq_nil_of_length_eq_zero (by omega)
    subst this
    cases a with
    | none => exact Src.ofNil _ ht _
    | some a => exact Src.ofSlice _ ht _ _ _ _ (by simp) (fun j u hj => by simp at hj) (by simp)
theorem Sl.of_owns {W : World} {base n : Nat} {e : TypeId} {v : Value} {l : List Value} (h : W.ownsRow base e 1 v n l) (hm : l.length ≤ 9223372036854775807) : Sl W v l := by
  have hn : l.length = n := by have := h.1; simpa using this
  subst hn
  rcases h.2 with ⟨rfl, h0⟩ | ⟨g, cap, cur, rfl, _, hg, hnc, _, hcs, htake⟩
  · exact ⟨none, 0, by rw [h0], hm, fun hp => by omega⟩
  · refine ⟨_, cap, rfl, hm, fun _ => ⟨g, 0, rfl, fun j hj => ?_⟩⟩
    have := h.cells (g := g) rfl j l[j] (by simp [hj])
    simpa [Addr.add_lit] using this
theorem owns_mono {w : World} {base base' : Nat} {e : TypeId} {size : Nat} {v : Value} {n : Nat} {xs : List Value} (h : w.ownsRow base e size v n xs) (hb : base' ≤ base) : w.ownsRow base' e size v n xs := by
  obtain ⟨h1, h2⟩ := h
  exact ⟨h1, h2.imp id fun ⟨g, cap, cur, hv, hg, r⟩ => ⟨g, cap, cur, hv, Nat.le_trans hb hg, r⟩⟩
/-- a slice of whole numbers that came in -/
theorem sl_open {H : Type} {enc : TypeId × Value → H} {P : Program} {w : World} {T e : TypeId} {k : IntKind} (ht : P.underlying T = some (.slice e)) (he : P.underlying e = some (.int k)) (hc1 : P.cellsOf e = 1)
    {x : Option Addr} {len cap : Nat} {d : DataW H} {ps : List MemPlace} (h : DataW.Trod enc P w 0 (fun _ => true) true T (.slice x len cap) d ps) :
    ∃ zs : List Int, zs.length = len ∧ len ≤ maxLen ∧ Sl w (.slice x len cap) (zs.map (Value.int k)) ∧ (∀ n ∈ zs, (Lit.int k n).wf = true) ∧ ((len = 0) ∨ ∃ a b, d = .slice a b ∧ a.length = len) := by
  obtain ⟨fuel, hf⟩ := h
  have e : (Value.slice x len cap).cells.toList = [.slice x len cap] := rfl
  rw [e] at hf
  rcases open_ints ht he hc1 hf with ⟨hcs, hx⟩ | ⟨a, len', cap', zs, hcs, _, hl, hm, hz, hx, hcell, hwz⟩
  · cases hcs
    exact ⟨[], rfl, Nat.zero_le _, Sl.nil _, by simp, .inl rfl⟩
  · cases hcs
    simp only [if_true] at hz
    have hml : maxLen ≤ 9223372036854775807 := by decide
    have hlz : (zs.take len).length = len := by simp; omega
    refine ⟨zs.take len, hlz, by omega, ⟨some a, cap, by simp; omega, by simp; omega, fun h0 => ?_⟩, fun n hn => hwz n (List.mem_of_mem_take hn), .inr ?_⟩
    · simp at h0
      have h1 := hcell 0 (by omega)
      have hs0 := World.cell?_spot h1
      obtain ⟨b, off, spot⟩ := a
      have : spot = none := by cases spot <;> simp_all [Addr.add]
      subst this
      refine ⟨b, off, rfl, fun j hj => ?_⟩
      have hj2 : j < len := by simp at hj; omega
      have hc := hcell j (by omega)
      rw [← add_plain, hc]
      simp [List.getD, List.getElem?_eq_getElem (show j < zs.length by omega)]
    · obtain ⟨hx1, _⟩ := Prod.mk.inj hx
      exact ⟨_, _, hx1, by simp [lits]; omega⟩
end Go.Proofs.Ytkpeelhanmekdaa
