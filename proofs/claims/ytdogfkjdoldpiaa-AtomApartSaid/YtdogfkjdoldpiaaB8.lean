/- A list of names handed in: what memory holds. -/
import Derived.Test.YtdogfkjdoldpiaaB7
import Derived.Test.YtdogfkjdoldpiaaL3
import Derived.SliceStrings
namespace Go.Proofs.Ytdogfkjdoldpiaa
open Go.RowKit Go.ChangeShapes Go.WideShapes

theorem strs_open {H : Type} {enc : TypeId × Value → H} {w : World} {x : Option Addr} {len cap : Nat} {d : DataW H} {ps : List MemPlace}
    (h : DataW.Trod enc Try.prog w 0 (fun _ => true) true 24 (.slice x len cap) d ps) : ∃ l, Strs w (.slice x len cap) l ∧ ∀ s ∈ l, s.size ≤ maxLen := by
  obtain ⟨fuel, hf⟩ := h
  rcases open_strings Try.underlying24 Try.underlying9 (by kernel_rfl) hf with ⟨hcs, _⟩ | ⟨a, len', cap', ss, hcs, _, hl, hm, hz, _, hcell, hsz⟩
  · have e : (Value.slice x len cap).cells.toList = [.slice x len cap] := rfl
    rw [e] at hcs
    cases hcs
    exact ⟨[], Strs.nil w, by simp⟩
  · have e : (Value.slice x len cap).cells.toList = [.slice x len cap] := rfl
    rw [e] at hcs
    cases hcs
    rw [if_pos rfl] at hz
    have hlen : (ss.take len).length = len := by simp; omega
    have hml : maxLen ≤ 9223372036854775807 := by decide
    refine ⟨ss.take len, ⟨some a, cap, by rw [hlen], by omega, fun h0 => ?_⟩, fun s hs => hsz s (List.mem_of_mem_take hs)⟩
    have h1 := hcell 0 (by omega)
    have hs0 := World.cell?_spot h1
    obtain ⟨b, off, spot⟩ := a
    have : spot = none := by cases spot <;> simp_all [Addr.add]
    subst this
    refine ⟨b, off, rfl, fun j hj => ?_⟩
    have hj2 : j < ss.length := by omega
    have := hcell j hj2
    simp only [Addr.add_lit, List.getElem_take] at this ⊢
    rw [this]
    simp [List.getD_eq_getElem?_getD, hj2]
end Go.Proofs.Ytdogfkjdoldpiaa
