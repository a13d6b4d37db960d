/- A mailbox in memory; a message more: the queue's put. -/
import Derived.Test.YtoipepppdaalpaaM6
import Derived.OneCell
namespace Go.Proofs.Ytoipepppdaalpaa
open Go.RowKit
attribute [local go_sem] run_store_complex

/-- messages' cells, one behind the other -/
def flat (ms : List Int) : List Value := ms.flatMap fun n => (tmC 1 n).toList
theorem flat_len (ms : List Int) : (flat ms).length = ms.length * 9 := by
  induction ms with
  | nil => rfl
  | cons m ms ih =>
    have : (flat (m :: ms)).length = 9 + (flat ms).length := by simp [flat]; omega
    rw [this, ih]
    simp
    omega
theorem flat_snoc (ms : List Int) (n : Int) : flat (ms ++ [n]) = flat ms ++ (tmC 1 n).toList := by simp [flat]
/-- the mailbox at p: its row is v, the messages ms, so many of them passed over -/
structure BoxAt (B : Nat) (w : World) (p : Nat) (v : Value) (ms : List Int) (over : Nat) : Prop where
  base : B ≤ p
  cells : w.heap[p]? = some (.cells #[v, .int .i64 over] 49 (0, 0))
  owns : w.ownsRow B 35 9 v ms.length (flat ms)
  apart : v.ownBlock ≠ some p
  form : ∃ a c, v = .slice a ms.length c
theorem BoxAt.lt {B : Nat} {w : World} {p : Nat} {v : Value} {ms : List Int} {over : Nat} (h : BoxAt B w p v ms over) : p < w.heap.size := lt_of_block h.cells
theorem BoxAt.c0 {B : Nat} {w : World} {p : Nat} {v : Value} {ms : List Int} {over : Nat} (h : BoxAt B w p v ms over) : w.cell? ⟨p, 0, none⟩ = some v := by simp [World.cell?, h.cells]
theorem BoxAt.c1 {B : Nat} {w : World} {p : Nat} {v : Value} {ms : List Int} {over : Nat} (h : BoxAt B w p v ms over) : w.cell? ⟨p, 1, none⟩ = some (.int .i64 over) := by simp [World.cell?, h.cells]
theorem BoxAt.fz {B : Nat} {w : World} {p : Nat} {v : Value} {ms : List Int} {over : Nat} (h : BoxAt B w p v ms over) (o : Nat) : w.frozen? ⟨p, o, none⟩ = false := by simp [World.frozen?, h.cells]
theorem BoxAt.keep {B : Nat} {w w' : World} {p : Nat} {v : Value} {ms : List Int} {over : Nat} (h : BoxAt B w p v ms over) (hs : ∀ i, i = p ∨ v.ownBlock = some i → w'.heap[i]? = w.heap[i]?) : BoxAt B w' p v ms over := by
  refine ⟨h.base, by rw [hs p (.inl rfl)]; exact h.cells, ?_, h.apart, h.form⟩
  obtain ⟨h1, h2⟩ := h.owns
  refine ⟨h1, h2.imp id fun ⟨g, cap, cur, hv, hg, hh, r⟩ => ⟨g, cap, cur, hv, hg, ?_, r⟩⟩
  rw [hs g (.inr (by rw [hv]; rfl)), hh]
theorem BoxAt.below {B : Nat} {w w' : World} {p : Nat} {v : Value} {ms : List Int} {over : Nat} (h : BoxAt B w p v ms over) (hb : Below w.heap.size w w') : BoxAt B w' p v ms over :=
  h.keep fun i hi => hb.block i (by
    rcases hi with rfl | hi
    · exact h.lt
    · exact (h.owns.lt i hi).2)
theorem infoT : (Try.prog.info? 35).map (fun i => (i.zero, i.size, i.bytes)) = some (some (tm 0 0), 9, 120) := by kernel_rfl
end Go.Proofs.Ytoipepppdaalpaa
