/- What a call leaves as it was, and that it draws on: Below and Turn, with the draws counted. -/
import Derived.Test.YtkpeelhanmekdaaL0
import Derived.Sort.Grow
namespace Go.Proofs.Ytkpeelhanmekdaa.G
set_option linter.unusedVariables false
set_option linter.unusedSimpArgs false
set_option linter.constructorNameAsVariable false
open Go.RowKit

/-- as RowKit's Below, and no draw is taken back -/
structure Below (B : Nat) (w w' : World) : Prop where
  os : w'.os = w.os
  tape : w'.tape = w.tape
  output : w'.output = w.output
  size : w.heap.size ≤ w'.heap.size
  block : ∀ k, k < B → w'.heap[k]? = w.heap[k]?
  drawn : w.drawn ≤ w'.drawn
theorem Below.plain {B : Nat} {a b : World} (h : Below B a b) : RowKit.Below B a b := ⟨h.os, h.tape, h.output, h.size, h.block⟩
theorem Below.of {B : Nat} {a b : World} (h : RowKit.Below B a b) (hd : a.drawn ≤ b.drawn) : Below B a b := ⟨h.os, h.tape, h.output, h.size, h.block, hd⟩
theorem Below.refl (B : Nat) (w : World) : Below B w w := .of (RowKit.Below.refl B w) (Nat.le_refl _)
theorem Below.trans {B : Nat} {a b c : World} (h : Below B a b) (k : Below B b c) : Below B a c := .of (h.plain.trans k.plain) (Nat.le_trans h.drawn k.drawn)
theorem Below.mono {B B' : Nat} {w w' : World} (h : Below B w w') (hB : B' ≤ B) : Below B' w w' := .of (h.plain.mono hB) h.drawn
theorem Below.drew {B : Nat} {a w : World} (h : Below B a w) : Below B a w.drew := .of h.plain.drew (Nat.le_succ_of_le h.drawn)
theorem Below.alloc {B : Nat} {a w : World} (h : Below B a w) (hB : B ≤ w.heap.size) (o : Obj) : Below B a (w.alloc o) := .of (h.plain.alloc hB o) h.drawn
theorem Below.heap_alloc (w : World) (o : Obj) (k : Nat) (h : k < w.heap.size) : (w.alloc o).heap[k]? = w.heap[k]? := RowKit.Below.heap_alloc w o k h
theorem Below.heap_setCell (w : World) (a : Addr) (u : Value) (k : Nat) (h : k ≠ a.block) : (w.setCell a u).heap[k]? = w.heap[k]? := RowKit.Below.heap_setCell w a u k h
theorem Below.cell {B : Nat} {w w' : World} (h : Below B w w') {p : Addr} (hp : p.block < B) : w'.cell? p = w.cell? p := h.plain.cell hp
theorem Below.frozen {B : Nat} {w w' : World} (h : Below B w w') {p : Addr} (hp : p.block < B) : w'.frozen? p = w.frozen? p := h.plain.frozen hp
/-- It returns v, and nothing that was there has turned. -/
def RB (W : World) (v : Value) (e : Ending) (w' : World) : Prop := e = .returned v ∧ Below W.heap.size W w'
theorem RB.plain {W : World} {v : Value} {e : Ending} {w' : World} (h : RB W v e w') : Go.Proofs.Ytkpeelhanmekdaa.RB W v e w' := ⟨h.1, h.2.plain⟩
/-- the world has blocks more, and some were drawn -/
theorem Below.grown {w w' : World} (h : Below w.heap.size w w') : ∃ q os', w' = Sort.grow (w.drewN q) os' := by
  refine ⟨w'.drawn - w.drawn, w'.heap.extract w.heap.size w'.heap.size, ?_⟩
  obtain ⟨heap, tape, drawn, os, output⟩ := w
  obtain ⟨heap', tape', drawn', os', output'⟩ := w'
  obtain ⟨h1, h2, h3, h4, h5, h6⟩ := h
  simp only at h1 h2 h3 h4 h5 h6
  subst h1 h2 h3
  have hd : drawn' = drawn + (drawn' - drawn) := by omega
  suffices hh : heap' = heap ++ heap'.extract heap.size heap'.size by
    show World.mk heap' tape' drawn' os' output' = World.mk (heap ++ heap'.extract heap.size heap'.size) tape' (drawn + (drawn' - drawn)) os' output'
    rw [← hd, ← hh]
  apply Array.ext_getElem?
  intro k
  by_cases hk : k < heap.size
  · rw [h5 k hk, Array.getElem?_append_left hk]
  · rw [Array.getElem?_append_right (by omega), Array.getElem?_extract]
    by_cases hk2 : k < heap'.size
    · rw [if_pos (by omega)]
      congr 1
      omega
    · rw [if_neg (by omega), Array.getElem?_eq_none (by omega)]
/-- THE WORLD HAS TURNED AT THE BLOCKS OF S ALONE (and has new ones). -/
structure Turn (S : Nat → Prop) (w w' : World) : Prop where
  os : w'.os = w.os
  tape : w'.tape = w.tape
  output : w'.output = w.output
  size : w.heap.size ≤ w'.heap.size
  block : ∀ k, k < w.heap.size → ¬ S k → w'.heap[k]? = w.heap[k]?
  drawn : w.drawn ≤ w'.drawn
theorem Turn.trans {S : Nat → Prop} {a b c : World} (h : Turn S a b) (k : Turn S b c) : Turn S a c :=
  ⟨k.os.trans h.os, k.tape.trans h.tape, k.output.trans h.output, Nat.le_trans h.size k.size, fun i hi hn => (k.block i (Nat.lt_of_lt_of_le hi h.size) hn).trans (h.block i hi hn), Nat.le_trans h.drawn k.drawn⟩
theorem Turn.of_below {S : Nat → Prop} {a b : World} (h : Below a.heap.size a b) : Turn S a b := ⟨h.os, h.tape, h.output, h.size, fun i hi _ => h.block i hi, h.drawn⟩
theorem Turn.below {S : Nat → Prop} {a b : World} {B : Nat} (h : Turn S a b) (hB : B ≤ a.heap.size) (hS : ∀ i, S i → B ≤ i) : Below B a b :=
  ⟨h.os, h.tape, h.output, h.size, fun i hi => h.block i (by omega) fun hs => by have := hS i hs; omega, h.drawn⟩
theorem Turn.alloc (S : Nat → Prop) (w : World) (o : Obj) : Turn S w (w.alloc o) := .of_below ((Below.refl _ w).alloc (Nat.le_refl _) o)
theorem Turn.drew {S : Nat → Prop} {a b : World} (h : Turn S a b) : Turn S a b.drew := ⟨h.os, h.tape, h.output, h.size, h.block, Nat.le_succ_of_le h.drawn⟩
theorem Turn.setCell (w : World) (b o : Nat) (v : Value) : Turn (fun i => i = b) w (w.setCell ⟨b, o, none⟩ v) :=
  ⟨rfl, rfl, rfl, by simp [World.setCell], fun k _ hk => Below.heap_setCell _ _ _ _ hk, Nat.le_refl _⟩
theorem below_bytesWorld (w : World) (e : TypeId) (s : ByteArray) : Below w.heap.size w (Lib.bytesWorld w e s) := by
  refine .of (Go.Proofs.Ytkpeelhanmekdaa.below_bytesWorld w e s) ?_
  simp [Lib.bytesWorld, World.freeze, World.alloc, World.drew, -World.alloc_eq, -World.drew_eq]
end Go.Proofs.Ytkpeelhanmekdaa.G
