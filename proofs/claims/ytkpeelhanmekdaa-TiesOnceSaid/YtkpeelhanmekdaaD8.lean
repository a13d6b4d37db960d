/- TiesOnce: its state in memory. -/
import Derived.Test.YtkpeelhanmekdaaD6
import Derived.Test.YtkpeelhanmekdaaD7
import Derived.Test.YtkpeelhanmekdaaL4
import Derived.Laws.OwnMore
namespace Go.Proofs.Ytkpeelhanmekdaa
set_option linter.unusedVariables false
set_option linter.unusedSimpArgs false
set_option linter.constructorNameAsVariable false
open Go.Shelf Go.RowKit Go.Lib Go.Proofs
set_option maxRecDepth 100000

theorem infoB : (Try.prog.info? 4).map (fun i => (i.zero, i.size, i.bytes)) = some (some (.bool false), 1, 1) := by kernel_rfl
theorem id_as (x : Idd) (hx : x.boot = 1) (node n : Int) (h1 : node = x.node) (h2 : n = x.n) (w : World) : Calls Try.prog 6 #[.int .i64 node, .int .u64 n] w (RB w (idV x)) := by
  obtain ⟨a, b, c⟩ := x
  have hb : b = 1 := hx
  subst hb h1 h2
  exact id_any _ _ w
/-- all below x -/
def below (x : Nat) : Nat → Bool := fun y => decide (y < x)
theorem bits_none (n : Nat) : bits (below 0) n = List.replicate n (.bool false) := by
  unfold bits below
  rw [List.eq_replicate_iff]
  refine ⟨by simp, fun b hb => ?_⟩
  obtain ⟨i, _, rfl⟩ := List.mem_map.1 hb
  simp
theorem bits_on {n x : Nat} (h : x < n) : (bits (below x) n).set x (.bool true) = bits (below (x + 1)) n := by
  apply List.ext_getElem?
  intro y
  rw [List.getElem?_set, bits_len]
  by_cases h : y < n
  · rw [bits_get _ h, bits_get _ h]
    unfold below
    by_cases hx : x = y
    · subst hx
      simp [h]
    · simp only [hx, if_false]
      rw [decide_eq_decide.2 (show y < x ↔ y < x + 1 by omega)]
  · have : ∀ lf : Nat → Bool, (bits lf n)[y]? = none := fun lf => List.getElem?_eq_none (by rw [bits_len]; omega)
    rw [this, this]
    by_cases hx : x = y
    · subst hx
      simp [h]
    · simp [hx]
/-- the law's ties and its slice, since w -/
structure LawAt (w : World) (p ml mm mt G n3 : Nat) (lf : Nat → Bool) (L : List Idd) (M T : List (Idd × Idd)) (wr : World) : Prop where
  below : Below w.heap.size w wr
  row : wr.ownsRow w.heap.size 4 1 (.slice (some ⟨G, 0, none⟩) n3 n3) n3 (bits lf n3)
  ties : TiesAt wr p ml mm mt ⟨1, 1, 1⟩ L M T
  new : ∀ b, TS ml mm mt b → w.heap.size ≤ b
  apart : ¬ TS ml mm mt G
  gp : G ≠ p
section
variable {w wr w' : World} {p ml mm mt G n3 : Nat} {lf : Nat → Bool} {L L' : List Idd} {M M' T T' : List (Idd × Idd)}
theorem LawAt.glt (h : LawAt w p ml mm mt G n3 lf L M T wr) : w.heap.size ≤ G ∧ G < wr.heap.size := h.row.lt G rfl
theorem LawAt.quiet (h : LawAt w p ml mm mt G n3 lf L M T wr) (hb : Below wr.heap.size wr w') : LawAt w p ml mm mt G n3 lf L M T w' :=
  ⟨h.below.trans (hb.mono h.below.size), row_below h.row hb, h.ties.below hb, h.new, h.apart, h.gp⟩
theorem LawAt.turned (h : LawAt w p ml mm mt G n3 lf L M T wr) (ht : TiesAt w' p ml mm mt ⟨1, 1, 1⟩ L' M' T') (hb : Turn (TS ml mm mt) wr w') : LawAt w p ml mm mt G n3 lf L' M' T' w' :=
  ⟨h.below.trans (hb.below h.below.size h.new), row_same h.row (fun b e hl => hb.block b hl (fun t => h.apart (by cases e; exact t))), ht, h.new, h.apart, h.gp⟩
theorem LawAt.cell (h : LawAt w p ml mm mt G n3 lf L M T wr) {x : Nat} (hx : x < n3) : wr.cell? ⟨G, x, none⟩ = some (.bool (lf x)) := by
  have := h.row.cells (g := G) rfl x (.bool (lf x)) (bits_get lf hx)
  simpa [Addr.add_lit] using this
theorem LawAt.set {lf' : Nat → Bool} (h : LawAt w p ml mm mt G n3 lf L M T wr) (x : Nat) (b : Bool) (hb : (bits lf n3).set x (.bool b) = bits lf' n3) : LawAt w p ml mm mt G n3 lf' L M T (wr.setCell ⟨G, x, none⟩ (.bool b)) := by
  have hm : ∀ b, TS ml mm mt b → b ≠ G := fun b e e2 => h.apart (e2 ▸ e)
  refine ⟨h.below.setCell h.glt.1 _, ?_, h.ties.keep4 (Below.heap_setCell _ _ _ _ (fun e => h.gp e.symm)) (Below.heap_setCell _ _ _ _ (hm _ (.inl rfl))) (Below.heap_setCell _ _ _ _ (hm _ (.inr (.inl rfl)))) (Below.heap_setCell _ _ _ _ (hm _ (.inr (.inr rfl)))), h.new, h.apart, h.gp⟩
  rw [← hb]
  exact (h.row.stored x (.bool b)).1
theorem LawAt.alloc (h : LawAt w p ml mm mt G n3 lf L M T wr) (o : Obj) : LawAt w p ml mm mt G n3 lf L M T (wr.alloc o) := h.quiet ((Below.refl _ _).alloc (Nat.le_refl _) o)
theorem LawAt.frozen (h : LawAt w p ml mm mt G n3 lf L M T wr) (x : Nat) : wr.frozen? ⟨G, x, none⟩ = false := h.row.frozenAt x
end
theorem fresh {f : Nat → Idd} (hf : ∀ i j, f i = f j → i = j) (i : Nat) : f i ∉ (List.range i).map f := fun h => by
  obtain ⟨j, hj, e⟩ := List.mem_map.1 h
  have := hf _ _ e
  have := List.mem_range.1 hj
  omega
theorem range_snoc {α : Type} (f : Nat → α) (i : Nat) : (List.range i).map f ++ [f i] = (List.range (i + 1)).map f := by
  rw [List.range_succ, List.map_append]
  rfl
end Go.Proofs.Ytkpeelhanmekdaa
