/- Signals in a row of their own, as ties.End and ties.Lost append them. -/
import Derived.Test.YtkpeelhanmekdaaC9
import Derived.Test.YtkpeelhanmekdaaD0
namespace Go.Proofs.Ytkpeelhanmekdaa
set_option linter.unusedVariables false
set_option linter.unusedSimpArgs false
set_option linter.constructorNameAsVariable false
open Go.Shelf Go.RowKit Go.Lib Go.Proofs
set_option maxRecDepth 100000

/-- a signal's cells, its term without parts -/
abbrev sgC (k : Int) (f t r : Idd) (tk tn : Int) (ts : ByteArray) (n : Int) : Array Value := #[.int .i64 k, .int .i64 f.node, .int .u32 f.boot, .int .u64 f.n, .int .i64 t.node, .int .u32 t.boot, .int .u64 t.n, .int .i64 r.node, .int .u32 r.boot, .int .u64 r.n, .int .i64 tk, .int .i64 tn, .complex .f64 0 0, .string ts, .int .i64 0, .int .u32 0, .int .u64 0, nilV, nilV, .int .u64 n]
abbrev sgZ : Array Value := #[.int .i64 0, .int .i64 0, .int .u32 0, .int .u64 0, .int .i64 0, .int .u32 0, .int .u64 0, .int .i64 0, .int .u32 0, .int .u64 0, .int .i64 0, .int .i64 0, .complex .f64 0 0, .string ⟨#[]⟩, .int .i64 0, .int .u32 0, .int .u64 0, nilV, nilV, .int .u64 0]
theorem infoSg : (Try.prog.info? 47).map (fun i => (i.zero, i.size, i.bytes)) = some (some (.agg sgZ), 20, 208) := by kernel_rfl
theorem sg_one (k : Int) (f t r : Idd) (tk tn : Int) (ts : ByteArray) (n : Int) : ∀ u ∈ (sgC k f t r tk tn ts n).toList, u.oneCell' = true := by simp [Value.oneCell']
/-- the row of signals, since W2: only its own block has turned, and what S says -/
structure OutSt (B : Nat) (S : Nat → Prop) (v0 : Value) (W2 : World) (sgs : List (Array Value)) (n : Nat) (v : Value) (wr : World) : Prop where
  len : sgs.length = n
  row : wr.ownsRow B 47 20 v n (cat sgs)
  turn : Turn (fun i => v0.ownBlock = some i ∨ S i) W2 wr
  own : ∀ g, v.ownBlock = some g → v0.ownBlock = some g ∨ W2.heap.size ≤ g
theorem OutSt.start {B : Nat} {S : Nat → Prop} {v0 : Value} {W2 : World} {sgs : List (Array Value)} {n : Nat} (hl : sgs.length = n) (h : W2.ownsRow B 47 20 v0 n (cat sgs)) : OutSt B S v0 W2 sgs n v0 W2 :=
  ⟨hl, h, Turn.refl _ _, fun _ e => .inl e⟩
theorem OutSt.below {B : Nat} {S : Nat → Prop} {v0 : Value} {W2 : World} {sgs : List (Array Value)} {n : Nat} {v : Value} {wr w' : World} (h : OutSt B S v0 W2 sgs n v wr) (hb : Below wr.heap.size wr w') : OutSt B S v0 W2 sgs n v w' :=
  ⟨h.len, row_below h.row hb, h.turn.trans (Turn.of_below hb), h.own⟩
theorem OutSt.app {B : Nat} {S : Nat → Prop} {v0 : Value} {W2 : World} {sgs : List (Array Value)} {n : Nat} {v : Value} {wr X w' : World} (h : OutSt B S v0 W2 sgs n v wr) (hb : Below wr.heap.size wr X) {cs : Array Value} {a : Option Addr} {c : Nat}
    (ho : w'.ownsRow B 47 20 (.slice a (n + 1) c) (n + 1) (cat sgs ++ cs.toList)) (hg : X.grownBy w' v.ownBlock) (hl : (Value.slice a (n + 1) c).ownBlock = v.ownBlock ∨ (Value.slice a (n + 1) c).ownBlock = some X.heap.size) :
    OutSt B S v0 W2 (sgs ++ [cs]) (n + 1) (.slice a (n + 1) c) w' := by
  refine ⟨by rw [List.length_append, h.len]; rfl, by rw [cat_snoc]; exact ho, ?_, fun g e => ?_⟩
  · have h1 : Turn (fun i => v0.ownBlock = some i ∨ S i) W2 X := h.turn.trans (Turn.of_below hb)
    refine h1.andThen (Turn.of_grownBy hg) fun i e => ?_
    rcases h.own i e with e2 | e2
    · exact .inl (.inl e2)
    · exact .inr e2
  · rcases hl with e2 | e2
    · exact h.own g (e2 ▸ e)
    · rw [e2] at e
      cases e
      exact .inr (Nat.le_trans h.turn.size hb.size)
/-- what has not turned -/
theorem OutSt.old {B : Nat} {S : Nat → Prop} {v0 : Value} {W2 : World} {sgs : List (Array Value)} {n : Nat} {v : Value} {wr : World} (h : OutSt B S v0 W2 sgs n v wr) {b : Nat} (hb : b < W2.heap.size) (hv : v0.ownBlock ≠ some b) (hs : ¬ S b) : wr.heap[b]? = W2.heap[b]? :=
  h.turn.block b hb fun e => e.elim hv hs
/-- a block that the row does not lie in -/
theorem OutSt.apart {B : Nat} {S : Nat → Prop} {v0 : Value} {W2 : World} {sgs : List (Array Value)} {n : Nat} {v : Value} {wr : World} (h : OutSt B S v0 W2 sgs n v wr) {b : Nat} (hb : b < B ∨ wr.heap.size ≤ b) : v.ownBlock ≠ some b := fun e => by
  have := h.row.lt b e
  omega
end Go.Proofs.Ytkpeelhanmekdaa
