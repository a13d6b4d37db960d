/- General laws, of no program: a range over a function, where the loop's body turns known blocks alone. -/
import Derived.Test.YtdogfkjdoldpiaaL1
import Derived.RangeFuncNested
import Derived.RangeFuncBound
import Derived.RangeFuncCalls
import Derived.RangeFuncLeaves
import Derived.Shelf.Abstract
import Derived.Shelf.RegionOpen
import Derived.OwnWalkIn
import Derived.TacticsInMore
import Derived.LoopNIn
import Derived.LoopIn
namespace Go.Proofs.Ytdogfkjdoldpiaa
open Go.RowKit Go.Shelf

theorem run_equalIn_func_nil {P : Program} (w : World) (d : Nat) {t : TypeId} {ps rs : Array TypeId} {vr : Bool} (h : P.underlying t = some (.func ps rs vr)) (f : Fn) (a b : Array Value) :
    (Op.equalIn (d + 1) t (.func f a b) .nilFunc).run P w = .ok false w := by simp [Op.equalIn, run_underlying h]
/-- 'f == nil', f a function value -/
theorem run_eql_func_nil {P : Program} {t : TypeId} {ps rs : Array TypeId} {vr : Bool} (h : P.underlying t = some (.func ps rs vr)) (f : Fn) (a b : Array Value) (w : World) :
    (binOp .eql t (.func f a b) .nilFunc).run P w = .ok (.bool false) w := by
  simp only [binOp]
  simp [show Op.equal t (.func f a b) .nilFunc = Op.equalIn (9999 + 1) t (.func f a b) .nilFunc from rfl, run_equalIn_func_nil w 9999 h]

/-- how a round's body is left: it has turned the blocks of T alone -/
def rangePostT {α : Type} (T : Nat → Prop) (Pi : List α → World → Prop) (Px : Code → List α → World → Prop) (xs : List α) (W : World) : Exit → Act → World → Prop
  | .normal, _, W' => Turn T W W' ∧ Pi xs W'
  | .ret, _, W' => Turn T W W' ∧ Px .ret xs W'
  | .exit id, _, W' => Turn T W W' ∧ Px (.exit id) xs W'
  | .goto t, _, W' => Turn T W W' ∧ Px (.goto t) xs W'
  | .panic _, _, _ => False
  | .outgrown, _, _ => False
/-- it speaks of the blocks below B alone -/
def OldOnly {β : Type} (B : Nat) (Pi : β → World → Prop) : Prop := ∀ s (X Y : World), Pi s X → X.heap.size ≤ Y.heap.size → (∀ k, k < B → Y.heap[k]? = X.heap[k]?) → Pi s Y
theorem OldOnly.and {β : Type} {B : Nat} {p q : β → World → Prop} (h : OldOnly B p) (k : OldOnly B q) : OldOnly B (fun s W => p s W ∧ q s W) := fun s X Y hs h1 h2 => ⟨h s X Y hs.1 h1 h2, k s X Y hs.2 h1 h2⟩
theorem OldOnly.pure {β : Type} (B : Nat) (p : β → Prop) : OldOnly B (fun s _ => p s) := fun _ _ _ h _ _ => h
theorem OldOnly.boxed {β : Type} {B b : Nat} (hb : b < B) (t : TypeId) (f : β → Value) : OldOnly B (fun s W => Boxed W b t (f s)) := fun _ _ _ h _ h2 => (h2 b hb).trans h
theorem turn_ownFrom {β : Type} (T : Nat → Prop) (w : World) {Pi : β → World → Prop} (h : OldOnly w.heap.size Pi) : OwnFrom w.heap.size (fun s W => Turn T w W ∧ Pi s W) := by
  intro s W W' row hs hg hr
  have hk : ∀ k, k < w.heap.size → W'.heap[k]? = W.heap[k]? := fun k hk => by
    refine hg.block k (Nat.lt_of_lt_of_le hk hs.1.size) (fun e => ?_)
    have := (hr k e.symm).1
    omega
  exact ⟨⟨hg.os.trans hs.1.os, hg.tape.trans hs.1.tape, hg.output.trans hs.1.output, Nat.le_trans hs.1.size hg.size, fun k h1 h2 => (hk k h1).trans (hs.1.block k h1 h2)⟩, h s W W' hs.2 hg.size hk⟩
theorem Turn.keepsFrom {T : Nat → Prop} {A B : World} {n : Nat} (h : Turn T A B) (hT : ∀ i, T i → i < n) : KeepsFrom n A B :=
  ⟨h.size, fun k o hk ho _ => (h.block k (Array.getElem?_eq_some_iff.1 ho).1 (fun ht => by have := hT k ht; omega)).trans ho⟩
theorem wp_range {α : Type} {P : Program} {n : Nat} {g : Operand} {ps : Array Tmp} {assign body : Code} {Q : Exit → Act → World → Prop} {a : Act} {w : World} (h1 : 1 ≤ n)
    {gf : Nat} {lb : Array Value} (hg : a.eval g = .func (.func gf) #[] lb) (eg : ∀ args w, (callFunc gf args).run P w = .ok (.enter gf args) w)
    {encs : α → Array Value} {Kp : World → World → Prop} {S Sp : List α → Prop} {N : Nat} (hseq : SeqStopsK Fence.wide (n - 1) P gf lb encs Kp S Sp N w)
    (hKt : ∀ {A B C : World}, Kp A B → Kp B C → Kp A C) (hKb : ∀ (W : World) (l : Nat) (o o' : Obj), w.heap.size ≤ l → W.heap[l]? = some o → o.isCells = false → o.isWalk = false → Kp W (W.putObj l o')) (hps : ∀ x, (encs x).size = ps.size)
    (T : Nat → Prop) (hT : ∀ i, T i → i < w.heap.size) (hKT : ∀ A B, Turn T A B → Kp A B)
    (Pi : List α → World → Prop) (Px : Code → List α → World → Prop) (hPi : OldOnly w.heap.size Pi) (hPx : ∀ c, OldOnly w.heap.size (Px c)) (h0 : Pi [] w) (a₁ : α → Act)
    (hassign : ∀ (l : Nat) (x : α) (W : World) (K : Act → World → Prop), K (a₁ x) W →
      assign.wpIn (Fence.wide.inRound l) (n - 1 - 1) P (Exit.then K (fun _ _ _ => False)) { tmps := (ps.zip (encs x)).foldl (fun t (p, v) => t.setIfInBounds p v) a.tmps, defers := [] } W)
    (hbody : ∀ (l : Nat) (pre : List α) (x : α) (W : World), Turn T w W → Pi pre W → pre.length < N → body.wpIn (Fence.wide.inRound l) (n - 1 - 1) P (rangePostT T Pi Px (pre ++ [x]) W) (a₁ x) W)
    (hdone : ∀ (D : Nat) (xs : List α) (W : World), w.heap.size ≤ D → S xs → Turn T w W → Pi xs W → W.heap[D]? = some (.deferred (some [])) → Q .normal { a with defers := { target := .collected D, args := #[] } :: a.defers } W)
    (hstop : ∀ (D : Nat) (c : Code) (pre : List α) (W : World), w.heap.size ≤ D → Sp pre → Turn T w W → Px c pre W → W.heap[D]? = some (.deferred (some [])) → c.wpIn Fence.wide n P Q { a with defers := { target := .collected D, args := #[] } :: a.defers } W) :
    (Code.rangeFunc g ps assign body).wpIn Fence.wide n P Q a w := by
  refine wpIn_rangeFunc_ownG rfl h1 hg trivial eg hseq hKt hKb (Below.refl _ _) hps (fun pre W => Turn T w W ∧ Pi pre W) (fun c pre W => Turn T w W ∧ Px c pre W) (turn_ownFrom T w hPi) (fun c => turn_ownFrom T w (hPx c)) ⟨Turn.refl _ _, h0⟩ a₁ hassign ?_ ?_ ?_
  · rintro l pre x W ⟨ht, hp⟩ hl
    refine wpIn_mono (hbody l pre x W ht hp hl) ?_
    rintro e a3 W3 h3
    cases e with
    | normal => exact ⟨h3.1.keepsFrom hT, hKT _ _ h3.1, ht.trans h3.1, h3.2⟩
    | ret => exact ⟨h3.1.keepsFrom hT, ht.trans h3.1, h3.2⟩
    | exit id => exact ⟨h3.1.keepsFrom hT, ht.trans h3.1, h3.2⟩
    | goto t => exact ⟨h3.1.keepsFrom hT, ht.trans h3.1, h3.2⟩
    | panic c => exact h3.elim
    | outgrown => exact h3.elim
  · rintro D xs W hD hS ⟨ht, hp⟩ hK
    exact hdone D xs W hD hS ht hp hK
  · rintro D c pre W hD hS ⟨ht, hp⟩ hK
    exact hstop D c pre W hD hS ht hp hK
/-- the block for the rounds' deferred calls is taken: nothing else turns -/
theorem Turn.putObj {T : Nat → Prop} {w W : World} (h : Turn T w W) {D : Nat} (hD : w.heap.size ≤ D) (o : Obj) : Turn T w (W.putObj D o) :=
  ⟨h.os, h.tape, h.output, by simp; exact h.size, fun k hk hn => (World.putObj_heap_other (by omega)).trans (h.block k hk hn)⟩
theorem below_taken {w W : World} (h : Below w.heap.size w W) {D : Nat} (hD : w.heap.size ≤ D) (o : Obj) : Below w.heap.size w (W.putObj D o) :=
  ((Turn.of_below (S := fun _ => False) h).putObj hD o).below (Nat.le_refl _) (fun _ e => e.elim)
end Go.Proofs.Ytdogfkjdoldpiaa
