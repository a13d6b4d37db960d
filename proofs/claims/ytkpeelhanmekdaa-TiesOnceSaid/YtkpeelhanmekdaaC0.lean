/- What has been met of a map; rows of structs. -/
import Derived.Test.YtkpeelhanmekdaaB3
import Derived.Test.YtkpeelhanmekdaaB5
import Derived.Test.YtkpeelhanmekdaaA1
import Derived.RangeFuncBox
namespace Go.Proofs.Ytkpeelhanmekdaa
set_option linter.unusedVariables false
set_option linter.unusedSimpArgs false
set_option linter.constructorNameAsVariable false
open Go.Shelf Go.RowKit Go.Lib Go.Proofs
set_option maxRecDepth 100000

/-- the library's sort, some elements -/
def SortTold : Prop := ∀ (blk cap : Nat) (l : List U) (w : World), Sort.HoldsK encU 3 w blk 0 l.toArray → blk < w.heap.size → l.length < 4611686018427387904 →
  Calls Try.prog 30 #[.slice (some ⟨blk, 0, none⟩) l.length cap, .func (.func 31) #[] #[]] w fun e w' => e = .returned (.tuple #[]) ∧ ∃ (l' : List U) (n : Nat) (os : Array Obj), l'.Perm l ∧ w' = sortWorldK encU 3 w blk 0 n l'.toArray os
/-- the library's sort, none -/
def NoneTold : Prop := ∀ (p : Option Addr) (cap : Nat) (fv : Value) (w : World), Calls Try.prog 30 #[.slice p 0 cap, fv] w fun e w' => e = .returned (.tuple #[]) ∧ w = w'
/-- these have been met; left says which have not -/
structure SoFar (l : List (Idd × Value)) (left : Lit → Bool) (ids : List Idd) : Prop where
  sub : ∀ x ∈ ids, x ∈ l.map (·.1)
  nd : ids.Nodup
  is : ∀ kl, left kl = true ↔ ∃ x, x ∈ l.map (·.1) ∧ x ∉ ids ∧ kl = keyI x
theorem SoFar.start {D : DataW Value} {l : List (Idd × Value)} (h : MapIs D l) : SoFar l (Maps.has D) [] :=
  ⟨by simp, by simp, fun kl => by rw [h.has]; exact ⟨fun ⟨x, h1, h2⟩ => ⟨x, h1, by simp, h2⟩, fun ⟨x, h1, _, h2⟩ => ⟨x, h1, h2⟩⟩⟩
theorem same_keyI (x y : Idd) : (keyI x).sameKey (keyI y) = true ↔ keyI x = keyI y := by
  constructor
  · exact WideAt.sameKey_eq
  · intro e
    rw [e]
    exact WideAt.sameKey_self (isKeyI y)
theorem SoFar.step {l : List (Idd × Value)} {left : Lit → Bool} {ids : List Idd} (hin : ∀ p ∈ l, IdIn p.1) (h : SoFar l left ids) {key : Value} {kl : Lit} (hk : keyOf Try.prog 31 key = some kl) (hl : left kl = true) :
    ∃ x, key = idV x ∧ x ∈ l.map (·.1) ∧ SoFar l (fun z => left z && !z.sameKey kl) (ids ++ [x]) := by
  obtain ⟨x, hx, hn, rfl⟩ := (h.is kl).1 hl
  have hin' : ∀ y ∈ l.map (·.1), IdIn y := fun y hy => by
    obtain ⟨p, hp, rfl⟩ := List.mem_map.1 hy
    exact hin p hp
  refine ⟨x, lawI.inj hk (keyOfI (hin' x hx)), hx, ?_, ?_, fun kl => ?_⟩
  · intro y hy
    rcases List.mem_append.1 hy with hy | hy
    · exact h.sub y hy
    · rw [List.mem_singleton] at hy
      exact hy ▸ hx
  · rw [List.nodup_append]
    exact ⟨h.nd, by simp, fun a ha b hb e => by rw [List.mem_singleton] at hb; exact hn (hb ▸ e ▸ ha)⟩
  · rw [Bool.and_eq_true, h.is]
    constructor
    · rintro ⟨⟨y, hy, hyn, rfl⟩, hs⟩
      refine ⟨y, hy, fun hm => ?_, rfl⟩
      rcases List.mem_append.1 hm with hm | hm
      · exact hyn hm
      · rw [List.mem_singleton] at hm
        subst hm
        have := (same_keyI y y).2 rfl
        rw [this] at hs
        cases hs
    · rintro ⟨y, hy, hyn, rfl⟩
      refine ⟨⟨y, hy, fun hm => hyn (List.mem_append_left _ hm), rfl⟩, ?_⟩
      cases hs : (keyI y).sameKey (keyI x) with
      | false => rfl
      | true => exact absurd (keyI_inj (hin' y hy) (hin' x hx) ((same_keyI y x).1 hs)) (fun e => hyn (by simp [e]))
theorem perm_of_same : ∀ {a b : List Idd}, a.Nodup → b.Nodup → (∀ x, x ∈ a ↔ x ∈ b) → a.Perm b := by
  classical
  intro a b ha hb h
  exact (List.perm_ext_iff_of_nodup ha hb).2 h
theorem SoFar.done {l : List (Idd × Value)} {left : Lit → Bool} {ids : List Idd} (h : SoFar l left ids) (hnd : (l.map (·.1)).Nodup) (hno : ∀ kl, left kl = false) : ids.Perm (l.map (·.1)) := by
  refine perm_of_same h.nd hnd fun x => ⟨h.sub x, fun hx => ?_⟩
  by_cases hm : x ∈ ids
  · exact hm
  · have := (h.is (keyI x)).2 ⟨x, hx, hm, rfl⟩
    rw [hno] at this
    cases this
theorem row_base {w : World} {base base' e size n : Nat} {v : Value} {xs : List Value} (h : w.ownsRow base e size v n xs) (hb : base' ≤ base) : w.ownsRow base' e size v n xs := by
  obtain ⟨h1, h2⟩ := h
  exact ⟨h1, h2.imp id fun ⟨g, cap, cur, hv, hg, r⟩ => ⟨g, cap, cur, hv, by omega, r⟩⟩
theorem row_below {w w' : World} {base e size n : Nat} {v : Value} {xs : List Value} (h : w.ownsRow base e size v n xs) (hb : Below w.heap.size w w') : w'.ownsRow base e size v n xs := row_same h (fun b _ hl => hb.block b hl)
theorem grown_below {B base : Nat} {w w1 w2 : World} {e size n : Nat} {v : Value} {xs : List Value} {o : Obj} (hb : Below B w w1) (hB : B ≤ w1.heap.size) (ho : w1.ownsRow base e size v n xs) (hbase : B ≤ base) (hg : (w1.alloc o).grownBy w2 v.ownBlock) : Below B w w2 :=
  (hb.alloc hB o).trans ⟨hg.os, hg.tape, hg.output, hg.size, fun i hi => hg.block i (by simp; omega) (fun e => by have := (ho.lt i e.symm).1; omega)⟩
theorem src_new {P : Program} {tx e' size : Nat} (hk : P.underlying tx = some (.slice e')) (cs : Array Value) (hs : cs.size = size) (t : TypeId) (h1 : ∀ u ∈ cs.toList, u.oneCell' = true) (w : World) : Src P size tx (.slice (some ⟨w.heap.size, 0, none⟩) 1 1) 1 cs.toList (w.alloc (.cells cs t)) := by
  refine Src.ofSlice _ hk _ _ _ _ (by simp [hs]) (fun j u h => ?_) h1
  simp only [Addr.add_lit, World.cell?, heap_new, Nat.zero_add]
  simpa using h
theorem infoId : (Try.prog.info? 31).map (fun i => (i.zero, i.size, i.bytes)) = some (some (.agg #[.int .i64 0, .int .u32 0, .int .u64 0]), 3, 24) := by kernel_rfl
/-- a map's iterator stays while a row grows -/
theorem ranges_row {w w' : World} {P : Program} {k : TypeId} {R : Value → Option (DataW Value × List MemPlace)} {b r n cnt : Nat} {D : DataW Value} {left : Lit → Bool} {base e size m : Nat} {v : Value} {xs : List Value} {o : Obj} (h : w.ranges P k R b r n D left cnt) (ho : w.ownsRow base e size v m xs) (hg : (w.alloc o).grownBy w' v.ownBlock) : w'.ranges P k R b r n D left cnt := by
  have hne : ∀ g, v.ownBlock = some g → ∃ cs t fr, w.heap[g]? = some (.cells cs t fr) := by
    intro g hv
    rcases ho.2 with ⟨rfl, _⟩ | ⟨g', cap, cur, rfl, _, hh, _⟩
    · cases hv
    · cases hv
      exact ⟨_, _, _, hh⟩
  refine (h.alloc o).kept hg (fun e => ?_) (fun e => ?_)
  · obtain ⟨cs, t, fr, hc⟩ := hne b e.symm
    obtain ⟨es, clock, since, seen, c0, hb, _⟩ := h
    rw [hb] at hc
    cases hc
  · obtain ⟨cs, t, fr, hc⟩ := hne r e.symm
    obtain ⟨es, clock, since, seen, c0, hb, F, hs, hD, hr, _⟩ := h
    rw [hr] at hc
    cases hc
/-- a row stays while a map's iterator goes on -/
theorem row_iter {w w' : World} {P : Program} {k : TypeId} {R : Value → Option (DataW Value × List MemPlace)} {b r n cnt : Nat} {D : DataW Value} {left : Lit → Bool} {base e size m : Nat} {v : Value} {xs : List Value} (ho : w.ownsRow base e size v m xs) (h : w.ranges P k R b r n D left cnt) (hg : w.grownBy w' (some r)) : w'.ownsRow base e size v m xs := by
  rcases ho with ⟨h1, h2⟩
  refine ⟨h1, h2.imp id fun ⟨g, cap, cur, hv, hb, hh, rest⟩ => ⟨g, cap, cur, hv, hb, ?_, rest⟩⟩
  rw [hg.block g (Array.getElem?_eq_some_iff.1 hh).1 (fun e => ?_), hh]
  cases e
  obtain ⟨es, clock, since, seen, c0, hb, F, hs, hD, hr, _⟩ := h
  rw [hr] at hh
  cases hh
end Go.Proofs.Ytkpeelhanmekdaa
