/- A message more: the queue's put. -/
import Derived.Test.YtoipepppdaalpaaM7
import Derived.Deep.AppendLies
import Derived.Deep.RegionLaw
import Derived.Lib.Hide
import Derived.RangeFuncBox
namespace Go.Proofs.Ytoipepppdaalpaa
open Go.RowKit
attribute [local go_sem] run_store_complex

abbrev zC : List Value := (tmC 0 0).toList
theorem put_below1 {w : World} {B p : Nat} {v : Value} {ms : List Int} {over : Nat} (h : BoxAt B w p v ms over) (o : Obj) : BoxAt B (w.alloc o) p v ms over := h.below ((Below.refl _ w).alloc (Nat.le_refl _) o)
theorem zero_there (w0 : World) : ∀ j u, zC[j]? = some u → (w0.alloc (.cells (tmC 0 0) 35)).drew.cell? ((⟨w0.heap.size, 0, none⟩ : Addr).add j) = some u := by
  intro j u h
  have hw : (w0.alloc (.cells (tmC 0 0) 35)).drew.heap[w0.heap.size]? = some (.cells (tmC 0 0) 35) := heap_new w0 _
  simp only [Addr.add_lit, World.cell?, hw, Nat.zero_add]
  simpa using h
theorem zC_one : ∀ u ∈ zC, u.oneCell' = true := by simp [Value.oneCell']
/-- behind the append -/
theorem put_mid {B : Nat} {W w1 : World} {p g cap : Nat} {v : Value} {ms : List Int} {over : Nat} (hx : BoxAt B W p v ms over) (hown : w1.ownsRow B 35 9 (.slice (some ⟨g, 0, none⟩) (ms.length + 1) cap) (ms.length + 1) (flat ms ++ zC)) (hg : W.grownBy w1 v.ownBlock) {H : Nat} (hat : v.ownBlock = some g ∨ g = H) (hH : W.heap.size = H) :
    (∀ j, (hj : j < 9) → w1.cell? ⟨g, ms.length * 9 + j, none⟩ = some (zC[j]'hj)) ∧ (∀ j, w1.frozen? ⟨g, ms.length * 9 + j, none⟩ = false) ∧ w1.cell? ⟨p, 0, none⟩ = some v ∧ w1.frozen? ⟨p, 0, none⟩ = false ∧ g ≠ p ∧ w1.heap[p]? = W.heap[p]? := by
  have hgp : g ≠ p := by
    rcases hat with h | h
    · intro e; subst e; exact hx.apart h
    · have := hx.lt; omega
  clear hat hH
  have hb : w1.heap[p]? = W.heap[p]? := hg.block p hx.lt (fun e => hx.apart e.symm)
  refine ⟨fun j hj => ?_, fun j => hown.frozenAt _, ?_, ?_, hgp, hb⟩
  · rw [hown.cellAt _ (by omega), List.getElem?_append_right (by rw [flat_len]; omega), flat_len]
    simp [show ms.length * 9 + j - ms.length * 9 = j by omega, List.getElem?_eq_getElem (show j < zC.length from hj)]
  · rw [World.cell?_of_block (w := W) hb]; exact hx.c0
  · simp [World.frozen?, hb, hx.cells]
def ZAt (w : World) (g o : Nat) : Prop := w.cell? ⟨g, o, none⟩ = some (.int .i64 0) ∧ w.cell? ⟨g, o + 1, none⟩ = some (.int .i64 0) ∧ w.cell? ⟨g, o + 2, none⟩ = some (.complex .f64 0 0) ∧ w.cell? ⟨g, o + 3, none⟩ = some (.string ⟨#[]⟩) ∧
  w.cell? ⟨g, o + 4, none⟩ = some (.int .i64 0) ∧ w.cell? ⟨g, o + 5, none⟩ = some (.int .u32 0) ∧ w.cell? ⟨g, o + 6, none⟩ = some (.int .u64 0) ∧ w.cell? ⟨g, o + 7, none⟩ = some (.slice none 0 0) ∧ w.cell? ⟨g, o + 8, none⟩ = some (.slice none 0 0)
theorem ZAt.of {w : World} {g o : Nat} (h : ∀ j, (hj : j < 9) → w.cell? ⟨g, o + j, none⟩ = some (zC[j]'hj)) : ZAt w g o :=
  ⟨h 0 (by decide), h 1 (by decide), h 2 (by decide), h 3 (by decide), h 4 (by decide), h 5 (by decide), h 6 (by decide), h 7 (by decide), h 8 (by decide)⟩
/-- a term's nine cells stored -/
abbrev nine (w : World) (g o : Nat) (n : Int) : World :=
  ((((((((w.setCell ⟨g, o, none⟩ (.int .i64 1)).setCell ⟨g, o + 1, none⟩ (.int .i64 n)).setCell ⟨g, o + 2, none⟩ (.complex .f64 0 0)).setCell ⟨g, o + 3, none⟩ (.string ⟨#[]⟩)).setCell ⟨g, o + 4, none⟩ (.int .i64 0)).setCell ⟨g, o + 5, none⟩ (.int .u32 0)).setCell ⟨g, o + 6, none⟩ (.int .u64 0)).setCell ⟨g, o + 7, none⟩ (.slice none 0 0)).setCell ⟨g, o + 8, none⟩ (.slice none 0 0)
theorem nine_turn (w : World) (g o : Nat) (n : Int) : Turn (fun i => i = g) w (nine w g o n) :=
  ((((((((Turn.setCell w g o _).trans (Turn.setCell _ g _ _)).trans (Turn.setCell _ g _ _)).trans (Turn.setCell _ g _ _)).trans (Turn.setCell _ g _ _)).trans (Turn.setCell _ g _ _)).trans (Turn.setCell _ g _ _)).trans (Turn.setCell _ g _ _)).trans (Turn.setCell _ g _ _)
theorem set_nine (F : List Value) (L : Nat) (n : Int) (h : F.length = L) :
    (((((((((F ++ zC).set L (.int .i64 1)).set (L + 1) (.int .i64 n)).set (L + 2) (.complex .f64 0 0)).set (L + 3) (.string ⟨#[]⟩)).set (L + 4) (.int .i64 0)).set (L + 5) (.int .u32 0)).set (L + 6) (.int .u64 0)).set (L + 7) (.slice none 0 0)).set (L + 8) (.slice none 0 0) = F ++ (tmC 1 n).toList := by
  subst h
  simp [List.set_append_right]
  rfl
theorem nine_owns {w : World} {B g cap : Nat} {ms : List Int} (n : Int) (h : w.ownsRow B 35 9 (.slice (some ⟨g, 0, none⟩) (ms.length + 1) cap) (ms.length + 1) (flat ms ++ zC)) :
    (nine w g (ms.length * 9) n).ownsRow B 35 9 (.slice (some ⟨g, 0, none⟩) (ms.length + 1) cap) (ms.length + 1) (flat (ms ++ [n])) := by
  have := ((((((((h.stored (ms.length * 9) (.int .i64 1)).1.stored (ms.length * 9 + 1) (.int .i64 n)).1.stored (ms.length * 9 + 2) (.complex .f64 0 0)).1.stored (ms.length * 9 + 3) (.string ⟨#[]⟩)).1.stored (ms.length * 9 + 4) (.int .i64 0)).1.stored (ms.length * 9 + 5) (.int .u32 0)).1.stored (ms.length * 9 + 6) (.int .u64 0)).1.stored (ms.length * 9 + 7) (.slice none 0 0)).1.stored (ms.length * 9 + 8) (.slice none 0 0)
  rw [set_nine _ _ _ (flat_len ms), ← flat_snoc] at this
  exact this.1
/-- the box behind a put, once its two parts are known -/
theorem put_box {B p g cap : Nat} {ms : List Int} {over : Nat} {n : Int} {F : World} (hp : B ≤ p) (hgp : g ≠ p) (hc : F.heap[p]? = some (.cells #[.slice (some ⟨g, 0, none⟩) (ms.length + 1) cap, .int .i64 over] 49 (0, 0)))
    (ho : F.ownsRow B 35 9 (.slice (some ⟨g, 0, none⟩) (ms.length + 1) cap) (ms.length + 1) (flat (ms ++ [n]))) : BoxAt B F p (.slice (some ⟨g, 0, none⟩) (ms.length + 1) cap) (ms ++ [n]) over :=
  ⟨hp, hc, by rw [List.length_append]; exact ho, by simp [Value.ownBlock, hgp], ⟨_, _, by rw [List.length_append]; rfl⟩⟩
theorem put_turn {w w0 w1 F : World} {p g b : Nat} {a : Option Addr} {c m : Nat} (hb : w.heap.size = b) (hT : Turn (fun i => i = p ∨ (Value.slice a m c).ownBlock = some i) w w0) (o : Obj) (hG : (w0.alloc o).drew.grownBy w1 (Value.slice a m c).ownBlock)
    (hg : (Value.slice a m c).ownBlock = some g ∨ w.heap.size ≤ g) (hF : Turn (fun i => i = g ∨ i = p) w1 F) : Turn (fun i => i = p ∨ (Value.slice a m c).ownBlock = some i) w F := by
  have h1 : Turn (fun i => i = p ∨ (Value.slice a m c).ownBlock = some i) w (w0.alloc o).drew := (hT.trans (Turn.alloc _ w0 o)).drew
  have h2 := h1.andThen (Turn.of_grownBy hG) (fun i e => .inl (.inr e))
  exact h2.andThen hF (fun i e => by
    rcases e with rfl | rfl
    · exact hg.imp .inr id
    · exact .inl (.inl rfl))
theorem put_fin1 {B p g cap over b : Nat} {a : Option Addr} {c : Nat} {ms : List Int} {n : Int} {w w0 w1 : World} (hx : BoxAt B w0 p (.slice a ms.length c) ms over) (hb : w.heap.size = b) (hT : Turn (fun i => i = p ∨ (Value.slice a ms.length c).ownBlock = some i) w w0)
    (hg : (Value.slice a ms.length c).ownBlock = some g ∨ w.heap.size ≤ g)
    (ho : w1.ownsRow B 35 9 (.slice (some ⟨g, 0, none⟩) (ms.length + 1) cap) (ms.length + 1) (flat ms ++ zC)) (hG : (w0.alloc (.cells (tmC 0 0) 35)).drew.grownBy w1 (Value.slice a ms.length c).ownBlock)
    (hpb : w1.heap[p]? = (w0.alloc (.cells (tmC 0 0) 35)).drew.heap[p]?) (hgp : g ≠ p) :
    BoxAt B ((nine w1 g (ms.length * 9) n).setCell ⟨p, 0, none⟩ (.slice (some ⟨g, 0, none⟩) (ms.length + 1) cap)) p (.slice (some ⟨g, 0, none⟩) (ms.length + 1) cap) (ms ++ [n]) over ∧
      Turn (fun i => i = p ∨ (Value.slice a ms.length c).ownBlock = some i) w ((nine w1 g (ms.length * 9) n).setCell ⟨p, 0, none⟩ (.slice (some ⟨g, 0, none⟩) (ms.length + 1) cap)) := by
  have hc1 : w1.heap[p]? = some (.cells #[.slice a ms.length c, .int .i64 over] 49 (0, 0)) := by
    rw [hpb]
    exact ((put_below1 hx (.cells (tmC 0 0) 35)).below (Below.refl _ _).drew).cells
  have hlt : p < w1.heap.size := (Array.getElem?_eq_some_iff.1 hc1).1
  have hc2 : (nine w1 g (ms.length * 9) n).heap[p]? = some (.cells #[.slice a ms.length c, .int .i64 over] 49 (0, 0)) := ((nine_turn w1 g (ms.length * 9) n).block p hlt (fun e => hgp e.symm)).trans hc1
  refine ⟨put_box hx.base hgp ?_ ?_, put_turn hb hT _ hG hg ?_⟩
  · rw [heap_setCell_same _ p 0 _ _ _ hc2]
    rfl
  · exact ownsRow_setCell_other (nine_owns n ho) (by simp [Value.ownBlock, hgp]) _
  · exact (Turn.mono (nine_turn w1 g (ms.length * 9) n) (fun i _ e => .inl e)).trans (Turn.mono (Turn.setCell _ p 0 _) (fun i _ e => .inr e))
theorem put_fin2 {B p g cap over b : Nat} {a : Option Addr} {c : Nat} {ms : List Int} {n : Int} {w w0 w1 : World} (hx : BoxAt B w0 p (.slice a ms.length c) ms over) (hb : w.heap.size = b) (hT : Turn (fun i => i = p ∨ (Value.slice a ms.length c).ownBlock = some i) w w0)
    (hg : (Value.slice a ms.length c).ownBlock = some g ∨ w.heap.size ≤ g)
    (ho : w1.ownsRow B 35 9 (.slice (some ⟨g, 0, none⟩) (ms.length + 1) cap) (ms.length + 1) (flat ms ++ zC)) (hG : (w0.alloc (.cells (tmC 0 0) 35)).drew.grownBy w1 (Value.slice a ms.length c).ownBlock)
    (hpb : w1.heap[p]? = (w0.alloc (.cells (tmC 0 0) 35)).drew.heap[p]?) (hgp : g ≠ p) :
    BoxAt B (nine (w1.setCell ⟨p, 0, none⟩ (.slice (some ⟨g, 0, none⟩) (ms.length + 1) cap)) g (ms.length * 9) n) p (.slice (some ⟨g, 0, none⟩) (ms.length + 1) cap) (ms ++ [n]) over ∧
      Turn (fun i => i = p ∨ (Value.slice a ms.length c).ownBlock = some i) w (nine (w1.setCell ⟨p, 0, none⟩ (.slice (some ⟨g, 0, none⟩) (ms.length + 1) cap)) g (ms.length * 9) n) := by
  have hc1 : w1.heap[p]? = some (.cells #[.slice a ms.length c, .int .i64 over] 49 (0, 0)) := by
    rw [hpb]
    exact ((put_below1 hx (.cells (tmC 0 0) 35)).below (Below.refl _ _).drew).cells
  have hlt : p < w1.heap.size := (Array.getElem?_eq_some_iff.1 hc1).1
  have ho2 : (w1.setCell ⟨p, 0, none⟩ (.slice (some ⟨g, 0, none⟩) (ms.length + 1) cap)).ownsRow B 35 9 (.slice (some ⟨g, 0, none⟩) (ms.length + 1) cap) (ms.length + 1) (flat ms ++ zC) :=
    ownsRow_setCell_other ho (by simp [Value.ownBlock, hgp]) _
  refine ⟨put_box hx.base hgp ?_ (nine_owns n ho2), put_turn hb hT _ hG hg ?_⟩
  · rw [(nine_turn _ g (ms.length * 9) n).block p (by simp [World.setCell]; exact hlt) (fun e => hgp e.symm), heap_setCell_same _ p 0 _ _ _ hc1]
    rfl
  · exact (Turn.mono (Turn.setCell w1 p 0 _) (fun i _ e => .inr e)).trans (Turn.mono (nine_turn _ g (ms.length * 9) n) (fun i _ e => .inl e))
end Go.Proofs.Ytoipepppdaalpaa
