/- Several texts in one. -/
import Derived.Test.YtgadkiljnebicaaD30
namespace Go.Proofs.Ytgadkiljnebicaa
open Go.Lib (hid)
open Go.RowKit
set_option maxRecDepth 100000
def RPT (ba : Option Addr) (bl bc : Nat) (n0 : Option Addr) (nm0 : List ByteArray) (W : World) (r : Except Int (Tm × St)) (e : Ending) (w' : World) : Prop :=
 match r with
 | .ok (t,s') => ∃ (na : Option Addr) (nc : Nat) (c : Array Value),e = .returned (.tuple #[stV ba bl bc s'.i s'.n na s'.names.length nc 0,.agg c]) ∧ Strs w' (.slice na s'.names.length nc) s'.names ∧ Below W.heap.size W w' ∧ Rep w' (fun b => W.heap.size ≤ b) t c ∧ (na = n0 ∧ s'.names = nm0 ∨ ∀ b,(Value.slice na s'.names.length nc).ownBlock = some b → W.heap.size ≤ b)
 | .error x => ∃ (i n : Int) (na : Option Addr) (nl nc : Nat) (q0 q1 : Int) (q2 q3 : Nat) (q4 : ByteArray) (q5 q6 q7 : Int) (q8 : Option Addr) (q9 q10 : Nat) (q11 : Option Addr) (q12 q13 : Nat),
   e = .returned (.tuple #[stV ba bl bc i n na nl nc x,.agg #[.int .i64 q0,.int .i64 q1,.complex .f64 q2 q3,.string q4,.int .i64 q5,.int .u32 q6,.int .u64 q7,.slice q8 q9 q10,.slice q11 q12 q13]]) ∧ Below W.heap.size W w'
theorem bsz {w w' : World} {X : Nat} (hN : w.heap.size = X) (h : Below X w w') : X ≤ w'.heap.size := hN ▸ h.size
abbrev set9 (w : World) (b : Nat) (d0 d1 d2 d3 d4 d5 d6 d7 d8 : Value) : World := (((set5 w b d0 d1 d2 d3 d4).setCell ⟨b,5,none⟩ d5).setCell ⟨b,6,none⟩ d6).setCell ⟨b,7,none⟩ d7 |>.setCell ⟨b,8,none⟩ d8
theorem nine_set {w : World} {b : Nat} {c0 c1 c2 c3 c4 c5 c6 c7 c8 d0 d1 d2 d3 d4 d5 d6 d7 d8 : Value} {t : TypeId} (h : w.heap[b]? = some (.cells #[c0,c1,c2,c3,c4,c5,c6,c7,c8] t (0,0))) :
  (set9 w b d0 d1 d2 d3 d4 d5 d6 d7 d8).heap[b]? = some (.cells #[d0,d1,d2,d3,d4,d5,d6,d7,d8] t (0,0)) := by
 simp only [set9,set5]
 have a0 : (w.setCell ⟨b,0,none⟩ d0).heap[b]? = some (.cells #[d0,c1,c2,c3,c4,c5,c6,c7,c8] t (0,0)) := heap_setCell_at h
 generalize w.setCell ⟨b,0,none⟩ d0 = x0 at *
 have a1 : (x0.setCell ⟨b,1,none⟩ d1).heap[b]? = some (.cells #[d0,d1,c2,c3,c4,c5,c6,c7,c8] t (0,0)) := heap_setCell_at a0
 generalize x0.setCell ⟨b,1,none⟩ d1 = x1 at *
 have a2 : (x1.setCell ⟨b,2,none⟩ d2).heap[b]? = some (.cells #[d0,d1,d2,c3,c4,c5,c6,c7,c8] t (0,0)) := heap_setCell_at a1
 generalize x1.setCell ⟨b,2,none⟩ d2 = x2 at *
 have a3 : (x2.setCell ⟨b,3,none⟩ d3).heap[b]? = some (.cells #[d0,d1,d2,d3,c4,c5,c6,c7,c8] t (0,0)) := heap_setCell_at a2
 generalize x2.setCell ⟨b,3,none⟩ d3 = x3 at *
 have a4 : (x3.setCell ⟨b,4,none⟩ d4).heap[b]? = some (.cells #[d0,d1,d2,d3,d4,c5,c6,c7,c8] t (0,0)) := heap_setCell_at a3
 generalize x3.setCell ⟨b,4,none⟩ d4 = x4 at *
 have a5 : (x4.setCell ⟨b,5,none⟩ d5).heap[b]? = some (.cells #[d0,d1,d2,d3,d4,d5,c6,c7,c8] t (0,0)) := heap_setCell_at a4
 generalize x4.setCell ⟨b,5,none⟩ d5 = x5 at *
 have a6 : (x5.setCell ⟨b,6,none⟩ d6).heap[b]? = some (.cells #[d0,d1,d2,d3,d4,d5,d6,c7,c8] t (0,0)) := heap_setCell_at a5
 generalize x5.setCell ⟨b,6,none⟩ d6 = x6 at *
 have a7 : (x6.setCell ⟨b,7,none⟩ d7).heap[b]? = some (.cells #[d0,d1,d2,d3,d4,d5,d6,d7,c8] t (0,0)) := heap_setCell_at a6
 generalize x6.setCell ⟨b,7,none⟩ d7 = x7 at *
 have a8 : (x7.setCell ⟨b,8,none⟩ d8).heap[b]? = some (.cells #[d0,d1,d2,d3,d4,d5,d6,d7,d8] t (0,0)) := heap_setCell_at a7
 generalize x7.setCell ⟨b,8,none⟩ d8 = x8 at *
 exact a8
theorem nine_turn (w : World) (b : Nat) (d0 d1 d2 d3 d4 d5 d6 d7 d8 : Value) : Turn (fun i => i = b) w (set9 w b d0 d1 d2 d3 d4 d5 d6 d7 d8) :=
 ((((five_turn w b d0 d1 d2 d3 d4).trans (Turn.setCell _ b 5 d5)).trans (Turn.setCell _ b 6 d6)).trans (Turn.setCell _ b 7 d7)).trans (Turn.setCell _ b 8 d8)
theorem heap_new3 {w : World} {o1 o2 o3 : Obj} : (((w.alloc o1).alloc o2).alloc o3).heap[w.heap.size]? = some o1 ∧ (((w.alloc o1).alloc o2).alloc o3).heap[w.heap.size + 1]? = some o2 ∧ (((w.alloc o1).alloc o2).alloc o3).heap[w.heap.size + 1 + 1]? = some o3 ∧ Below w.heap.size w (((w.alloc o1).alloc o2).alloc o3) :=
 ⟨(Below.heap_alloc _ _ _ (by simp; omega)).trans ((Below.heap_alloc _ _ _ (by simp)).trans (heap_new w _)),(Below.heap_alloc _ _ _ (by simp)).trans (heap_new_at (by simp)),heap_new_at (by simp),(((Below.refl w.heap.size w).alloc (Nat.le_refl _) _).alloc (by simp) _).alloc (by simp; omega) _⟩
theorem Strs.same' {W W' : World} {v : Value} {l : List ByteArray} (h : Strs W v l) (hs : 0 < l.length → ∀ b,v.ownBlock = some b → b < W.heap.size → W'.heap[b]? = W.heap[b]?) : Strs W' v l := by
 obtain ⟨a,c,rfl,hm,hc⟩ := h
 refine ⟨a,c,rfl,hm,fun hp => ?_⟩
 obtain ⟨b,off,rfl,hcell⟩ := hc hp
 refine ⟨b,off,rfl,fun j hj => ?_⟩
 rw [← hcell j hj]
 exact World.cell?_of_block (w := W) (hs hp b rfl (cell_lt (hcell j hj)))
theorem Strs.lt {W : World} {v : Value} {l : List ByteArray} (h : Strs W v l) (hp : 0 < l.length) {b : Nat} (e : v.ownBlock = some b) : b < W.heap.size := by
 obtain ⟨a,c,rfl,hm,hc⟩ := h
 obtain ⟨b2,off,rfl,hcell⟩ := hc hp
 cases e
 exact cell_lt (hcell 0 hp)
theorem names_apart {w : World} {na na' : Option Addr} {nc nc' X T : Nat} {l l' : List ByteArray} (h : Strs w (.slice na l.length nc) l) (hX : w.heap.size = X) (hc : na' = na ∧ l' = l ∨ ∀ b,(Value.slice na' l'.length nc').ownBlock = some b → T < b) : 0 < l'.length → ∀ b,(Value.slice na' l'.length nc').ownBlock = some b → b < X ∨ T < b := by
 intro hp b e
 rcases hc with ⟨h1,h2⟩ | hc
 ·subst h1 h2
  left
  have e2 : (Value.slice na' l'.length nc).ownBlock = some b := by cases na' <;> exact e
  have := h.lt hp e2
  omega
 ·exact .inr (hc b e)
end Go.Proofs.Ytgadkiljnebicaa
