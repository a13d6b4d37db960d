/- Who is left when a node is lost: plain facts; the state of ties.Lost's loops. -/
import Derived.Test.YtkpeelhanmekdaaD2
import Derived.Test.YtkpeelhanmekdaaC5
namespace Go.Proofs.Ytkpeelhanmekdaa
set_option linter.unusedVariables false
set_option linter.unusedSimpArgs false
set_option linter.constructorNameAsVariable false
open Go.Shelf Go.RowKit Go.Lib Go.Proofs
set_option maxRecDepth 100000

theorem inj_of_nodup {α β : Type} {f : α → β} : ∀ {l : List α}, (l.map f).Nodup → ∀ {x y : α}, x ∈ l → y ∈ l → f x = f y → x = y
  | a :: l, h, x, y, hx, hy, e => by
    rw [List.map_cons, List.nodup_cons] at h
    rcases List.mem_cons.1 hx with h1 | h1
    · rcases List.mem_cons.1 hy with h2 | h2
      · rw [h1, h2]
      · exact absurd (by rw [← h1, e]; exact List.mem_map_of_mem h2) h.1
    · rcases List.mem_cons.1 hy with h2 | h2
      · exact absurd (by rw [← h2, ← e]; exact List.mem_map_of_mem h1) h.1
      · exact inj_of_nodup h.2 h1 h2 e
open Classical in
noncomputable def leftL (nd : Nat) (L ds : List Idd) : List Idd := L.filter fun x => decide (¬ (x.node = nd ∧ x ∈ ds))
open Classical in
noncomputable def leftM (nd : Nat) (M ds : List (Idd × Idd)) : List (Idd × Idd) := M.filter fun q => decide (¬ (q.2.node = nd ∧ q ∈ ds))
def hereL (nd : Nat) (L : List Idd) : List Idd := L.filter fun x => decide (x.node = nd)
def hereM (nd : Nat) (M : List (Idd × Idd)) : List (Idd × Idd) := M.filter fun q => decide (q.2.node = nd)
def awayL (nd : Nat) (L : List Idd) : List Idd := L.filter fun x => decide (¬ x.node = nd)
def awayM (nd : Nat) (M : List (Idd × Idd)) : List (Idd × Idd) := M.filter fun q => decide (¬ q.2.node = nd)
theorem leftL_nil (nd : Nat) (L : List Idd) : leftL nd L [] = L := by
  unfold leftL
  rw [List.filter_eq_self]
  simp
theorem leftM_nil (nd : Nat) (M : List (Idd × Idd)) : leftM nd M [] = M := by
  unfold leftM
  rw [List.filter_eq_self]
  simp
open Classical in
theorem leftL_step {nd : Nat} {L ds : List Idd} {x : Idd} (h : x.node = nd) : dropL (leftL nd L ds) x = leftL nd L (ds ++ [x]) := by
  unfold dropL leftL
  rw [List.filter_filter]
  apply List.filter_congr
  intro y _
  rw [← Bool.decide_and]
  apply decide_eq_decide.2
  rw [List.mem_append, List.mem_singleton]
  constructor
  · rintro ⟨h1, h2⟩ ⟨h3, h4 | h4⟩
    · exact h2 ⟨h3, h4⟩
    · exact h1 h4
  · intro h1
    exact ⟨fun e => h1 ⟨e ▸ h, .inr e⟩, fun h2 => h1 ⟨h2.1, .inl h2.2⟩⟩
theorem leftL_skip {nd : Nat} {L ds : List Idd} {x : Idd} (h : ¬ x.node = nd) : leftL nd L (ds ++ [x]) = leftL nd L ds := by
  unfold leftL
  apply List.filter_congr
  intro y _
  apply decide_eq_decide.2
  rw [List.mem_append, List.mem_singleton]
  constructor
  · intro h1 h2
    exact h1 ⟨h2.1, .inl h2.2⟩
  · rintro h1 ⟨h2, h3 | h3⟩
    · exact h1 ⟨h2, h3⟩
    · exact h (h3 ▸ h2)
theorem leftL_done {nd : Nat} {L ds : List Idd} (h : ds.Perm L) : leftL nd L ds = awayL nd L := by
  unfold leftL awayL
  apply List.filter_congr
  intro y hy
  apply decide_eq_decide.2
  have := h.mem_iff.2 hy
  constructor
  · intro h1 h2
    exact h1 ⟨h2, this⟩
  · intro h1 h2
    exact h1 h2.1
open Classical in
theorem leftM_step {nd : Nat} {M ds : List (Idd × Idd)} {x : Idd × Idd} (hnd : (M.map (·.1)).Nodup) (hx : x ∈ M) (h : x.2.node = nd) : dropM (leftM nd M ds) x.1 = leftM nd M (ds ++ [x]) := by
  unfold dropM leftM
  rw [List.filter_filter]
  apply List.filter_congr
  intro y hy
  rw [← Bool.decide_and]
  apply decide_eq_decide.2
  rw [List.mem_append, List.mem_singleton]
  constructor
  · rintro ⟨h1, h2⟩ ⟨h3, h4 | h4⟩
    · exact h2 ⟨h3, h4⟩
    · exact h1 (by rw [h4])
  · intro h1
    refine ⟨fun e => ?_, fun h2 => h1 ⟨h2.1, .inl h2.2⟩⟩
    have : y = x := inj_of_nodup hnd hy hx e
    subst this
    exact h1 ⟨h, .inr rfl⟩
theorem leftM_skip {nd : Nat} {M ds : List (Idd × Idd)} {x : Idd × Idd} (h : ¬ x.2.node = nd) : leftM nd M (ds ++ [x]) = leftM nd M ds := by
  unfold leftM
  apply List.filter_congr
  intro y _
  apply decide_eq_decide.2
  rw [List.mem_append, List.mem_singleton]
  constructor
  · intro h1 h2
    exact h1 ⟨h2.1, .inl h2.2⟩
  · rintro h1 ⟨h2, h3 | h3⟩
    · exact h1 ⟨h2, h3⟩
    · exact h (h3 ▸ h2)
theorem leftM_done {nd : Nat} {M ds : List (Idd × Idd)} (h : ds.Perm M) : leftM nd M ds = awayM nd M := by
  unfold leftM awayM
  apply List.filter_congr
  intro y hy
  apply decide_eq_decide.2
  have := h.mem_iff.2 hy
  constructor
  · intro h1 h2
    exact h1 ⟨h2, this⟩
  · intro h1 h2
    exact h1 h2.1
theorem leftL_sub {nd : Nat} {L ds : List Idd} {x : Idd} (h : x ∈ leftL nd L ds) : x ∈ L := (List.mem_filter.1 h).1
theorem leftM_sub {nd : Nat} {M ds : List (Idd × Idd)} {x : Idd × Idd} (h : x ∈ leftM nd M ds) : x ∈ M := (List.mem_filter.1 h).1
theorem hereL_in {nd : Nat} {ds : List Idd} {x : Idd} (h : x.node = nd) : (hereL nd (ds ++ [x])).length = (hereL nd ds).length + 1 := by
  simp [hereL, h]
theorem hereL_out {nd : Nat} {ds : List Idd} {x : Idd} (h : ¬ x.node = nd) : (hereL nd (ds ++ [x])).length = (hereL nd ds).length := by
  simp [hereL, h]
theorem hereM_in {nd : Nat} {ds : List (Idd × Idd)} {x : Idd × Idd} (h : x.2.node = nd) : (hereM nd (ds ++ [x])).length = (hereM nd ds).length + 1 := by
  simp [hereM, h]
theorem hereM_out {nd : Nat} {ds : List (Idd × Idd)} {x : Idd × Idd} (h : ¬ x.2.node = nd) : (hereM nd (ds ++ [x])).length = (hereM nd ds).length := by
  simp [hereM, h]
theorem hereL_le (nd : Nat) (ds : List Idd) : (hereL nd ds).length ≤ ds.length := List.length_filter_le _ _
theorem hereM_le (nd : Nat) (ds : List (Idd × Idd)) : (hereM nd ds).length ≤ ds.length := List.length_filter_le _ _
theorem hereL_perm {nd : Nat} {a b : List Idd} (h : a.Perm b) : (hereL nd a).length = (hereL nd b).length := (h.filter _).length_eq
theorem hereM_perm {nd : Nat} {a b : List (Idd × Idd)} (h : a.Perm b) : (hereM nd a).length = (hereM nd b).length := (h.filter _).length_eq

theorem OutSt.turned {B : Nat} {S : Nat → Prop} {v0 : Value} {W2 : World} {sgs : List (Array Value)} {n : Nat} {v : Value} {wr w' : World} {m : Nat} (h : OutSt B S v0 W2 sgs n v wr) (ht : wr.mapTurned w' m) (hS : S m) (hm : m < B) : OutSt B S v0 W2 sgs n v w' :=
  ⟨h.len, row_same h.row (fun b e hl => turned_block ht b hl (fun e2 => by have := (h.row.lt b e).1; omega)), h.turn.andThen ⟨ht.grown.os, ht.grown.tape, ht.grown.output, ht.grown.size, fun i hi hn => turned_block ht i hi hn⟩ (fun i e => .inl (.inr (e ▸ hS))), h.own⟩
theorem TiesAt.keep4 {w w' : World} {p ml mm mt : Nat} {me : Idd} {L : List Idd} {M T : List (Idd × Idd)} (h : TiesAt w p ml mm mt me L M T) (h0 : w'.heap[p]? = w.heap[p]?) (h1 : w'.heap[ml]? = w.heap[ml]?) (h2 : w'.heap[mm]? = w.heap[mm]?) (h3 : w'.heap[mt]? = w.heap[mt]?) : TiesAt w' p ml mm mt me L M T :=
  ⟨h0.trans h.cells, h.links.block h1, h.mine.block h2, h.theirs.block h3, h.ne1, h.ne2, h.ne3, h.okL, h.okM, h.okT, h.okme⟩
/-- at a round's head: q signals, and what ties are left -/
structure LostAt (p ml mm mt : Nat) (me : Idd) (B : Nat) (v0 : Value) (W2 : World) (q : Nat) (v : Value) (L : List Idd) (M T : List (Idd × Idd)) (wr : World) : Prop where
  out : ∃ sgs, OutSt B (TS ml mm mt) v0 W2 sgs q v wr
  ties : TiesAt wr p ml mm mt me L M T
  lp : p < B
  ll : ml < B
  lm : mm < B
  lt : mt < B
section
variable {p ml mm mt : Nat} {me : Idd} {B : Nat} {v0 : Value} {W2 : World} {q : Nat} {v : Value} {L L' : List Idd} {M M' T T' : List (Idd × Idd)} {wr w' X : World}
theorem LostAt.below (h : LostAt p ml mm mt me B v0 W2 q v L M T wr) (hb : Below wr.heap.size wr w') : LostAt p ml mm mt me B v0 W2 q v L M T w' := by
  obtain ⟨sgs, ho⟩ := h.out
  exact ⟨⟨sgs, ho.below hb⟩, h.ties.below hb, h.lp, h.ll, h.lm, h.lt⟩
theorem LostAt.delL (h : LostAt p ml mm mt me B v0 W2 q v L M T wr) (hm : mapAt w' ml (L'.map lv)) (ht : wr.mapTurned w' ml) (hok : ∀ x ∈ L', IdOk x) : LostAt p ml mm mt me B v0 W2 q v L' M T w' := by
  obtain ⟨sgs, ho⟩ := h.out
  exact ⟨⟨sgs, ho.turned ht (.inl rfl) h.ll⟩, h.ties.setL hm ht hok, h.lp, h.ll, h.lm, h.lt⟩
theorem LostAt.delM (h : LostAt p ml mm mt me B v0 W2 q v L M T wr) (hm : mapAt w' mm (M'.map pv)) (ht : wr.mapTurned w' mm) (hok : ∀ q ∈ M', IdOk q.1 ∧ IdOk q.2) : LostAt p ml mm mt me B v0 W2 q v L M' T w' := by
  obtain ⟨sgs, ho⟩ := h.out
  exact ⟨⟨sgs, ho.turned ht (.inr (.inl rfl)) h.lm⟩, h.ties.setM hm ht hok, h.lp, h.ll, h.lm, h.lt⟩
theorem LostAt.delT (h : LostAt p ml mm mt me B v0 W2 q v L M T wr) (hm : mapAt w' mt (T'.map pv)) (ht : wr.mapTurned w' mt) (hok : ∀ q ∈ T', IdOk q.1 ∧ IdOk q.2) : LostAt p ml mm mt me B v0 W2 q v L M T' w' := by
  obtain ⟨sgs, ho⟩ := h.out
  exact ⟨⟨sgs, ho.turned ht (.inr (.inr rfl)) h.lt⟩, h.ties.setT hm ht hok, h.lp, h.ll, h.lm, h.lt⟩
theorem LostAt.app {sgs : List (Array Value)} (h : LostAt p ml mm mt me B v0 W2 q v L M T wr) (h0 : OutSt B (TS ml mm mt) v0 W2 sgs q v wr) (hb : Below wr.heap.size wr X) {cs : Array Value} {a : Option Addr} {c : Nat}
    (ho : w'.ownsRow B 47 20 (.slice a (q + 1) c) (q + 1) (cat sgs ++ cs.toList)) (hg : X.grownBy w' v.ownBlock) (hl : (Value.slice a (q + 1) c).ownBlock = v.ownBlock ∨ (Value.slice a (q + 1) c).ownBlock = some X.heap.size) :
    LostAt p ml mm mt me B v0 W2 (q + 1) (.slice a (q + 1) c) L M T w' := by
  have hkeep : ∀ b, b < wr.heap.size → b < B → w'.heap[b]? = wr.heap[b]? := fun b h1 h2 => (hg.block b (Nat.lt_of_lt_of_le h1 hb.size) (fun e => by have := (h0.row.lt b e.symm).1; omega)).trans (hb.block b h1)
  exact ⟨⟨_, h0.app hb ho hg hl⟩, h.ties.keep4 (hkeep p h.ties.lt h.lp) (hkeep ml h.ties.links.lt h.ll) (hkeep mm h.ties.mine.lt h.lm) (hkeep mt h.ties.theirs.lt h.lt), h.lp, h.ll, h.lm, h.lt⟩
end
end Go.Proofs.Ytkpeelhanmekdaa
