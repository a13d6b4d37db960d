/- A walk through a pattern, in memory; term.Check of one part alone. -/
import Derived.Test.YtlgpdpadaknnaaaB1
import Derived.Test.YtlgpdpadaknnaaaA4
namespace Go.Proofs.Ytlgpdpadaknnaaa
open Go.RowKit Go.Maps
set_option maxRecDepth 100000
attribute [local go_sem] run_store_complex run_store_func' run_store_nilFunc'

theorem infoString : (Try.prog.info? 9).map (fun i => (i.zero, i.size, i.bytes)) = some (some (.string ByteArray.empty), 1, 16) := by kernel_rfl
theorem cx_neq (w : World) : (binOp .neq 24 (.complex .f64 0 0) (.complex .f64 0 0)).run Try.prog w = .ok (.bool false) w := by kernel_rfl
/-- BLOCK p HOLDS A look: so much was counted, the names l were met -/
structure Look (W : World) (p m : Nat) (v : Value) (n : Nat) (l : List ByteArray) : Prop where
  obj : W.heap[p]? = some (.cells #[.int .i64 n, v, .map (some m)] 57 (0, 0))
  map : setAt W m l.length l
  row : W.ownsRow 0 9 1 v l.length (l.map .string)
  nd : l.Nodup
  len : l.length ≤ 4096
  nle : n ≤ 4096
/-- the blocks of a look -/
def lookIn (p m : Nat) (v : Value) (i : Nat) : Prop := i = p ∨ i = m ∨ v.ownBlock = some i
theorem Look.lt {W : World} {p m : Nat} {v : Value} {n : Nat} {l : List ByteArray} (h : Look W p m v n l) : p < W.heap.size ∧ m < W.heap.size ∧ ∀ b, v.ownBlock = some b → b < W.heap.size := by
  refine ⟨(Array.getElem?_eq_some_iff.1 h.obj).1, h.map.lt, fun b e => ?_⟩
  rcases h.row.2 with ⟨rfl, _⟩ | ⟨g, cap, cur, rfl, hb, hg, r⟩
  · cases e
  · cases e; exact (Array.getElem?_eq_some_iff.1 hg).1
theorem Look.same {W W' : World} {p m : Nat} {v : Value} {n : Nat} {l : List ByteArray} (h : Look W p m v n l) (hs : ∀ i, lookIn p m v i → i < W.heap.size → W'.heap[i]? = W.heap[i]?) : Look W' p m v n l :=
  ⟨(hs p (.inl rfl) h.lt.1).trans h.obj, map_same h.map (hs m (.inr (.inl rfl)) h.lt.2.1), row_same h.row (fun b e hb => hs b (.inr (.inr e)) hb), h.nd, h.len, h.nle⟩
theorem Look.below {W W' : World} {p m : Nat} {v : Value} {n : Nat} {l : List ByteArray} (h : Look W p m v n l) (hb : Below W.heap.size W W') : Look W' p m v n l := h.same fun i _ hi => hb.block i hi
theorem Look.apart {W : World} {p m : Nat} {v : Value} {n : Nat} {l : List ByteArray} (h : Look W p m v n l) : p ≠ m ∧ v.ownBlock ≠ some p ∧ v.ownBlock ≠ some m := by
  have hm : ∃ es clock, W.heap[m]? = some (.map es clock) := by obtain ⟨es, clock, hb, _⟩ := h.map; exact ⟨es, clock, hb⟩
  obtain ⟨es, clock, hm⟩ := hm
  refine ⟨fun e => ?_, fun e => ?_, fun e => ?_⟩
  · subst e; rw [h.obj] at hm; cases hm
  · rcases h.row.2 with ⟨rfl, _⟩ | ⟨g, cap, cur, rfl, hb, hg, r⟩
    · cases e
    · cases e; rw [h.obj] at hg; cases hg
  · rcases h.row.2 with ⟨rfl, _⟩ | ⟨g, cap, cur, rfl, hb, hg, r⟩
    · cases e
    · cases e; rw [hm] at hg; cases hg
theorem Look.cells {W : World} {p m : Nat} {v : Value} {n : Nat} {l : List ByteArray} (h : Look W p m v n l) :
    W.cell? ⟨p, 0, none⟩ = some (.int .i64 n) ∧ W.cell? ⟨p, 1, none⟩ = some v ∧ W.cell? ⟨p, 2, none⟩ = some (.map (some m)) ∧ W.frozen? ⟨p, 0, none⟩ = false ∧ W.frozen? ⟨p, 1, none⟩ = false := by
  refine ⟨?_, ?_, ?_, ?_, ?_⟩ <;> simp [World.cell?, World.frozen?, h.obj]
/-- so much more was counted -/
theorem Look.count {W : World} {p m : Nat} {v : Value} {n : Nat} {l : List ByteArray} (h : Look W p m v n l) (k : Nat) (hk : k ≤ 4096) : Look (W.setCell ⟨p, 0, none⟩ (.int .i64 k)) p m v k l := by
  obtain ⟨a1, a2, a3⟩ := h.apart
  have ho : ∀ i, i ≠ p → (W.setCell ⟨p, 0, none⟩ (.int .i64 k)).heap[i]? = W.heap[i]? := fun i hi => Below.heap_setCell _ _ _ _ hi
  exact ⟨by rw [heap_setCell_at h.obj]; simp, map_same h.map (ho m (Ne.symm a1)), row_same h.row (fun b e _ => ho b (fun x => a2 (x ▸ e))), h.nd, h.len, hk⟩
/-- behind the store into the map -/
theorem Look.mapped {W W' : World} {p m : Nat} {v : Value} {n : Nat} {l : List ByteArray} (h : Look W p m v n l) (hg : W.grownBy W' (some m)) :
    W'.heap[p]? = some (.cells #[.int .i64 n, v, .map (some m)] 57 (0, 0)) ∧ W'.ownsRow 0 9 1 v l.length (l.map .string) := by
  have k0 := hg.block p h.lt.1 (by simp; exact h.apart.1)
  exact ⟨k0.trans h.obj, row_same h.row (fun b e hb => hg.block b hb (by rw [← e]; exact fun x => h.apart.2.2 x))⟩
theorem nodup_snoc {l : List ByteArray} {s : ByteArray} (h : l.Nodup) (hp : s ∉ l) : (l ++ [s]).Nodup := by
  rw [List.nodup_append]
  refine ⟨h, by simp, fun a ha b hb => ?_⟩
  rw [List.mem_singleton] at hb
  subst hb
  exact fun e => hp (e ▸ ha)
theorem kept_cell {w w' : World} {row : Option Nat} {b o : Nat} {u : Value} (o' : Obj) (h : w.cell? ⟨b, o, none⟩ = some u) (hf : w.frozen? ⟨b, o, none⟩ = false) (hg : (w.alloc o').grownBy w' row) (hr : row ≠ some b) :
    w'.cell? ⟨b, o, none⟩ = some u ∧ w'.frozen? ⟨b, o, none⟩ = false := by
  have hb := cell_lt h
  have k := (hg.block b (by simp; omega) (fun e => hr e.symm)).trans (Below.heap_alloc w o' b hb)
  exact ⟨(World.cell?_of_block (w := w) (a := ⟨b, o, none⟩) k).trans h, (World.frozen?_of_block (w := w) (a := ⟨b, o, none⟩) k).trans hf⟩
/-- the world behind a new name -/
theorem look_close {w1 w2 w4 : World} {p m : Nat} {v v4 : Value} {n : Nat} {l : List ByteArray} {s : ByteArray} (h : Look w1 p m v n l) (hp : s ∉ l) (h4 : l.length < 4096)
    (hm2 : w2.ownsMap Try.prog 9 (plainElem (H := Unit) Try.prog 3) m (l.length + 1) ((setM l).put (key s) (num 1))) (hg2 : w1.grownBy w2 (some m))
    (ho4 : w4.ownsRow 0 9 1 v4 (l.length + 1) (l.map .string ++ [.string s])) (o : Obj) (hg4 : (w2.alloc o).grownBy w4 v.ownBlock) (hl4 : v4.ownBlock = v.ownBlock ∨ v4.ownBlock = some (w2.alloc o).heap.size) :
    Look (w4.setCell ⟨p, 1, none⟩ v4) p m v4 n (l ++ [s]) ∧ Turn (lookIn p m v) w1 (w4.setCell ⟨p, 1, none⟩ v4) ∧ (v4.ownBlock = v.ownBlock ∨ ∀ b, v4.ownBlock = some b → w1.heap.size ≤ b) := by
  obtain ⟨hpm, hvp, hvm⟩ := h.apart
  obtain ⟨lp, lm, lv⟩ := h.lt
  have s2 := hg2.size
  have s4 := hg4.size
  have e4 : ∀ k, k < w2.heap.size → v.ownBlock ≠ some k → w4.heap[k]? = w2.heap[k]? := fun k hk hne =>
    (hg4.block k (by simp; omega) (fun e => hne e.symm)).trans (Below.heap_alloc w2 o k hk)
  have hv4p : v4.ownBlock ≠ some p := by
    rcases hl4 with e | e
    · rw [e]; exact hvp
    · rw [e]; simp; omega
  have hP : w4.heap[p]? = some (.cells #[.int .i64 n, v, .map (some m)] 57 (0, 0)) := (e4 p (by omega) hvp).trans ((hg2.block p lp (by simp; exact hpm)).trans h.obj)
  have hother : ∀ k, k ≠ p → (w4.setCell ⟨p, 1, none⟩ v4).heap[k]? = w4.heap[k]? := fun k hk => Below.heap_setCell _ _ _ _ hk
  refine ⟨⟨?_, ?_, ?_, nodup_snoc h.nd hp, by simp; omega, h.nle⟩, ?_, ?_⟩
  · rw [heap_setCell_at hP]; simp
  · have e1 := (hother m (Ne.symm hpm)).trans (e4 m (by omega) hvm)
    have := map_same hm2 e1
    rw [← setM_snoc] at this
    simpa using this
  · have := row_same (w' := w4.setCell ⟨p, 1, none⟩ v4) ho4 (fun b e hb => hother b (fun x => hv4p (x ▸ e)))
    simpa using this
  · have t1 : Turn (lookIn p m v) w1 w2 := (Turn.of_grownBy hg2).mono fun i _ e => by cases e; exact .inr (.inl rfl)
    have t2 : Turn (lookIn p m v) w1 w4 := (t1.trans (Turn.alloc _ w2 o)).andThen (Turn.of_grownBy hg4) fun i e => .inl (.inr (.inr e))
    exact t2.andThen (Turn.setCell w4 p 1 v4) fun i e => .inl (.inl e)
  · rcases hl4 with e | e
    · exact .inl e
    · exact .inr fun b eb => by rw [e] at eb; cases eb; simp; omega
/-- what part leaves -/
def PartPost (W : World) (p m : Nat) (v : Value) (n : Nat) (l : List ByteArray) (e : Ending) (w' : World) : Prop :=
  e = .returned (.int .i64 0) ∧ ∃ v', Look w' p m v' n l ∧ Turn (lookIn p m v) W w' ∧ (v'.ownBlock = v.ownBlock ∨ ∀ b, v'.ownBlock = some b → W.heap.size ≤ b)
/-- a part without parts: a variable, an int, an atom -/
abbrev lfC (k n : Int) (s : ByteArray) : Array Value := #[.int .i64 k, .int .i64 n, .complex .f64 0 0, .string s, .int .i64 0, .int .u32 0, .int .u64 0, nilV, nilV]
end Go.Proofs.Ytlgpdpadaknnaaa
