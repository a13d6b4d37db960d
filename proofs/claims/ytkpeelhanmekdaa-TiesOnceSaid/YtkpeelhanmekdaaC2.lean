/- ties.may, walked; a process's ties in memory. -/
import Derived.Test.YtkpeelhanmekdaaC0
namespace Go.Proofs.Ytkpeelhanmekdaa
set_option linter.unusedVariables false
set_option linter.unusedSimpArgs false
set_option linter.constructorNameAsVariable false
open Go.Shelf Go.RowKit Go.Lib Go.Proofs
set_option maxRecDepth 100000

theorem pid_plain (x : Idd) (w : World) : Calls Try.prog 24 #[idV x] w (RB w (G.pidV x)) := (G.pid_any x w).mono fun _ _ h => h.plain
theorem check_plain (x : Idd) (h : IdOk x) (w : World) : Calls Try.prog 22 #[G.pidV x] w (RB w (.int .i64 0)) := (G.check_pid x h w).mono fun _ _ h => h.plain
/-- the cells of two ids -/
abbrev twoC (x y : Idd) : Array Value := #[.int .i64 x.node, .int .u32 x.boot, .int .u64 x.n, .int .i64 y.node, .int .u32 y.boot, .int .u64 y.n]
set_option maxHeartbeats 1000000 in
theorem may_one (x : Idd) (hx : IdOk x) (g : Nat) (w : World) (h0 : w.heap[g]? = some (.cells (idC x) 31 (0, 0))) :
    Calls Try.prog 15 #[.slice (some ⟨g, 0, none⟩) 1 1] w (RB w (.bool true)) := by
  have c0 : w.cell? ⟨g, 0, none⟩ = some (.int .i64 x.node) := by simp [World.cell?, h0]
  have c1 : w.cell? ⟨g, 1, none⟩ = some (.int .u32 x.boot) := by simp [World.cell?, h0]
  have c2 : w.cell? ⟨g, 2, none⟩ = some (.int .u64 x.n) := by simp [World.cell?, h0]
  have CX := Lib.hid (fun W => check_plain x hx W)
  clear hx h0
  go_enter Try.func15, Try.ntmps15
  go_wp2_with fail
  refine wp_loop_rounds 2 ?_
  rw [rounds_succ]
  go_wp2_with fail
  refine (pid_plain x _).mono ?_
  rintro e w1 ⟨rfl, hb1⟩
  have HB1 := Lib.hid (((Below.refl w.heap.size w).alloc (Nat.le_refl _) (.cells (idC x) 31)).trans (hb1.mono (by simp)))
  clear hb1 c0 c1 c2
  go_wp2_with fail
  refine (CX.out _).mono ?_
  rintro e w2 ⟨rfl, hb2⟩
  have HB2 := Lib.hid (HB1.out.trans (hb2.mono HB1.out.size))
  clear hb2 HB1
  go_wp2_with fail
  rw [rounds_succ]
  go_wp2_with fail
  go_ret
  exact ⟨rfl, HB2.out⟩
set_option maxHeartbeats 1000000 in
theorem may_two (x y : Idd) (hx : IdOk x) (hy : IdOk y) (g : Nat) (w : World) (h0 : w.heap[g]? = some (.cells (twoC x y) 31 (0, 0))) :
    Calls Try.prog 15 #[.slice (some ⟨g, 0, none⟩) 2 2] w (RB w (.bool true)) := by
  have c0 : w.cell? ⟨g, 0, none⟩ = some (.int .i64 x.node) := by simp [World.cell?, h0]
  have c1 : w.cell? ⟨g, 1, none⟩ = some (.int .u32 x.boot) := by simp [World.cell?, h0]
  have c2 : w.cell? ⟨g, 2, none⟩ = some (.int .u64 x.n) := by simp [World.cell?, h0]
  have c3 : w.cell? ⟨g, 3, none⟩ = some (.int .i64 y.node) := by simp [World.cell?, h0]
  have c4 : w.cell? ⟨g, 4, none⟩ = some (.int .u32 y.boot) := by simp [World.cell?, h0]
  have c5 : w.cell? ⟨g, 5, none⟩ = some (.int .u64 y.n) := by simp [World.cell?, h0]
  have hlt : g < w.heap.size := cell_lt c0
  have C3 := Lib.hid c3
  have C4 := Lib.hid c4
  have C5 := Lib.hid c5
  have CX := Lib.hid (fun W => check_plain x hx W)
  have CY := Lib.hid (fun W => check_plain y hy W)
  clear hx hy h0 c3 c4 c5
  go_enter Try.func15, Try.ntmps15
  go_wp2_with fail
  refine wp_loop_rounds 3 ?_
  rw [rounds_succ]
  go_wp2_with fail
  refine (pid_plain x _).mono ?_
  rintro e w1 ⟨rfl, hb1⟩
  have HB1 := Lib.hid (((Below.refl w.heap.size w).alloc (Nat.le_refl _) (.cells (idC x) 31)).trans (hb1.mono (by simp)))
  clear hb1 c0 c1 c2
  go_wp2_with fail
  refine (CX.out _).mono ?_
  rintro e w2 ⟨rfl, hb2⟩
  have HB2 := Lib.hid (HB1.out.trans (hb2.mono HB1.out.size))
  have c3 := (HB2.out.cell (p := ⟨g, 3, none⟩) hlt).trans C3.out
  have c4 := (HB2.out.cell (p := ⟨g, 4, none⟩) hlt).trans C4.out
  have c5 := (HB2.out.cell (p := ⟨g, 5, none⟩) hlt).trans C5.out
  clear hb2 HB1
  go_wp2_with fail
  rw [rounds_succ]
  go_wp2_with fail
  refine (pid_plain y _).mono ?_
  rintro e w3 ⟨rfl, hb3⟩
  have HB3 := Lib.hid (HB2.out.trans (((Below.refl w.heap.size w2).alloc HB2.out.size (.cells (idC y) 31)).trans (hb3.mono (by have := HB2.out.size; simp; omega))))
  clear hb3 c3 c4 c5 HB2
  go_wp2_with fail
  refine (CY.out _).mono ?_
  rintro e w4 ⟨rfl, hb4⟩
  have HB4 := Lib.hid (HB3.out.trans (hb4.mono HB3.out.size))
  clear hb4 HB3
  go_wp2_with fail
  rw [rounds_succ]
  go_wp2_with fail
  go_ret
  exact ⟨rfl, HB4.out⟩

/-- the maps of a process's ties -/
def TS (ml mm mt : Nat) (b : Nat) : Prop := b = ml ∨ b = mm ∨ b = mt
/-- the cells of a process's ties -/
abbrev tiC (me : Idd) (ml mm mt : Nat) : Array Value := #[.int .i64 me.node, .int .u32 me.boot, .int .u64 me.n, .map (some ml), .map (some mm), .map (some mt)]
/-- monitors, as a map's entries -/
abbrev pv (p : Idd × Idd) : Idd × Value := (p.1, idV p.2)
abbrev lv (x : Idd) : Idd × Value := (x, .bool true)
/-- a process's ties in memory: links, its own monitors, others' -/
structure TiesAt (w : World) (p ml mm mt : Nat) (me : Idd) (L : List Idd) (M T : List (Idd × Idd)) : Prop where
  cells : w.heap[p]? = some (.cells (tiC me ml mm mt) 52 (0, 0))
  links : mapAt w ml (L.map lv)
  mine : mapAt w mm (M.map pv)
  theirs : mapAt w mt (T.map pv)
  ne1 : ml ≠ mm
  ne2 : ml ≠ mt
  ne3 : mm ≠ mt
  okL : ∀ x ∈ L, IdOk x
  okM : ∀ q ∈ M, IdOk q.1 ∧ IdOk q.2
  okT : ∀ q ∈ T, IdOk q.1 ∧ IdOk q.2
  okme : IdOk me
theorem TiesAt.six {w : World} {p ml mm mt : Nat} {me : Idd} {L : List Idd} {M T : List (Idd × Idd)} (h : TiesAt w p ml mm mt me L M T) :
    w.cell? ⟨p, 0, none⟩ = some (.int .i64 me.node) ∧ w.cell? ⟨p, 1, none⟩ = some (.int .u32 me.boot) ∧ w.cell? ⟨p, 2, none⟩ = some (.int .u64 me.n) ∧ w.cell? ⟨p, 3, none⟩ = some (.map (some ml)) ∧ w.cell? ⟨p, 4, none⟩ = some (.map (some mm)) ∧ w.cell? ⟨p, 5, none⟩ = some (.map (some mt)) := by
  have := h.cells
  refine ⟨?_, ?_, ?_, ?_, ?_, ?_⟩ <;> simp [World.cell?, this]
theorem TiesAt.lt {w : World} {p ml mm mt : Nat} {me : Idd} {L : List Idd} {M T : List (Idd × Idd)} (h : TiesAt w p ml mm mt me L M T) : p < w.heap.size := (Array.getElem?_eq_some_iff.1 h.cells).1
theorem TiesAt.not_map {w : World} {p ml mm mt : Nat} {me : Idd} {L : List Idd} {M T : List (Idd × Idd)} (h : TiesAt w p ml mm mt me L M T) : ¬ TS ml mm mt p := by
  have hc := h.cells
  rintro (e | e | e)
  · obtain ⟨es, c, hm⟩ := mapAt_obj h.links
    rw [e, hm] at hc
    cases hc
  · obtain ⟨es, c, hm⟩ := mapAt_obj h.mine
    rw [e, hm] at hc
    cases hc
  · obtain ⟨es, c, hm⟩ := mapAt_obj h.theirs
    rw [e, hm] at hc
    cases hc
/-- nothing of it has turned -/
theorem TiesAt.keep {w w' : World} {p ml mm mt : Nat} {me : Idd} {L : List Idd} {M T : List (Idd × Idd)} (h : TiesAt w p ml mm mt me L M T) (hs : ∀ b, b < w.heap.size → w'.heap[b]? = w.heap[b]?) : TiesAt w' p ml mm mt me L M T :=
  ⟨(hs p h.lt).trans h.cells, h.links.block (hs _ h.links.lt), h.mine.block (hs _ h.mine.lt), h.theirs.block (hs _ h.theirs.lt), h.ne1, h.ne2, h.ne3, h.okL, h.okM, h.okT, h.okme⟩
theorem TiesAt.below {w w' : World} {p ml mm mt : Nat} {me : Idd} {L : List Idd} {M T : List (Idd × Idd)} (h : TiesAt w p ml mm mt me L M T) (hb : Below w.heap.size w w') : TiesAt w' p ml mm mt me L M T := h.keep hb.block
theorem turned_block {w w' : World} {b : Nat} (h : w.mapTurned w' b) : ∀ i, i < w.heap.size → i ≠ b → w'.heap[i]? = w.heap[i]? := fun i hi hn => h.grown.block i hi (fun e => hn (Option.some.inj e))
theorem turned_turn {w w' : World} {b ml mm mt : Nat} (h : w.mapTurned w' b) (hb : TS ml mm mt b) : Turn (TS ml mm mt) w w' :=
  ⟨h.grown.os, h.grown.tape, h.grown.output, h.grown.size, fun i hi hn => turned_block h i hi (fun e => hn (e ▸ hb))⟩
theorem TiesAt.setL {w w' : World} {p ml mm mt : Nat} {me : Idd} {L L' : List Idd} {M T : List (Idd × Idd)} (h : TiesAt w p ml mm mt me L M T) (hm : mapAt w' ml (L'.map lv)) (ht : w.mapTurned w' ml) (hok : ∀ x ∈ L', IdOk x) : TiesAt w' p ml mm mt me L' M T := by
  have hp := h.not_map
  exact ⟨(turned_block ht p h.lt (fun e => hp (.inl e))).trans h.cells, hm, h.mine.block (turned_block ht _ h.mine.lt (fun e => h.ne1 e.symm)), h.theirs.block (turned_block ht _ h.theirs.lt (fun e => h.ne2 e.symm)), h.ne1, h.ne2, h.ne3, hok, h.okM, h.okT, h.okme⟩
theorem TiesAt.setM {w w' : World} {p ml mm mt : Nat} {me : Idd} {L : List Idd} {M M' T : List (Idd × Idd)} (h : TiesAt w p ml mm mt me L M T) (hm : mapAt w' mm (M'.map pv)) (ht : w.mapTurned w' mm) (hok : ∀ q ∈ M', IdOk q.1 ∧ IdOk q.2) : TiesAt w' p ml mm mt me L M' T := by
  have hp := h.not_map
  exact ⟨(turned_block ht p h.lt (fun e => hp (.inr (.inl e)))).trans h.cells, h.links.block (turned_block ht _ h.links.lt (fun e => h.ne1 e)), hm, h.theirs.block (turned_block ht _ h.theirs.lt (fun e => h.ne3 e.symm)), h.ne1, h.ne2, h.ne3, h.okL, hok, h.okT, h.okme⟩
theorem TiesAt.setT {w w' : World} {p ml mm mt : Nat} {me : Idd} {L : List Idd} {M T T' : List (Idd × Idd)} (h : TiesAt w p ml mm mt me L M T) (hm : mapAt w' mt (T'.map pv)) (ht : w.mapTurned w' mt) (hok : ∀ q ∈ T', IdOk q.1 ∧ IdOk q.2) : TiesAt w' p ml mm mt me L M T' := by
  have hp := h.not_map
  exact ⟨(turned_block ht p h.lt (fun e => hp (.inr (.inr e)))).trans h.cells, h.links.block (turned_block ht _ h.links.lt (fun e => h.ne2 e)), h.mine.block (turned_block ht _ h.mine.lt (fun e => h.ne3 e)), hm, h.ne1, h.ne2, h.ne3, h.okL, h.okM, hok, h.okme⟩
end Go.Proofs.Ytkpeelhanmekdaa
