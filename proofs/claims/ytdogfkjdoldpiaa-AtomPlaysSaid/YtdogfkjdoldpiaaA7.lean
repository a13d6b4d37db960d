/- The table of names in memory: a new name is put. -/
import Derived.Test.YtdogfkjdoldpiaaA6
namespace Go.Proofs.Ytdogfkjdoldpiaa
open Go.RowKit Go.Maps

theorem nodup_snoc {l : List ByteArray} {s : ByteArray} (h : l.Nodup) (hp : pos l s = none) : (l ++ [s]).Nodup := by
  rw [List.nodup_append]
  refine ⟨h, by simp, fun a ha b hb => ?_⟩
  rw [List.mem_singleton] at hb
  subst hb
  exact fun e => pos_none_iff.1 hp (e ▸ ha)
/-- behind the store into the map -/
theorem Tab.mapped {W W' : World} {p m : Nat} {v : Value} {l : List ByteArray} (h : Tab W p m v l) (hg : W.grownBy W' (some m)) :
    W'.cell? ⟨p, 1, none⟩ = some v ∧ W'.frozen? ⟨p, 1, none⟩ = false ∧ W'.ownsRow 0 9 1 v l.length (l.map .string) ∧ W'.heap[p]? = W.heap[p]? := by
  have k0 := hg.block p h.lt.1 (by simp; exact h.apart.1)
  obtain ⟨c0, c1, f0, f1⟩ := h.cells
  exact ⟨(World.cell?_of_block (w := W) (a := ⟨p, 1, none⟩) k0).trans c1, (World.frozen?_of_block (w := W) (a := ⟨p, 1, none⟩) k0).trans f1,
    row_same h.row (fun b e hb => hg.block b hb (by rw [← e]; exact fun x => h.apart.2.2 x)), k0⟩
theorem kept_cell {w w' : World} {row : Option Nat} {b o : Nat} {u : Value} (o' : Obj) (h : w.cell? ⟨b, o, none⟩ = some u) (hf : w.frozen? ⟨b, o, none⟩ = false) (hg : (w.alloc o').grownBy w' row) (hr : row ≠ some b) :
    w'.cell? ⟨b, o, none⟩ = some u ∧ w'.frozen? ⟨b, o, none⟩ = false := by
  have hb := cell_lt h
  have k := (hg.block b (by simp; omega) (fun e => hr e.symm)).trans (Below.heap_alloc w o' b hb)
  exact ⟨(World.cell?_of_block (w := w) (a := ⟨b, o, none⟩) k).trans h, (World.frozen?_of_block (w := w) (a := ⟨b, o, none⟩) k).trans hf⟩
theorem heap_setCell_at {w : World} {b o : Nat} {cs : Array Value} {t : TypeId} {fr : Nat × Nat} {u : Value} (h : w.heap[b]? = some (.cells cs t fr)) : (w.setCell ⟨b, o, none⟩ u).heap[b]? = some (.cells (cs.setIfInBounds o u) t fr) := by
  simp [World.setCell, Array.getElem?_modify, h]
/-- the world behind Put of a new name -/
theorem put_close {w1 w2 w4 : World} {p m : Nat} {v v4 : Value} {l : List ByteArray} {s : ByteArray} (h : Tab w1 p m v l) (hn : nameB s = true) (hp : pos l s = none) (h4 : l.length < 4096)
    (hm2 : w2.ownsMap Try.prog 9 (plainElem (H := Unit) Try.prog 3) m (l.length + 1) ((mapOf l).put (key s) (num l.length))) (hg2 : w1.grownBy w2 (some m))
    (ho4 : w4.ownsRow 0 9 1 v4 (l.length + 1) (l.map .string ++ [.string s])) (o : Obj) (hg4 : (w2.alloc o).grownBy w4 v.ownBlock) (hl4 : v4.ownBlock = v.ownBlock ∨ v4.ownBlock = some (w2.alloc o).heap.size) :
    Tab (w4.setCell ⟨p, 1, none⟩ v4) p m v4 (l ++ [s]) ∧ Turn (tabIn p m v) w1 (w4.setCell ⟨p, 1, none⟩ v4) ∧ (v4.ownBlock = v.ownBlock ∨ ∀ b, v4.ownBlock = some b → w1.heap.size ≤ b) := by
  obtain ⟨hpm, hvp, hvm⟩ := h.apart
  obtain ⟨lp, lm, lv⟩ := h.lt
  have s2 := hg2.size
  have s4 := hg4.size
  have e4 : ∀ k, k < w2.heap.size → v.ownBlock ≠ some k → w4.heap[k]? = w2.heap[k]? := fun k hk hne =>
    (hg4.block k (by simp; omega) (fun e => hne e.symm)).trans (Below.heap_alloc w2 o k hk)
  have hv4p : v4.ownBlock ≠ some p := by
    rcases hl4 with e | e
    · rw [e]; exact hvp
    · rw [e]; simp; omega
  have hP : w4.heap[p]? = some (.cells #[.map (some m), v] 54) := (e4 p (by omega) hvp).trans ((hg2.block p lp (by simp; exact hpm)).trans h.obj)
  have hother : ∀ k, k ≠ p → (w4.setCell ⟨p, 1, none⟩ v4).heap[k]? = w4.heap[k]? := fun k hk => Below.heap_setCell _ _ _ _ hk
  refine ⟨⟨?_, ?_, ?_, nodup_snoc h.nd hp, by simp; omega, ?_⟩, ?_, ?_⟩
  · rw [heap_setCell_at hP]; simp
  · have e1 := (hother m (Ne.symm hpm)).trans (e4 m (by omega) hvm)
    have := map_same hm2 e1
    rw [← mapOf_snoc] at this
    simpa using this
  · have := row_same (w' := w4.setCell ⟨p, 1, none⟩ v4) ho4 (fun b e hb => hother b (fun x => hv4p (x ▸ e)))
    simpa using this
  · intro x hx
    rcases List.mem_append.1 hx with hx | hx
    · exact h.nm x hx
    · rw [List.mem_singleton] at hx; subst hx; exact hn
  · have t1 : Turn (tabIn p m v) w1 w2 := (Turn.of_grownBy hg2).mono fun i _ e => by cases e; exact .inr (.inl rfl)
    have t2 : Turn (tabIn p m v) w1 w4 := (t1.trans (Turn.alloc _ w2 o)).andThen (Turn.of_grownBy hg4) fun i e => .inl (.inr (.inr e))
    exact t2.andThen (Turn.setCell w4 p 1 v4) fun i e => .inl (.inl e)
  · rcases hl4 with e | e
    · exact .inl e
    · exact .inr fun b eb => by rw [e] at eb; cases eb; simp; omega
set_option maxRecDepth 100000 in
set_option maxHeartbeats 400000 in
theorem tput_new (p m : Nat) (v : Value) (l : List ByteArray) (s : ByteArray) (w : World) (h : Tab w p m v l) (hs : s.size ≤ maxLen) (hn : nameB s = true) (hp : pos l s = none) (h4 : l.length < 4096) :
    Calls Try.prog 13 #[.pointer (some ⟨p, 0, none⟩), .string s] w (TPutPost w p m v l s) := by
  have hfin : putL l s = (l ++ [s], l.length, 0) := by simp [putL, hn, hp, show ¬ l.length = 4096 by omega]
  obtain ⟨i0, hi, hz0, hz1, hz2⟩ := info_parts infoString
  have HF := Lib.hid hfin
  have HK : Hid (keyOf Try.prog 9 (.string s) = some (key s)) := Go.WideMaps.keyOf_string_mk Try.underlying9 hs
  have hH := has_mapOf l s
  rw [hp] at hH
  have HH := Lib.hid hH
  have HP := Lib.hid hp
  have HN := Lib.hid hn
  have HT := Lib.hid h
  have hlt : (l.length : Int) < 4096 := by omega
  clear hfin hH hp h4
  go_enter Try.func13, Try.ntmps13
  go_wp2_with fail
  refine (right_any s w hs).mono ?_
  rintro e w1 ⟨rfl, hb1⟩
  rw [hn]
  have h1 := h.below hb1
  obtain ⟨c0, c1, f0, f1⟩ := h1.cells
  have HM := Lib.hid h1.map
  have H1 := Lib.hid h1
  obtain ⟨a, c, hv⟩ := row_slice h1.row
  have hpm := h1.apart.1
  subst hv
  clear h h1
  go_wp2_with (first
   | (at_lookup; refine wpList_lookup_own_ok_int _ rfl _ _ 52 rfl 9 3 .i64 lawS Try.underlying52 Try.underlying3 (zeroI _) m _ _ rfl HM.out _ _ rfl HK.out ?_; intro cc hat hwc; rw [HH.out]; have HC := Lib.hid hat; clear hat hwc)
   | (at_mapUpdate; refine wpList_mapUpdate_own _ rfl _ _ _ 52 rfl 9 3 lawS Try.underlying52 _ m _ _ rfl HM.out (by unfold maxLen; omega) _ _ _ rfl rfl HK.out (num l.length) [] (plainElem_int Try.underlying3 (WalkArith.wf_i64 (by omega))) ?_; intro w2 hm2 hg2; obtain ⟨c2, f2, hr2, hp2⟩ := H1.out.mapped hg2; have HM2 := Lib.hid hm2; have HG2 := Lib.hid hg2; have HR2 := Lib.hid hr2; have HP2 := Lib.hid hp2; clear hm2 hg2 hr2 hp2)
   | (at_builtin; refine wpList_app _ rfl (.tmp 46) (.tmp 48) 24 24 rfl 0 9 i0 (.string ByteArray.empty) 1 16 Try.underlying24 hi hz0 hz1 hz2 rfl (by decide) _ _ _ rfl (HR2.out.alloc _) _ 1 [.string s] rfl (src_one _ Try.underlying24 _ _ rfl) (by unfold maxLen; omega) (by omega) (Nat.zero_le _) ?_; intro a4 c4 w4 ho4 hg4 hn4 hl4; obtain ⟨c5, f5⟩ := kept_cell _ c2 f2 hg4 H1.out.apart.2.1; have HG4 := Lib.hid hg4; have HO4 := Lib.hid ho4; have HL4 := Lib.hid hl4; clear hg4 ho4 hl4 hn4))
  go_ret2
  obtain ⟨r1, r2, r3⟩ := put_close H1.out HN.out HP.out (by omega) HM2.out HG2.out HO4.out _ HG4.out HL4.out
  exact ⟨_, by rw [HF.out]; rfl, by rw [HF.out]; exact r1, (Turn.of_below hb1).trans r2, r3.imp id fun r b e => Nat.le_trans hb1.size (r b e)⟩
/-- Put, whatever the name -/
theorem tput_any (p m : Nat) (v : Value) (l : List ByteArray) (s : ByteArray) (w : World) (h : Tab w p m v l) (hs : s.size ≤ maxLen) :
    Calls Try.prog 13 #[.pointer (some ⟨p, 0, none⟩), .string s] w (TPutPost w p m v l s) := by
  cases hn : nameB s with
  | false => exact tput_bad p m v l s w h hs hn
  | true =>
    cases hp : pos l s with
    | some i => exact tput_there p m v l s i w h hs hn hp
    | none =>
      by_cases h4 : l.length = 4096
      · exact tput_full p m v l s w h hs hn hp h4
      · exact tput_new p m v l s w h hs hn hp (by have := h.len; omega)
end Go.Proofs.Ytdogfkjdoldpiaa
