/- The table of names in memory: Copy (maps.Clone). -/
import Derived.Test.YtdogfkjdoldpiaaA7
import Derived.Test.YtdogfkjdoldpiaaL1
import Derived.Shelf.SlMaps.Clone
namespace Go.Proofs.Ytdogfkjdoldpiaa
open Go.RowKit Go.Maps

set_option maxHeartbeats 1000000 in
theorem clone_any (m n : Nat) (D : DataW Unit) (w : World) (hown : w.ownsMap Try.prog 9 (plainElem (H := Unit) Try.prog 3) m n D) :
    Calls Try.prog 24 #[.map (some m)] w fun e w' => e = .returned (.map (some w.heap.size)) ∧ w'.ownsMap Try.prog 9 (plainElem (H := Unit) Try.prog 3) w.heap.size n D ∧ Below w.heap.size w w' := by
  obtain ⟨es, clock, hb, F, hs, hD⟩ := hown
  have hq := fun w => run_eql_map_nil_sl (P := Try.prog) w 52 _ _ (some m) Try.underlying52
  go_enter Try.func24, Try.ntmps24
  go_wp2_with fail
  rw [run_callFunc_extern Try.func25 (by kernel_rfl) (by kernel_rfl) (by kernel_rfl) (e := Extern.MapsClone.clone) (by kernel_rfl), run_maps_clone_sl w 52 hb]
  simp only [Result.andThen]
  rw [Oper.upon_value]
  have HB := Lib.hid hb
  have HD := Lib.hid hD
  clear hb hD
  go_wp2_with fail
  rw [run_typeAssert_map_sl _ 52 20 _ _ _ Try.underlying52]
  simp only [Result.andThen]
  rw [Oper.upon_value]
  go_wp2_with fail
  go_ret
  exact ⟨rfl, ⟨es, clock, heap_new w _, F, hs, HD.out⟩, (Below.refl _ w).alloc (Nat.le_refl _) _⟩

theorem grown_none_below {w w' : World} (h : w.grownBy w' none) : Below w.heap.size w w' := ⟨h.os, h.tape, h.output, h.size, fun k hk => h.block k hk (by simp)⟩
/-- the world behind Copy: a table of its own -/
def CopyPost (W : World) (l : List ByteArray) (e : Ending) (w' : World) : Prop :=
  ∃ p m v, e = .returned (.pointer (some ⟨p, 0, none⟩)) ∧ Tab w' p m v l ∧ Below W.heap.size W w' ∧ (∀ i, tabIn p m v i → W.heap.size ≤ i)
set_option maxHeartbeats 400000 in
theorem copy_nil (w : World) : Calls Try.prog 16 #[.pointer none] w (RW w (.pointer none)) := by
  go_enter Try.func16, Try.ntmps16
  go_wp2
  go_ret
  exact ⟨rfl, rfl⟩
set_option maxRecDepth 100000 in
set_option maxHeartbeats 2000000 in
theorem copy_any (p m : Nat) (v : Value) (l : List ByteArray) (w : World) (h : Tab w p m v l) :
    Calls Try.prog 16 #[.pointer (some ⟨p, 0, none⟩)] w (CopyPost w l) := by
  obtain ⟨i0, hi, hz0, hz1, hz2⟩ := info_parts infoString
  obtain ⟨c0, c1, f0, f1⟩ := h.cells
  have HT := Lib.hid (h.below (Below.refl _ w).drew)
  have lp := h.lt.1
  have HL1 : Hid (0 + l.length ≤ maxLen) := by have := h.len; unfold maxLen Hid; omega
  have HL2 : Hid ((0 + l.length) * 16 ≤ 140737488355328) := by have := h.len; unfold Hid; omega
  clear h
  go_enter Try.func16, Try.ntmps16
  go_wp2_with fail
  go_region_held3 (fun w' => w'.cell? ⟨p, 0, none⟩ = some (.map (some m)) ∧ w'.cell? ⟨p, 1, none⟩ = some v)
    (first
      | go_keep
      | (go_split_ands
         refine ⟨?_, ?_⟩
         · (rw [hb1.cell (p := ⟨p, 0, none⟩) lp]; assumption)
         · (rw [hb1.cell (p := ⟨p, 1, none⟩) lp]; assumption))
      | (go_split_ands
         refine ⟨?_, ?_⟩
         · (rw [(grown_none_below hg4).cell (p := ⟨p, 0, none⟩) (Nat.lt_of_lt_of_le lp hb1.size)]; assumption)
         · (rw [(grown_none_below hg4).cell (p := ⟨p, 1, none⟩) (Nat.lt_of_lt_of_le lp hb1.size)]; assumption)))
    (first
      | (go_at_call 24; refine (clone_any m _ _ _ HT.out.map).mono ?_; rintro e w1 ⟨rfl, hm1, hb1⟩)
      | (refine step_app (by rfl) _ _ _ _ (by rfl) 0 9 i0 (.string ByteArray.empty) 1 16 Try.underlying24 hi hz0 hz1 hz2 rfl (by decide) (.slice none 0 0) 0 [] (by rfl) (World.ownsRow_nil _ _ _ _) v l.length (l.map .string) (by rfl) ((HT.out.strs.below hb1).src) HL1.out HL2.out (Nat.zero_le _) ?_; intro a4 c4 w4 ho4 hg4 hl4))
  have HO := Lib.hid ho4
  have HG := Lib.hid hg4
  have HL := Lib.hid hl4
  clear ho4 hg4 hl4
  go_wp2
  go_ret
  have hb4 : Below w.heap.size w w4 := ((Below.refl w.heap.size w).drew.trans hb1).trans ((grown_none_below HG.out).mono hb1.size)
  have ho := HO.out
  rw [Nat.zero_add, List.nil_append] at ho
  have hl := HL.out
  rw [Nat.zero_add] at hl
  have s4 := HG.out.size
  have s1 : w.heap.size ≤ w1.heap.size := hb1.size
  have hmlt : w.heap.size < w1.heap.size := hm1.lt
  refine ⟨w4.heap.size, w.heap.size, .slice a4 l.length c4, rfl, ⟨heap_new _ _, ?_, ?_, HT.out.nd, HT.out.len, HT.out.nm⟩, hb4.alloc (by omega) _, ?_⟩
  · exact map_same hm1 ((Below.heap_alloc _ _ _ (by omega)).trans (HG.out.block _ hmlt (by simp [Value.ownBlock])))
  · exact row_same ho (fun b e hb => Below.heap_alloc _ _ _ hb)
  · rintro i (rfl | rfl | e)
    · omega
    · exact Nat.le_refl _
    · rcases hl with h | h
      · rw [h] at e; cases e
      · rw [h] at e; cases e; exact s1
end Go.Proofs.Ytdogfkjdoldpiaa
