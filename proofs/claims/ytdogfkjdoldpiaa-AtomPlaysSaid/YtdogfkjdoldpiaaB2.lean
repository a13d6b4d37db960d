/- What no table answers: AtomNil. -/
import Derived.Test.YtdogfkjdoldpiaaB1
namespace Go.Proofs.Ytdogfkjdoldpiaa
open Go.RowKit Go.Maps Go.Shelf
attribute [local go_sem] Oper.semAt_some

/-- the result lies in a box -/
theorem results_box {fn : Func} {t : Tmp} (h : fn.results = #[.cell t 4]) {tmps : Array Value} {r : Nat} (ht : tmps.getD t undef = .pointer (some ⟨r, 0, none⟩)) {w : World} {b : Bool} (hb : Boxed w r 4 (.bool b)) : (results fn tmps).run Try.prog w = .ok (.bool b) w := by
  have hc := hb.cell
  have ht' : tmps[t]?.getD undef = .pointer (some ⟨r, 0, none⟩) := by simpa using ht
  simp [results, h, ht', go_sem, hc]
/-- the function leaves: its result's box is written, the block for the rounds' deferred calls is taken -/
theorem leave_box {fn : Func} {t : Tmp} (h : fn.results = #[.cell t 4]) {tmps : Array Value} {r D n : Nat} (ht : tmps.getD t undef = .pointer (some ⟨r, 0, none⟩)) {w W : World} {b : Bool} (hb : Boxed W r 4 (.bool b))
    (hD : W.heap[D]? = some (.deferred (some []))) (hB : Below w.heap.size w W) (hwD : w.heap.size ≤ D) :
    LeavesInM Fence.wide n Try.prog fn tmps (RB w (.bool b)) [{ target := .collected D, args := #[] }] .returning W := by
  have hne : r ≠ D := fun e => by subst e; rw [show W.heap[r]? = _ from hb] at hD; cases hD
  have hb' : Boxed (W.putObj D (.deferred none)) r 4 (.bool b) := (World.putObj_heap_other hne).trans hb
  exact ⟨by simp, .inl ⟨_, _, rfl, run_takeDeferred hD, ⟨.bool b, results_box h ht hb', rfl, below_taken hB hwD _⟩⟩⟩
set_option maxRecDepth 100000 in
set_option maxHeartbeats 4000000 in
theorem nil_walk (s : ByteArray) (n : Int) (w : World) (_hs : s.size ≤ maxLen) (_hn : (Lit.int .i64 n).wf = true) : Calls Try.prog 8 #[.string s, .int .i64 n] w (RB w (.bool true)) := by
  refine (callsIn_wide (n := 5)).1 ?_
  refine callsIn_of_wp_marks Try.func8 rfl trivial ?_ rfl
  simp only [Try.ntmps8, List.size_toArray, List.length_cons, List.length_nil, Nat.reduceAdd, Nat.reduceSub, Array.replicate_succ, Array.replicate_zero, List.push_toArray, List.append_toArray, List.nil_append, List.cons_append]
  gi_wp2_with fail
  refine ⟨trivial, (callsIn_wide.2 (alive_any _)).mono ?_⟩
  rintro e w1 ⟨rfl, hb1⟩
  have hr0 := (Boxed.new w 4 (.bool false))
  have hB1 : Below (w.heap.size + 1) (w.alloc (.cells #[.bool false] 4)) w1 := by simpa using hb1
  have hr1 : Boxed w1 w.heap.size 4 (.bool false) := (hB1.block _ (by omega)).trans hr0
  clear hb1
  gi_wp2_with fail
  refine ⟨trivial, (callsIn_wide.2 (tput_nil s _)).mono ?_⟩
  rintro e w2 ⟨rfl, rfl⟩
  gi_wp2_with fail
  refine ⟨trivial, (callsIn_wide.2 (tfind_nil s _)).mono ?_⟩
  rintro e w2 ⟨rfl, rfl⟩
  gi_wp2_with fail
  refine ⟨trivial, (callsIn_wide.2 (tname_nil n _)).mono ?_⟩
  rintro e w2 ⟨rfl, rfl⟩
  gi_wp2_with fail
  refine ⟨trivial, (callsIn_wide.2 (all_nil _)).mono ?_⟩
  rintro e w7 ⟨v7, rfl, hT7, hb7, _⟩
  gi_wp2_with fail
  refine wp_range (by decide) (gf := 23) (lb := #[.pointer (some ⟨w1.heap.size, 0, none⟩)]) rfl (enters_of Try.func23 (by kernel_rfl) rfl)
    (told_stops Fence.wide 4 trivial rfl (by decide) w1.heap.size v7 _ _ hT7) TKeep.trans (TKeep.putObj hT7) (fun _ => rfl)
    (fun _ => False) (fun i e => e.elim) (fun A B h => TKeep.of_turn h (fun i _ e => e))
    (fun _ _ => True) (fun _ _ _ => False) (OldOnly.pure _ (fun _ => True)) (fun c => OldOnly.pure _ (fun _ => False)) trivial ?a1 ?assign ?body ?done ?stop
  case assign =>
    intro l x W K hK
    gi_wp2
    exact hK
  case body =>
    rintro l pre x W _ _ hl
    exact absurd hl (by simp)
  case done =>
    rintro D xs W hD _ ht _ hK
    have hB7 : Below w7.heap.size w7 W := ht.below (Nat.le_refl _) (fun i e => e.elim)
    have hBW : Below (w.heap.size + 1) (w.alloc (.cells #[.bool false] 4)) W := (hB1.trans (hb7.mono (by have := hB1.size; simp at this; omega))).trans (hB7.mono (by have := hB1.size; have := hb7.size; simp at *; omega))
    have hrW : Boxed W w.heap.size 4 (.bool false) := (hBW.block _ (by omega)).trans hr0
    have hc := hrW.cell
    have hf := hrW.frozen
    have HD := Lib.hid hK
    have HB := Lib.hid hBW
    clear hK hBW hB7
    gi_wp2_with fail
    refine ⟨trivial, (callsIn_wide.2 (len_nil _)).mono ?_⟩
    rintro e w2 ⟨rfl, rfl⟩
    gi_wp2_with fail
    refine ⟨trivial, (callsIn_wide.2 (copy_nil _)).mono ?_⟩
    rintro e w2 ⟨rfl, rfl⟩
    gi_wp2_with fail
    have hs : (W.setCell ⟨w.heap.size, 0, none⟩ (.bool true)).heap[D]? = some (.deferred (some [])) := (Below.heap_setCell _ _ _ _ (by have := hB1.size; have := hb7.size; simp at *; omega)).trans HD.out
    have hBw : Below w.heap.size w W := ((Below.refl _ w).alloc (Nat.le_refl _) _).trans (HB.out.mono (by omega))
    exact leave_box rfl rfl (hrW.set (.bool true)) hs (hBw.setCell (Nat.le_refl _) _) (by have := hB1.size; have := hb7.size; simp at *; omega)
  case stop =>
    rintro D c pre W _ _ _ h _
    exact h.elim
end Go.Proofs.Ytdogfkjdoldpiaa
