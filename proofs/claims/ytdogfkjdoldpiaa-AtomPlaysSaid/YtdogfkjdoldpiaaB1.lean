/- The chapter's examples: alive. -/
import Derived.Test.YtdogfkjdoldpiaaA9
namespace Go.Proofs.Ytdogfkjdoldpiaa
open Go.RowKit Go.Maps Go.Shelf
attribute [local go_sem] Oper.semAt_some

def nA : ByteArray := ⟨#[97]⟩
def nB : ByteArray := ⟨#[98]⟩
def nC : ByteArray := ⟨#[66]⟩
theorem putA : putL [] nA = ([nA], 0, 0) := by decide +kernel
theorem putB : putL [nA] nB = ([nA, nB], 1, 0) := by decide +kernel
theorem putA2 : putL [nA, nB] nA = ([nA, nB], 0, 0) := by decide +kernel
theorem putC : putL [nA, nB] nC = ([nA, nB], 0, 30) := by decide +kernel
theorem eqlSeqNil (f : Fn) (a b : Array Value) (w : World) : (binOp .eql 33 (.func f a b) .nilFunc).run Try.prog w = .ok (.bool false) w :=
  run_eql_func_nil Try.underlying33 f a b w
/-- a counter in a box -/
abbrev cnt (b : Nat) (pre : List (Nat × ByteArray)) (W : World) : Prop := Boxed W b 3 (.int .i64 pre.length)
theorem put_fresh {B n : Nat} {v v' : Value} (h : v'.ownBlock = v.ownBlock ∨ ∀ b, v'.ownBlock = some b → n ≤ b) (hn : B ≤ n) (hv : ∀ b, v.ownBlock = some b → B ≤ b) : ∀ b, v'.ownBlock = some b → B ≤ b := fun b e => by
  rcases h with h | h
  · rw [h] at e; exact hv b e
  · exact Nat.le_trans hn (h b e)
theorem put_below {B p m : Nat} {v : Value} {W X Y : World} (ht : Turn (tabIn p m v) X Y) (hb : Below B W X) (hB : B ≤ W.heap.size) (hp : B ≤ p) (hm : B ≤ m) (hv : ∀ b, v.ownBlock = some b → B ≤ b) : Below B W Y :=
  hb.trans (ht.below (Nat.le_trans hB hb.size) (by rintro i (rfl | rfl | e); exact hp; exact hm; exact hv i e))
set_option maxRecDepth 100000 in
set_option maxHeartbeats 4000000 in
theorem alive_any (w : World) : Calls Try.prog 9 #[] w (RB w (.bool true)) := by
  have hq := eqlSeqNil
  refine (callsIn_wide (n := 5)).1 ?_
  refine callsIn_of_wp_marks Try.func9 rfl trivial ?_ rfl
  simp only [Try.ntmps9, List.size_toArray, List.length_nil, Nat.reduceSub, Array.replicate_succ, Array.replicate_zero, List.push_toArray, List.append_toArray, List.nil_append, List.cons_append]
  gi_wp2_with fail
  refine ⟨trivial, (callsIn_wide.2 (new_any w)).mono ?_⟩
  rintro e w1 ⟨rfl, hT1, hb1⟩
  gi_wp2_with fail
  refine ⟨trivial, (callsIn_wide.2 (tput_any _ _ _ _ nA w1 hT1 (by decide))).mono ?_⟩
  rintro e w2 ⟨v2, rfl, hT2, ht2, hf2⟩
  rw [putA] at hT2 ⊢
  gi_wp2_with fail
  refine ⟨trivial, (callsIn_wide.2 (tput_any _ _ _ _ nB w2 hT2 (by decide))).mono ?_⟩
  rintro e w3 ⟨v3, rfl, hT3, ht3, hf3⟩
  rw [putB] at hT3 ⊢
  gi_wp2_with fail
  refine ⟨trivial, (callsIn_wide.2 (tput_any _ _ _ _ nA w3 hT3 (by decide))).mono ?_⟩
  rintro e w4 ⟨v4, rfl, hT4, ht4, hf4⟩
  rw [putA2] at hT4 ⊢
  gi_wp2_with fail
  refine ⟨trivial, (callsIn_wide.2 (tput_any _ _ _ _ nC w4 hT4 (by decide))).mono ?_⟩
  rintro e w5 ⟨v5, rfl, hT5, ht5, hf5⟩
  rw [putC] at hT5 ⊢
  gi_wp2_with fail
  refine ⟨trivial, (callsIn_wide.2 (tname_out _ _ _ _ 2 w5 hT5 (.inr (by decide)))).mono ?_⟩
  rintro e w6 ⟨rfl, rfl⟩
  gi_wp2_with fail
  refine ⟨trivial, (callsIn_wide.2 (all_any _ _ _ _ w5 hT5)).mono ?_⟩
  rintro e w7 ⟨v7, rfl, hT7, hb7, _⟩
  gi_wp2_with fail
  have hb0 := Boxed.new w7 3 (.int .i64 0)
  have h7 : w5.heap.size < w7.heap.size := hT7.lt
  have hK7 : Below w7.heap.size w7 (w7.alloc (.cells #[.int .i64 0] 3)) := (Below.refl _ _).alloc (Nat.le_refl _) _
  have hT8 := hT7.keep (.of_below hK7)
  refine wp_range (by decide) (gf := 23) (lb := #[.pointer (some ⟨w5.heap.size, 0, none⟩)]) rfl (enters_of Try.func23 (by kernel_rfl) rfl)
    (told_stops Fence.wide 4 trivial rfl (by decide) w5.heap.size v7 _ _ hT8) TKeep.trans (TKeep.putObj hT8) (fun _ => rfl)
    (fun i => i = w7.heap.size) (fun i e => by subst e; simp) (fun A B h => TKeep.of_turn h (fun i hi e => by rcases hi with h | h; omega; have := hT7.vlt _ h; omega))
    (cnt w7.heap.size) (fun _ _ _ => False) (OldOnly.boxed (by simp) _ _) (fun c => OldOnly.pure _ (fun _ => False)) hb0 ?a1 ?assign ?body ?done ?stop
  case assign =>
    intro l x W K hK
    gi_wp2
    exact hK
  case body =>
    rintro l pre x W ht hb hl
    have hc := hb.cell
    have hf := hb.frozen
    simp only [List.length_cons, List.length_nil] at hl
    gi_wp2
    exact ⟨Turn.setCell _ _ _ _, by have := hb.set (.int .i64 ((pre ++ [x]).length : Nat)); simpa [cnt] using this⟩
  case done =>
    rintro D xs W hD rfl ht hb hK
    have hc := hb.cell
    have e2 : (its [nA, nB]).length = 2 := rfl
    rw [e2] at hc
    have hT57 := hT5.below hb7
    have hT9 : Tab W (w.heap.size + 1) w.heap.size v5 [nA, nB] := (hT57.below hK7).same (fun i hi hlt => ht.block i hlt (fun e => by
      have := hT57.lt
      rcases hi with h | h | h
      · omega
      · omega
      · have := this.2.2 i h; omega))
    have f2 := put_fresh (B := w.heap.size) hf2 hb1.size (fun b e => by cases e)
    have b2 := put_below ht2 hb1 (Nat.le_refl _) (by omega) (Nat.le_refl _) (fun b e => by cases e)
    have f3 := put_fresh hf3 b2.size f2
    have b3 := put_below ht3 b2 (Nat.le_refl _) (by omega) (Nat.le_refl _) f2
    have f4 := put_fresh hf4 b3.size f3
    have b4 := put_below ht4 b3 (Nat.le_refl _) (by omega) (Nat.le_refl _) f3
    have b5 := put_below ht5 b4 (Nat.le_refl _) (by omega) (Nat.le_refl _) f4
    have b7 := (b5.trans (hb7.mono b5.size)).alloc (by have := b5.size; have := hb7.size; omega) (.cells #[.int .i64 0] 3)
    have bW : Below w.heap.size w W := b7.trans (ht.below (by exact b7.size) (fun i e => by have := b5.size; have := hb7.size; omega))
    have HD := Lib.hid hK
    clear hK
    gi_wp2_with fail
    refine ⟨trivial, (callsIn_wide.2 (copy_any _ _ _ _ W hT9)).mono ?_⟩
    rintro e W2 ⟨p2, m2, v2', rfl, hC, hbC, _⟩
    gi_wp2_with fail
    refine ⟨trivial, (callsIn_wide.2 (len_any _ _ _ _ W2 hC)).mono ?_⟩
    rintro e W3 ⟨rfl, rfl⟩
    simp only [List.length_cons, List.length_nil]
    gi_wp2_with fail
    have hD2 : W2.heap[D]? = some (.deferred (some [])) := (hbC.block D (Array.getElem?_eq_some_iff.1 HD.out).1).trans HD.out
    refine ⟨by simp, .inl ⟨_, _, rfl, run_takeDeferred hD2, ?_⟩⟩
    have bD : Below w.heap.size w (W2.putObj D (.deferred none)) := below_taken (bW.trans (hbC.mono bW.size)) (Nat.le_trans b7.size hD) _
    exact ⟨_, results_tmp rfl _ _ _, rfl, bD⟩
  case stop =>
    rintro D c pre W _ _ _ h _
    exact h.elim
end Go.Proofs.Ytdogfkjdoldpiaa
