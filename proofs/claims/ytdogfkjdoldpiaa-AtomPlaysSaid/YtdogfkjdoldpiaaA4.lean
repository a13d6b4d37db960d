/- The document's Put of a name into a list. -/
import Derived.Test.YtdogfkjdoldpiaaA3
import Derived.Deep.DeepMust
namespace Go.Proofs.Ytdogfkjdoldpiaa
open Go.RowKit

theorem infoString : (Try.prog.info? 9).map (fun i => (i.zero, i.size, i.bytes)) = some (some (.string ByteArray.empty), 1, 16) := by kernel_rfl
/-- the list, the number, the error -/
def putL (l : List ByteArray) (s : ByteArray) : List ByteArray × Nat × Int :=
  if nameB s = false then (l, 0, 30) else
  match pos l s with
  | some i => (l, i, 0)
  | none => if l.length = 4096 then (l, 0, 31) else (l ++ [s], l.length, 0)
def PutPost (W : World) (v : Value) (l : List ByteArray) (s : ByteArray) (e : Ending) (w' : World) : Prop :=
  ∃ v', e = .returned (.tuple #[v', .int .i64 (putL l s).2.1, .int .i64 (putL l s).2.2]) ∧ Strs w' v' (putL l s).1 ∧ Below W.heap.size W w' ∧ (v' = v ∨ ∀ b, v'.ownBlock = some b → W.heap.size ≤ b)
set_option maxHeartbeats 1000000 in
theorem putref_any (v : Value) (l : List ByteArray) (s : ByteArray) (w : World) (hs : s.size ≤ maxLen) (hv : Strs w v l) (hlen : l.length ≤ 4096) :
    Calls Try.prog 14 #[v, .string s] w (PutPost w v l s) := by
  obtain ⟨i0, hi, hz0, hz1, hz2⟩ := info_parts infoString
  by_cases hn : nameB s = true
  · cases hp : pos l s with
    | some i =>
      have hfin : putL l s = (l, i, 0) := by simp [putL, hn, hp]
      have HF := Lib.hid hfin
      clear hfin
      go_enter Try.func14, Try.ntmps14
      go_wp2_with fail
      refine (name_any s w hs).mono ?_
      rintro e w1 ⟨rfl, hb1⟩
      rw [hn]
      go_wp2_with fail
      refine (find_any v l s _ (hv.below hb1)).mono ?_
      rintro e w2 ⟨rfl, rfl⟩
      have hI : posI l s = i := by unfold posI; rw [hp]
      rw [hI]
      have hI0 : (0 : Int) ≤ (i : Int) := by omega
      clear hI
      go_wp2_with fail
      go_ret3
      exact ⟨v, by rw [HF.out]; rfl, by rw [HF.out]; exact hv.below hb1, hb1, .inl rfl⟩
    | none =>
      by_cases h4 : l.length = 4096
      · have hfin : putL l s = (l, 0, 31) := by simp [putL, hn, hp, h4]
        have HF := Lib.hid hfin
        clear hfin
        go_enter Try.func14, Try.ntmps14
        go_wp2_with fail
        refine (name_any s w hs).mono ?_
        rintro e w1 ⟨rfl, hb1⟩
        rw [hn]
        go_wp2_with fail
        refine (find_any v l s _ (hv.below hb1)).mono ?_
        rintro e w2 ⟨rfl, rfl⟩
        have hI : posI l s = -1 := by unfold posI; rw [hp]
        rw [hI]
        have HV := Lib.hid (hv.below hb1)
        obtain ⟨a, c, rfl, hm, hc⟩ := hv
        have h4' : ((l.length : Int) == 4096) = true := by rw [beq_iff_eq]; omega
        clear h4 hI hc
        go_wp2_with fail
        go_ret3
        exact ⟨_, by rw [HF.out]; rfl, by rw [HF.out]; exact HV.out, hb1, .inl rfl⟩
      · have hfin : putL l s = (l ++ [s], l.length, 0) := by simp [putL, hn, hp, h4]
        have HF := Lib.hid hfin
        clear hfin
        go_enter Try.func14, Try.ntmps14
        go_wp2_with fail
        refine (name_any s w hs).mono ?_
        rintro e w1 ⟨rfl, hb1⟩
        rw [hn]
        go_wp2_with fail
        refine (find_any v l s _ (hv.below hb1)).mono ?_
        rintro e w2 ⟨rfl, rfl⟩
        have hI : posI l s = -1 := by unfold posI; rw [hp]
        rw [hI]
        have HV := Lib.hid (hv.below hb1)
        obtain ⟨a, c, rfl, hm, hc⟩ := hv
        have h4' : ((l.length : Int) == 4096) = false := by rw [beq_eq_false_iff_ne]; omega
        clear h4 hI hc
        go_wp2_with (first | (at_builtin; refine wpList_app _ rfl (.tmp 23) (.tmp 24) 24 24 rfl w1.heap.size 9 i0 (.string ByteArray.empty) 1 16 Try.underlying24 hi hz0 hz1 hz2 rfl (by decide) _ 0 [] rfl (ownsRow_empty _ _ _) _ l.length (l.map .string) rfl (HV.out.alloc _).src (by unfold maxLen; omega) (by omega) (by simp) ?_; intro a3 c3 w3 ho3 hg3 hn3 hl3; rw [List.nil_append, Nat.zero_add] at ho3; rw [Nat.zero_add] at hl3 ⊢) | (at_builtin; refine wpList_app _ rfl (.tmp 25) (.tmp 27) 24 24 rfl w1.heap.size 9 i0 (.string ByteArray.empty) 1 16 Try.underlying24 hi hz0 hz1 hz2 rfl (by decide) _ _ _ rfl (ho3.alloc _) _ 1 [.string s] rfl (src_one _ Try.underlying24 _ _ rfl) (by unfold maxLen; omega) (by omega) (by have := hg3.size; simp at this ⊢; omega) ?_; intro a4 c4 w4 ho4 hg4 hn4 hl4))
        go_ret3
        have hb2 := hb1.alloc hb1.size (.cells #[] 9)
        have hb3 := hb2.grown hg3 hb2.size (fun k e => by cases e; exact hb1.size)
        have hs3 : ∀ k, (Value.slice a3 l.length c3).ownBlock = some k → w.heap.size ≤ k := fun k e => by
          rcases hl3 with h | h
          · rw [h] at e; cases e; exact hb1.size
          · rw [h] at e; cases e; exact hb2.size
        have hb4 := hb3.alloc hb3.size (.cells #[.string s] 9)
        have hb5 := hb4.grown hg4 hb4.size hs3
        refine ⟨.slice a4 (l.length + 1) c4, by rw [HF.out]; rfl, ?_, hb5, .inr fun k e => ?_⟩
        · rw [HF.out]
          exact Strs.of_owns (n := l.length + 1) (by simpa using ho4) (by simp; omega)
        · rcases hl4 with h | h
          · rw [h] at e; exact hs3 k e
          · rw [h] at e; cases e; exact hb4.size
  · have hn' : nameB s = false := by simpa using hn
    have hfin : putL l s = (l, 0, 30) := by simp [putL, hn']
    have HF := Lib.hid hfin
    clear hfin hn
    go_enter Try.func14, Try.ntmps14
    go_wp2_with fail
    refine (name_any s w hs).mono ?_
    rintro e w1 ⟨rfl, hb1⟩
    rw [hn']
    go_wp2_with fail
    go_ret3
    exact ⟨v, by rw [HF.out]; rfl, by rw [HF.out]; exact hv.below hb1, hb1, .inl rfl⟩
end Go.Proofs.Ytdogfkjdoldpiaa
