/- The table of names in memory: Name, Put. -/
import Derived.Test.YtdogfkjdoldpiaaA5
namespace Go.Proofs.Ytdogfkjdoldpiaa
open Go.RowKit Go.Maps

set_option maxHeartbeats 400000 in
theorem tname_in (p m : Nat) (v : Value) (l : List ByteArray) (n : Nat) (w : World) (h : Tab w p m v l) (hn : n < l.length) :
    Calls Try.prog 21 #[.pointer (some ⟨p, 0, none⟩), .int .i64 n] w (RW w (.tuple #[.string l[n], .int .i64 0])) := by
  obtain ⟨c0, c1, f0, f1⟩ := h.cells
  have hlen := h.len
  obtain ⟨a, c, rfl, hm, hc⟩ := h.strs
  obtain ⟨b, off, rfl, hcell⟩ := hc (by omega)
  have hck := hcell n hn
  have hg : ¬ ((n : Int) < 0) := by omega
  clear h hcell hc
  go_enter Try.func21, Try.ntmps21
  go_wp2
  go_ret2
  exact ⟨rfl, rfl⟩
set_option maxHeartbeats 400000 in
theorem tname_out (p m : Nat) (v : Value) (l : List ByteArray) (n : Int) (w : World) (h : Tab w p m v l) (hn : n < 0 ∨ (l.length : Int) ≤ n) :
    Calls Try.prog 21 #[.pointer (some ⟨p, 0, none⟩), .int .i64 n] w (RW w (.tuple #[.string ByteArray.empty, .int .i64 32])) := by
  obtain ⟨c0, c1, f0, f1⟩ := h.cells
  have hlen := h.len
  obtain ⟨a, c, rfl, hm, hc⟩ := h.strs
  clear h hc
  by_cases h0 : n < 0
  · clear hn
    go_enter Try.func21, Try.ntmps21
    go_wp2
    go_ret2
    exact ⟨rfl, rfl⟩
  · have h1 : (l.length : Int) ≤ n := by omega
    clear hn
    go_enter Try.func21, Try.ntmps21
    go_wp2
    go_ret2
    exact ⟨rfl, rfl⟩
set_option maxHeartbeats 400000 in
theorem tname_nil (n : Int) (w : World) : Calls Try.prog 21 #[.pointer none, .int .i64 n] w (RW w (.tuple #[.string ByteArray.empty, .int .i64 1])) := by
  go_enter Try.func21, Try.ntmps21
  go_wp2
  go_ret2
  exact ⟨rfl, rfl⟩

def TPutPost (W : World) (p m : Nat) (v : Value) (l : List ByteArray) (s : ByteArray) (e : Ending) (w' : World) : Prop :=
  ∃ v', e = .returned (.tuple #[.int .i64 (putL l s).2.1, .int .i64 (putL l s).2.2]) ∧ Tab w' p m v' (putL l s).1 ∧ Turn (tabIn p m v) W w' ∧ (v'.ownBlock = v.ownBlock ∨ ∀ b, v'.ownBlock = some b → W.heap.size ≤ b)
set_option maxHeartbeats 400000 in
theorem tput_nil (s : ByteArray) (w : World) : Calls Try.prog 13 #[.pointer none, .string s] w (RW w (.tuple #[.int .i64 0, .int .i64 1])) := by
  go_enter Try.func13, Try.ntmps13
  go_wp2
  go_ret2
  exact ⟨rfl, rfl⟩
set_option maxHeartbeats 400000 in
theorem tput_bad (p m : Nat) (v : Value) (l : List ByteArray) (s : ByteArray) (w : World) (h : Tab w p m v l) (hs : s.size ≤ maxLen) (hn : nameB s = false) :
    Calls Try.prog 13 #[.pointer (some ⟨p, 0, none⟩), .string s] w (TPutPost w p m v l s) := by
  have hfin : putL l s = (l, 0, 30) := by simp [putL, hn]
  have HF := Lib.hid hfin
  clear hfin
  go_enter Try.func13, Try.ntmps13
  go_wp2_with fail
  refine (right_any s w hs).mono ?_
  rintro e w1 ⟨rfl, hb1⟩
  rw [hn]
  go_wp2_with fail
  go_ret2
  exact ⟨v, by rw [HF.out]; rfl, by rw [HF.out]; exact h.below hb1, .of_below hb1, .inl rfl⟩
set_option maxHeartbeats 400000 in
theorem tput_there (p m : Nat) (v : Value) (l : List ByteArray) (s : ByteArray) (i : Nat) (w : World) (h : Tab w p m v l) (hs : s.size ≤ maxLen) (hn : nameB s = true) (hp : pos l s = some i) :
    Calls Try.prog 13 #[.pointer (some ⟨p, 0, none⟩), .string s] w (TPutPost w p m v l s) := by
  have hfin : putL l s = (l, i, 0) := by simp [putL, hn, hp]
  have HF := Lib.hid hfin
  have HK : Hid (keyOf Try.prog 9 (.string s) = some (key s)) := Go.WideMaps.keyOf_string_mk Try.underlying9 hs
  have HA := Lib.hid (at_mapOf h.nd s)
  have hH := has_mapOf l s
  rw [hp] at hH
  have HH := Lib.hid hH
  have HP := Lib.hid hp
  clear hfin hH hp
  go_enter Try.func13, Try.ntmps13
  go_wp2_with fail
  refine (right_any s w hs).mono ?_
  rintro e w1 ⟨rfl, hb1⟩
  rw [hn]
  have h1 := h.below hb1
  obtain ⟨c0, c1, f0, f1⟩ := h1.cells
  have HM := Lib.hid h1.map
  have H1 := Lib.hid h1
  clear h h1
  go_wp2_with (at_lookup; refine wpList_lookup_own_ok_int _ rfl _ _ 52 rfl 9 3 .i64 lawS Try.underlying52 Try.underlying3 (zeroI _) m _ _ rfl HM.out _ _ rfl HK.out ?_; intro cc hat hwc; rw [HH.out]; have HC := Lib.hid hat; clear hat hwc)
  go_ret2
  have e1 := HA.out.symm.trans HC.out
  rw [HP.out] at e1
  simp only [num, DataW.lit.injEq, Lit.int.injEq, true_and, Option.getD_some] at e1
  exact ⟨v, by rw [HF.out, ← e1]; rfl, by rw [HF.out]; exact H1.out, .of_below hb1, .inl rfl⟩
set_option maxHeartbeats 400000 in
theorem tput_full (p m : Nat) (v : Value) (l : List ByteArray) (s : ByteArray) (w : World) (h : Tab w p m v l) (hs : s.size ≤ maxLen) (hn : nameB s = true) (hp : pos l s = none) (h4 : l.length = 4096) :
    Calls Try.prog 13 #[.pointer (some ⟨p, 0, none⟩), .string s] w (TPutPost w p m v l s) := by
  have hfin : putL l s = (l, 0, 31) := by simp [putL, hn, hp, h4]
  have HF := Lib.hid hfin
  have HK : Hid (keyOf Try.prog 9 (.string s) = some (key s)) := Go.WideMaps.keyOf_string_mk Try.underlying9 hs
  have hH := has_mapOf l s
  rw [hp] at hH
  have HH := Lib.hid hH
  have hge : (4096 : Int) ≤ (l.length : Int) := by omega
  clear hfin hH hp h4
  go_enter Try.func13, Try.ntmps13
  go_wp2_with fail
  refine (right_any s w hs).mono ?_
  rintro e w1 ⟨rfl, hb1⟩
  rw [hn]
  have h1 := h.below hb1
  obtain ⟨c0, c1, f0, f1⟩ := h1.cells
  have HM := Lib.hid h1.map
  have H1 := Lib.hid h1
  obtain ⟨a, c, rfl⟩ := row_slice h1.row
  clear h h1
  go_wp2_with (at_lookup; refine wpList_lookup_own_ok_int _ rfl _ _ 52 rfl 9 3 .i64 lawS Try.underlying52 Try.underlying3 (zeroI _) m _ _ rfl HM.out _ _ rfl HK.out ?_; intro cc hat hwc; rw [HH.out]; have HC := Lib.hid hat; clear hat hwc)
  go_ret2
  exact ⟨_, by rw [HF.out]; rfl, by rw [HF.out]; exact H1.out, .of_below hb1, .inl rfl⟩
end Go.Proofs.Ytdogfkjdoldpiaa
