/- A mailbox's small calls: New, left, none, Next, Again, Len. -/
import Derived.Test.YtoipepppdaalpaaM8
import Derived.Deep.QuietTactic
import Derived.BigQuiet
namespace Go.Proofs.Ytoipepppdaalpaa
open Go.RowKit
attribute [local go_sem] run_store_complex

theorem BoxAt.drewN {B : Nat} {w : World} {p : Nat} {v : Value} {ms : List Int} {over : Nat} (h : BoxAt B w p v ms over) (q : Nat) : BoxAt B (w.drewN q) p v ms over := h.keep fun _ _ => rfl
/-- as many more passed over -/
theorem BoxAt.setOver {B : Nat} {w : World} {p : Nat} {v : Value} {ms : List Int} {over : Nat} (h : BoxAt B w p v ms over) (k : Nat) : BoxAt B (w.setCell ⟨p, 1, none⟩ (.int .i64 k)) p v ms k := by
  refine ⟨h.base, ?_, ownsRow_setCell_other h.owns h.apart _, h.apart, h.form⟩
  rw [heap_setCell_same _ p 1 _ _ _ h.cells]
  rfl
theorem Turn.drewN {S : Nat → Prop} {a b : World} (h : Turn S a b) (q : Nat) : Turn S a (b.drewN q) := ⟨h.os, h.tape, h.output, h.size, h.block⟩
theorem new_any (w : World) : Calls Try.prog 5 #[] w fun e w' => e = .returned (.pointer (some ⟨w.heap.size, 0, none⟩)) ∧ w.alloc (.cells #[.slice none 0 0, .int .i64 0] 49) = w' := by
  go_enter Try.func5, Try.ntmps5
  go_wp2_with fail
  go_ret
  exact ⟨rfl, rfl⟩
theorem BoxAt.new (w : World) : BoxAt w.heap.size (w.alloc (.cells #[.slice none 0 0, .int .i64 0] 49)) w.heap.size (.slice none 0 0) [] 0 :=
  ⟨Nat.le_refl _, heap_new w _, World.ownsRow_nil _ _ _ _, by simp [Value.ownBlock], ⟨none, 0, rfl⟩⟩
theorem left_yes (B p : Nat) (v : Value) (ms : List Int) (over : Nat) (w : World) (h : BoxAt B w p v ms over) (hl : over < ms.length) : Calls Try.prog 19 #[.pointer (some ⟨p, 0, none⟩)] w fun e w' => e = .returned (.bool true) ∧ ∃ q, w' = w.drewN q := by
  obtain ⟨a, c, rfl⟩ := h.form
  have h0 := h.c0
  have h1 := h.c1
  have hi : (over : Int) < (ms.length : Int) := by omega
  clear h
  go_enter Try.func19, Try.ntmps19
  go_wp2_with fail
  go_quiet (fail)
  go_wp2_with fail
  go_ret
  exact ⟨ret_bool (by simp <;> omega), _, rfl⟩
theorem left_no (B p : Nat) (v : Value) (ms : List Int) (over : Nat) (w : World) (h : BoxAt B w p v ms over) (hl : ¬ over < ms.length) : Calls Try.prog 19 #[.pointer (some ⟨p, 0, none⟩)] w fun e w' => e = .returned (.bool false) ∧ ∃ q, w' = w.drewN q := by
  obtain ⟨a, c, rfl⟩ := h.form
  have h0 := h.c0
  have h1 := h.c1
  clear h
  go_enter Try.func19, Try.ntmps19
  go_wp2_with fail
  go_quiet (fail)
  go_wp2_with fail
  go_ret
  exact ⟨ret_bool (by simp <;> omega), _, rfl⟩
theorem none_yes (B p : Nat) (v : Value) (ms : List Int) (over : Nat) (w : World) (h : BoxAt B w p v ms over) (hl : over < ms.length) : Calls Try.prog 17 #[.pointer (some ⟨p, 0, none⟩)] w fun e w' => e = .returned (.int .i64 0) ∧ ∃ q, w' = w.drewN q := by
  have H := Lib.hid (left_yes B p v ms over w h hl)
  clear h
  go_enter Try.func17, Try.ntmps17
  go_wp2_with fail
  refine H.out.mono ?_
  rintro e w1 ⟨rfl, q, rfl⟩
  go_wp2_with fail
  go_ret
  exact ⟨rfl, _, rfl⟩
theorem none_no (B p : Nat) (v : Value) (ms : List Int) (over : Nat) (w : World) (h : BoxAt B w p v ms over) (hl : ¬ over < ms.length) : Calls Try.prog 17 #[.pointer (some ⟨p, 0, none⟩)] w fun e w' => e = .returned (.int .i64 211) ∧ ∃ q, w' = w.drewN q := by
  have H := Lib.hid (left_no B p v ms over w h hl)
  clear h
  go_enter Try.func17, Try.ntmps17
  go_wp2_with fail
  refine H.out.mono ?_
  rintro e w1 ⟨rfl, q, rfl⟩
  go_wp2_with fail
  go_ret
  exact ⟨rfl, _, rfl⟩
def nextO (ms : List Int) (over : Nat) : Nat := if over < ms.length then over + 1 else over
def errO (ms : List Int) (over : Nat) : Int := if over < ms.length then 0 else 211
theorem next_any (B p : Nat) (v : Value) (ms : List Int) (over : Nat) (w : World) (h : BoxAt B w p v ms over) (hl : ms.length ≤ 256) : Calls Try.prog 8 #[.pointer (some ⟨p, 0, none⟩)] w fun e w' => e = .returned (.int .i64 (errO ms over)) ∧ BoxAt B w' p v ms (nextO ms over) ∧ Turn (fun i => i = p) w w' := by
  by_cases ho : over < ms.length
  · have he : errO ms over = 0 := if_pos ho
    have hn : nextO ms over = over + 1 := if_pos ho
    rw [he, hn]
    clear he hn
    have H := Lib.hid (none_yes B p v ms over w h ho)
    have HX := Lib.hid h
    go_enter Try.func8, Try.ntmps8
    go_wp2_with fail
    refine H.out.mono ?_
    rintro e w1 ⟨rfl, q, rfl⟩
    have h1 := HX.out.c1
    have hf := HX.out.fz 1
    clear h
    go_wp2_with fail
    go_ret
    exact ⟨rfl, (HX.out.setOver (over + 1)).drewN q, (Turn.setCell w p 1 _).drewN q⟩
  · have he : errO ms over = 211 := if_neg ho
    have hn : nextO ms over = over := if_neg ho
    rw [he, hn]
    clear he hn
    have H := Lib.hid (none_no B p v ms over w h ho)
    have HX := Lib.hid h
    clear h
    go_enter Try.func8, Try.ntmps8
    go_wp2_with fail
    refine H.out.mono ?_
    rintro e w1 ⟨rfl, q, rfl⟩
    go_wp2_with fail
    go_ret
    exact ⟨rfl, HX.out.drewN q, (Turn.refl _ w).drewN q⟩
theorem again_any (B p : Nat) (v : Value) (ms : List Int) (over : Nat) (w : World) (h : BoxAt B w p v ms over) : Calls Try.prog 10 #[.pointer (some ⟨p, 0, none⟩)] w fun e w' => e = .returned (.tuple #[]) ∧ BoxAt B w' p v ms 0 ∧ Turn (fun i => i = p) w w' := by
  have h1 := h.c1
  have hf := h.fz 1
  have HX := Lib.hid h
  clear h
  go_enter Try.func10, Try.ntmps10
  go_wp2_with fail
  go_end0
  exact ⟨rfl, HX.out.setOver 0, Turn.setCell w p 1 _⟩
theorem len_any (B p : Nat) (v : Value) (ms : List Int) (over : Nat) (w : World) (h : BoxAt B w p v ms over) : Calls Try.prog 13 #[.pointer (some ⟨p, 0, none⟩)] w (RW w (.int .i64 ms.length)) := by
  obtain ⟨a, c, rfl⟩ := h.form
  have h1 := h.c0
  clear h
  go_enter Try.func13, Try.ntmps13
  go_wp2_with fail
  go_ret
  exact ⟨rfl, rfl⟩
end Go.Proofs.Ytoipepppdaalpaa
