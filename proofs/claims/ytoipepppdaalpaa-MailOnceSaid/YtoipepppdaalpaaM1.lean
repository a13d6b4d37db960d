/- Terms of whole numbers, and what is told of them: num.Right, empty, the closures of the table of kinds. -/
import Derived.Test.YtoipepppdaalpaaL0
import Derived.Test.YtoipepppdaalpaaL1
import Derived.BigRegion
namespace Go.Proofs.Ytoipepppdaalpaa
open Go.RowKit

theorem run_store_complex {P : Program} {w : World} {a : Addr} {m : Mode} (k : FloatKind) (p q : Nat) : (store a (.complex k p q) m).run P w = stored P w a (.complex k p q) m := run_store P w a _ m rfl
theorem run_store_nilFunc' {P : Program} {w : World} {a : Addr} {m : Mode} : (store a .nilFunc m).run P w = stored P w a .nilFunc m := run_store P w a _ m rfl
theorem run_store_func' {P : Program} {w : World} {a : Addr} {m : Mode} (fn : Fn) (first captured : Array Value) : (store a (.func fn first captured) m).run P w = stored P w a (.func fn first captured) m := run_store P w a _ m rfl
attribute [local go_sem] run_store_complex
/-- a term's cells, its lists empty -/
abbrev tm (k n : Int) : Value := .agg #[.int .i64 k, .int .i64 n, .complex .f64 0 0, .string ⟨#[]⟩, .int .i64 0, .int .u32 0, .int .u64 0, .slice none 0 0, .slice none 0 0]
theorem cx_eql (w : World) : (binOp .eql 28 (.complex .f64 0 0) (.complex .f64 0 0)).run Try.prog w = .ok (.bool true) w := by kernel_rfl
theorem right_any (n : Int) (w : World) (h0 : 0 ≤ n) (h1 : n ≤ 1000) : Calls Try.prog 24 #[tm 1 n] w (RB w (.bool true)) := by
  have hcx := cx_eql
  have hn1 : (-4611686018427387904 : Int) ≤ n := by omega
  have hn2 : n ≤ 4611686018427387903 := by omega
  go_enter Try.func24, Try.ntmps24
  go_wp2_with fail
  go_ret
  exact ⟨rfl, (Below.refl _ _).alloc (Nat.le_refl _) _⟩
theorem good_any (n : Int) (w : World) (h0 : 0 ≤ n) (h1 : n ≤ 1000) : Calls Try.prog 23 #[tm 1 n] w (RB w (.bool true)) := by
  go_enter Try.func23, Try.ntmps23
  go_wp2_with fail
  refine (right_any n _ h0 h1).mono ?_
  rintro e w1 ⟨rfl, hb1⟩
  have HB := Lib.hid hb1
  clear hb1
  go_wp2_with fail
  go_ret
  exact ⟨rfl, ((Below.refl w.heap.size w).alloc (Nat.le_refl _) _).trans (HB.out.mono (by simp))⟩
theorem bare_any (n : Int) (w : World) : Calls Try.prog 30 #[tm 1 n] w (RB w (tm 1 0)) := by
  go_enter Try.func30, Try.ntmps30
  go_wp2_with fail
  exact bodyPost_ret (v := tm 1 0) (by simp [results, Try.results30, go_sem]) rfl ⟨rfl, ((Below.refl w.heap.size w).alloc (Nat.le_refl _) _).alloc (by simp) _⟩
theorem empty_any (w : World) : Calls Try.prog 36 #[tm 1 0] w (RB w (.bool true)) := by
  have hcx := cx_eql
  go_enter Try.func36, Try.ntmps36
  go_wp2_with fail
  go_ret
  exact ⟨rfl, (Below.refl _ _).alloc (Nat.le_refl _) _⟩
theorem number_any (n : Int) (w : World) : Calls Try.prog 7 #[.int .i64 n] w (RB w (tm 1 n)) := by
  go_enter Try.func7, Try.ntmps7
  go_wp2_with fail
  exact bodyPost_ret (v := tm 1 n) (by simp [results, Try.results7, go_sem]) rfl ⟨rfl, (Below.refl w.heap.size w).alloc (Nat.le_refl _) _⟩
end Go.Proofs.Ytoipepppdaalpaa
