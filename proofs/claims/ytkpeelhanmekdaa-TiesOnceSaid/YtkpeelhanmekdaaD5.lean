/- rookerylaw22's id; plain facts on it. -/
import Derived.Test.YtkpeelhanmekdaaD4
import Derived.Test.YtkpeelhanmekdaaC8
namespace Go.Proofs.Ytkpeelhanmekdaa
set_option linter.unusedVariables false
set_option linter.unusedSimpArgs false
set_option linter.constructorNameAsVariable false
open Go.Shelf Go.RowKit Go.Lib Go.Proofs
set_option maxRecDepth 100000

theorem id_any (node n : Int) (w : World) : Calls Try.prog 6 #[.int .i64 node, .int .u64 n] w (RB w (.agg #[.int .i64 node, .int .u32 1, .int .u64 n])) := by
  go_enter Try.func6, Try.ntmps6
  go_wp2_with fail
  exact bodyPost_ret (v := .agg #[.int .i64 node, .int .u32 1, .int .u64 n]) (by simp [results, Try.results6, go_sem]) rfl ⟨rfl, (Below.refl w.heap.size w).alloc (Nat.le_refl _) _⟩
theorem idok (a b : Nat) (h1 : 1 ≤ a) (h2 : a ≤ 64) (h3 : 1 ≤ b) (h4 : b ≤ 1000) : IdOk ⟨a, 1, b⟩ := ⟨h1, h2, Nat.le_refl 1, show 1 ≤ 4294967295 by decide, h3, show b ≤ 18446744073709551615 by omega⟩
end Go.Proofs.Ytkpeelhanmekdaa
