/- term.copied of a whole number. -/
import Derived.Test.YtoipepppdaalpaaM3
namespace Go.Proofs.Ytoipepppdaalpaa
open Go.RowKit
attribute [local go_sem] run_store_complex

theorem copied_any (n : Int) (w : World) : Calls Try.prog 22 #[tm 1 n] w (RB w (tm 1 n)) := by
  go_enter Try.func22, Try.ntmps22
  go_wp2_with fail
  refine wp_loop_rounds 1 ?_
  rw [rounds_succ]
  go_wp2_with fail
  exact bodyPost_ret (v := tm 1 n) (by simp [results, Try.results22, go_sem]) rfl ⟨rfl, ((Below.refl w.heap.size w).alloc (Nat.le_refl _) _).alloc (by simp) _⟩
end Go.Proofs.Ytoipepppdaalpaa
