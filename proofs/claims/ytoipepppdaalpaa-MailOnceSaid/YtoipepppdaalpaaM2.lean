/- The table of kinds. -/
import Derived.Test.YtoipepppdaalpaaM1
import Derived.Laws.Tables
namespace Go.Proofs.Ytoipepppdaalpaa
open Go.RowKit

/-- the table of kinds -/
abbrev fv (k : Nat) : Value := .func (.func k) #[] #[]
abbrev kTab : Array Value := #[.nilFunc, .nilFunc, fv 30, fv 23, fv 31, fv 23, fv 32, fv 33, fv 28, fv 25, fv 28, fv 25, fv 29, fv 27, fv 29, fv 27, fv 35, fv 27]
abbrev zTab : Array Value := #[.nilFunc, .nilFunc, .nilFunc, .nilFunc, .nilFunc, .nilFunc, .nilFunc, .nilFunc, .nilFunc, .nilFunc, .nilFunc, .nilFunc, .nilFunc, .nilFunc, .nilFunc, .nilFunc, .nilFunc, .nilFunc]
theorem setRow_new (w : World) (old cells : Array Value) (t : TypeId) : (w.alloc (.cells old t)).setRow w.heap.size cells = w.alloc (.cells cells t) := by
  unfold World.setRow World.alloc
  congr 1
  apply Array.ext_getElem?
  intro k
  simp only [Array.getElem?_modify, Array.getElem?_push]
  by_cases hk : w.heap.size = k
  · subst hk; simp
  · have : ¬ k = w.heap.size := fun e => hk e.symm
    simp [hk, this]
set_option maxRecDepth 100000 in
theorem kinds_any (w : World) : Calls Try.prog 20 #[] w (RB w (.agg kTab)) := by
  go_enter Try.func20, Try.ntmps20
  have hi56 : (Try.prog.info? 56).map (·.size) = some kTab.size := by kernel_rfl
  have hall : kTab.all (·.oneCell') = true := by kernel_rfl
  go_wp2_with (refine wpList_store_row rfl 56 (.tmp 0) (.tmp 25) rfl w.heap.size kTab rfl rfl 56 zTab (heap_new _ _) hi56 rfl hall ?_; rw [setRow_new])
  exact bodyPost_ret (v := .agg kTab) (by simp [results, Try.results20, go_sem]) rfl ⟨rfl, (Below.refl w.heap.size w).alloc (Nat.le_refl _) _⟩
end Go.Proofs.Ytoipepppdaalpaa
