/- term.Check, term.Copy of a whole number. -/
import Derived.Test.YtoipepppdaalpaaM3
namespace Go.Proofs.Ytoipepppdaalpaa
open Go.RowKit
attribute [local go_sem] run_store_complex

abbrev lTab : Array Value := #[.int .i64 0, .nilFunc, .nilFunc, fv 30, fv 23, fv 31, fv 23, fv 32, fv 33, fv 28, fv 25, fv 28, fv 25, fv 29, fv 27, fv 29, fv 27, fv 35, fv 27]
abbrev zlTab : Array Value := #[.int .i64 0, .nilFunc, .nilFunc, .nilFunc, .nilFunc, .nilFunc, .nilFunc, .nilFunc, .nilFunc, .nilFunc, .nilFunc, .nilFunc, .nilFunc, .nilFunc, .nilFunc, .nilFunc, .nilFunc, .nilFunc, .nilFunc]
set_option maxRecDepth 100000 in
set_option maxHeartbeats 1000000 in
theorem check_any (n : Int) (w : World) (h0 : 0 ≤ n) (h1 : n ≤ 1000) : Calls Try.prog 14 #[tm 1 n] w (RB w (.int .i64 0)) := by
  have hi59 : (Try.prog.info? 59).map (·.size) = some lTab.size := by kernel_rfl
  have hall : lTab.all (·.oneCell') = true := by kernel_rfl
  go_enter Try.func14, Try.ntmps14
  go_wp2_with fail
  refine (kinds_any _).mono ?_
  rintro e w1 ⟨rfl, hb1⟩
  have ht1 : TmAt w1 w.heap.size 1 n := TmAt.block (tm_cells w 1 n) (hb1.block _ (by simp))
  have HB1 := Lib.hid (((Below.refl w.heap.size w).alloc (Nat.le_refl _) _).trans (hb1.mono (by simp)))
  have hs1 : w.heap.size < w1.heap.size := by have := hb1.size; simp at this; omega
  clear hb1
  have hbe : Hid (w.heap.size = w.heap.size) := rfl
  generalize hb : w.heap.size = b at *
  have HBE := Lib.hid hb
  clear hb hbe
  obtain ⟨k0, k1, k2, k3, k4, k5, k6, k7, k8⟩ := ht1
  go_wp2_with (refine wpList_store_row rfl 59 (.tmp 3) (.tmp 5) rfl w1.heap.size lTab rfl rfl 59 zlTab (heap_new _ _) hi59 rfl hall ?_; rw [setRow_new])
  refine (part_any n w1.heap.size _ h0 h1 (by simp) (by simp) (by simp) (by simp)).mono ?_
  rintro e w2 ⟨rfl, ht⟩
  have hb2 : Below b w1 w2 := ((Below.refl b w1).alloc (by omega) (.cells lTab 59)).trans (ht.below (by simp; omega) (fun i e => by omega))
  have HB2 := Lib.hid (HB1.out.trans hb2)
  clear ht hb2 k0 k1 k2 k3 k4 k5 k6 k7 k8
  go_wp2_with fail
  go_ret
  exact ⟨rfl, by rw [HBE.out]; exact HB2.out⟩
end Go.Proofs.Ytoipepppdaalpaa
