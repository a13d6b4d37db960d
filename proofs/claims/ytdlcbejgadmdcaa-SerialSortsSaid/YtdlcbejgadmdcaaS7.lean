/- The chapter's examples: alive. -/
import Derived.Test.YtdlcbejgadmdcaaS6
namespace Go.Proofs.Ytdlcbejgadmdcaa
open Go.Shelf Go.RowKit Go.Lib Go.Sort Go.Proofs

def uu (n : Nat) (h : n < 4294967296 := by decide) : U := ⟨n, by omega⟩
def exL : List U := [uu 0, uu 4294967295, uu 4294967294]
theorem exL_sorted : sortU 4294967295 exL = [uu 4294967295, uu 0, uu 4294967294] := (sortU_unique _ (by decide +kernel) (by decide +kernel)).symm
theorem ex1 : lessB 4294967295 0 = true := by decide +kernel
theorem ex2 : lessB 0 2147483648 = false := by decide +kernel
theorem ex3 : aheadI 4294967294 0 = 2 := by decide +kernel
theorem ex4 : aheadI 1 3 = 2 := by decide +kernel
theorem ex5 : maxI 4294967295 0 = 0 := by decide +kernel
theorem exSl (w : World) : Sl (w.alloc (.cells #[.int .u32 0, .int .u32 4294967295, .int .u32 4294967294] 22)) (.slice (some ⟨w.heap.size, 0, none⟩) 3 3) (exL.map encU) := by
  refine ⟨_, 3, rfl, by decide, fun _ => ⟨_, 0, rfl, fun j hj => ?_⟩⟩
  have hj : j < 3 := hj
  match j, hj with
  | 0, _ => simp; rfl
  | 1, _ => simp; rfl
  | 2, _ => simp; rfl
theorem alive_any (w : World) : Calls Try.prog 8 #[] w (RB w (.bool true)) := by
  go_enter Try.func8, Try.ntmps8
  go_wp2_with fail
  refine (sort_any (uu 4294967295) _ exL _ (exSl w) (by decide)).mono ?_
  rintro e w1 ⟨v, rfl, ho, hb⟩
  rw [show (uu 4294967295).1 = 4294967295 from rfl, exL_sorted] at ho
  obtain ⟨g, c, rfl⟩ := ownsRow_succ ho
  have c0 := ho.cells (g := g) rfl 0 _ rfl
  have c1 := ho.cells (g := g) rfl 1 _ rfl
  simp only [Addr.add_lit, Nat.zero_add] at c0 c1
  have C0 : w1.cell? ⟨g, 0, none⟩ = some (.int .u32 4294967295) := c0
  have C1 : w1.cell? ⟨g, 1, none⟩ = some (.int .u32 0) := c1
  have HB := Lib.hid hb
  clear ho hb c0 c1
  go_wp2_with fail
  refine (less_any _ _ _).mono ?_
  rintro e w2 ⟨rfl, rfl⟩
  rw [ex1]
  go_wp2_with fail
  refine (less_any _ _ _).mono ?_
  rintro e w2 ⟨rfl, rfl⟩
  rw [ex2]
  go_wp2_with fail
  refine (in_any _ _ _ _).mono ?_
  rintro e w2 ⟨rfl, rfl⟩
  rw [ex3]
  go_wp2_with fail
  refine (ahead_any _ _ _).mono ?_
  rintro e w2 ⟨rfl, rfl⟩
  rw [ex4]
  go_wp2_with fail
  refine (max_any _ _ _).mono ?_
  rintro e w2 ⟨rfl, rfl⟩
  rw [ex5]
  go_wp2_with fail
  go_ret
  exact ⟨rfl, ((Below.refl w.heap.size w).alloc (Nat.le_refl _) _).trans (HB.out.mono (by simp))⟩
end Go.Proofs.Ytdlcbejgadmdcaa
