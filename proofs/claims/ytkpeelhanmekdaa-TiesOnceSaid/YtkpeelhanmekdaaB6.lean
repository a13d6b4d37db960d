/- slices.SortFunc over ids, by the library's contract. -/
import Derived.Test.YtkpeelhanmekdaaC0
import Derived.Shelf.SlSortCmp.NoneTotal
namespace Go.Proofs.Ytkpeelhanmekdaa
set_option linter.unusedVariables false
set_option linter.unusedSimpArgs false
set_option linter.constructorNameAsVariable false
open Go.Shelf Go.RowKit Go.Lib Go.Sort Go.Proofs

theorem sortTold : SortTold := by
  intro blk cap l w hH hlt hl
  have eg : ∀ args w, (callFunc 31 args).run Try.prog w = .ok (.enter 31 args) w := enters_of Try.func31 (by kernel_rfl) rfl
  have hS := AnyQ.slices_SortFunc sortL 3 Try.isAgg31 Try.sizeOf31 encU (fun _ => rfl) encU_one cfU swoU 31 #[] blk 0 cap l.toArray w eg (cmp_lays blk 0 _ w) hH hlt (by simpa using hl)
  change Calls Try.prog 30 _ _ _ at hS
  refine (by simpa using hS : Calls Try.prog 30 #[.slice (some ⟨blk, 0, none⟩) l.length cap, .func (.func 31) #[] #[]] w _).mono ?_
  rintro e w' ⟨rfl, d', ⟨h1, h2, h3⟩, -, n, os, rfl⟩
  refine ⟨rfl, d'.toList, n, os, ?_, by simp⟩
  have e1 : d'.extract 0 l.length = d' := by rw [show l.length = d'.size by rw [h1]; simp, Array.extract_size]
  have e2 : l.toArray.extract 0 l.length = l.toArray := by rw [show l.length = l.toArray.size by simp, Array.extract_size]
  rw [e1, e2] at h3
  exact h3
theorem noneTold : NoneTold := by
  intro p cap fv w
  have hS := AnyF.slices_SortFunc_none (P := Try.prog) (ρ := sortL_ren) { sortL with } p cap fv w
  change Calls Try.prog 30 _ _ _ at hS
  exact hS.mono fun e w' ⟨h1, h2⟩ => ⟨h1, h2.symm⟩
end Go.Proofs.Ytkpeelhanmekdaa
