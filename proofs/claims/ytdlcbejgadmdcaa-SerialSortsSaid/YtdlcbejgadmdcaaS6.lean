/- serial.Sort by the library's contract, as it is; the chapter's examples: alive. -/
import Derived.Test.YtdlcbejgadmdcaaS5
import Derived.Shelf.SlSortCmp.NoneTotal
namespace Go.Proofs.Ytdlcbejgadmdcaa
open Go.Shelf Go.RowKit Go.Lib Go.Sort Go.Proofs

theorem sortTold : SortTold := by
  intro base b blk cap l w hne hb hH hlt hl
  have eg : ∀ args w, (callFunc 19 args).run Try.prog w = .ok (.enter 19 args) w := enters_of Try.func19 (by kernel_rfl) rfl
  have hS := Any.slices_SortFunc_total sortL encU (fun _ => rfl) (cfU base.1) (swoU base.1) 19 #[.pointer (some ⟨b, 0, none⟩)] blk 0 cap l.toArray w eg (closure_reads base b w blk _ hne hb).lays hH hlt (by simpa using hl) (totU base.1)
  change Calls Try.prog 18 _ _ _ at hS
  simpa [sortU] using hS
theorem noneTold : NoneTold := by
  intro p cap fv w
  have hS := AnyF.slices_SortFunc_none (P := Try.prog) (ρ := sortL_ren) { sortL with } p cap fv w
  change Calls Try.prog 18 _ _ _ at hS
  exact hS.mono fun e w' ⟨h1, h2⟩ => ⟨h1, h2.symm⟩
theorem sort_any (base : U) (v : Value) (l : List U) (W : World) (hv : Sl W v (l.map encU)) (hl : l.length * 4 ≤ 140737488355328) :
    Calls Try.prog 15 #[.int .u32 base.1, v] W (RE W fun r w' => w'.ownsRow W.heap.size 22 1 r l.length ((sortU base.1 l).map encU)) :=
  sort_of sortTold noneTold base v l W hv hl
end Go.Proofs.Ytdlcbejgadmdcaa
