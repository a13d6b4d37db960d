/- TiesOnce: for every input. -/
import Derived.Test.YtkpeelhanmekdaaB6
import Derived.Test.YtkpeelhanmekdaaD9
namespace Go.Proofs.Ytkpeelhanmekdaa
set_option linter.unusedVariables false
set_option linter.unusedSimpArgs false
set_option linter.constructorNameAsVariable false
open Go.RowKit

theorem once_row (n : Int) (v : Value) (zs : List Int) (l : Int) (w : World) (hn : (Lit.int .u8 n).wf = true) (hv : Sl w v (zs.map (Value.int .u8))) (hz : ∀ z ∈ zs, (Lit.int .u8 z).wf = true) (hl : (Lit.int .u8 l).wf = true) :
    Calls Try.prog 3 #[.int .u8 n, v, .int .u8 l] w (RB w (.bool true)) := by
  simp [Lit.wf, IntKind.min, IntKind.max, IntKind.signed, IntKind.bits] at hn hl
  obtain ⟨n, rfl⟩ : ∃ k : Nat, n = (k : Int) := ⟨n.toNat, by omega⟩
  obtain ⟨l, rfl⟩ : ∃ k : Nat, l = (k : Int) := ⟨l.toNat, by omega⟩
  refine once_of sortTold noneTold n l (by omega) (by omega) v zs w hv fun z h => ?_
  have := hz z h
  simp [Lit.wf, IntKind.min, IntKind.max, IntKind.signed, IntKind.bits] at this
  exact this
end Go.Proofs.Ytkpeelhanmekdaa
