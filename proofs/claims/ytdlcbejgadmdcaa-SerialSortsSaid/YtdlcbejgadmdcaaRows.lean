/-
  No cell of these rows narrows 'for every input' (looked for: loops, veiled, ifaces, maps, wideKeys, modest, calm, conditions, laid).
  DERIVED. THE GIVEN ROWS OF THIS SEAT. 5 by the template 'for every input the law returns true; each argument reads behind the call as it read before'; 0 by the template 'total and deterministic' (their statements: YtdlcbejgadmdcaaTotals.lean).
  GIVEN WITH THE SEED: the statements are not yours to turn. If you find one false, say at which input.
  Laid BY PROGRAM, IN A SANDBOX (cutbox-rows.mjs): the forced cells as the released guide's own fill.sh prints them over the translation 7b61d8017d000566… (all of the seat's roots in one cut). By AI agents, Wed Nov 11 2026. No macro, syntax, notation, axiom, sorry.
-/
import Derived.Test.YtdlcbejgadmdcaaChecked
import GoSem.Claim
import GoSem.ClaimJoined
import GoSem.ClaimMapViews
import Derived.JoinedTies
import Derived.KernelRfl
namespace Go.Proofs.Ytdlcbejgadmdcaa
/- THE CELL 'sum', in the pinned program and in every row, IS THE sha256 OF THE DUMP (.gsa) THAT YtdlcbejgadmdcaaProg.lean LOADS. Nothing in Lean hashes anything: it is a label: what it is worth is what the hold of that sum in a sandbox is worth. -/
noncomputable def Try.pinned : Pinned := { name := "ytdlcbejgadmdcaa", sum := "7b61d8017d00056674a7895ee684fd40e635c9605d595c6406101ac194825e8f", checked := Try.checked }
namespace Rows
def none {H : Type} : Left H := { results := [], args := [] }

/-- 'rookerylaw08.SerialTells': WHATEVER THE INPUT: true; the input reads as it did. -/
def serialTellsSpec : ChangeSpec := { name := "serialTells", fn := fun _ => fun
  | [d1, d2, d3] => { results := [.lit (.bool true)], args := [d1, d2, d3] }
  | _ => none }
def serialTellsRow : OpenClaim := { program := "ytdlcbejgadmdcaa", sum := "7b61d8017d00056674a7895ee684fd40e635c9605d595c6406101ac194825e8f", func := "rookery/rookerylaw08.SerialTells", spec := "serialTells", unfollowed := true, recurses := true, apart := false }
def SerialTellsSaid : Prop := serialTellsRow.holds Try.pinned (OpenSpec.ofChange serialTellsSpec)

/-- ITS FALSE NEIGHBOUR: 'it returns false'. Refute it at one input. -/
def serialTellsWrong : ChangeSpec := { name := "serialTells", fn := fun _ => fun
  | [d1, d2, d3] => { results := [.lit (.bool false)], args := [d1, d2, d3] }
  | _ => none }
def SerialTellsWrongFalsely : Prop := serialTellsRow.holds Try.pinned (OpenSpec.ofChange serialTellsWrong)

/-- 'rookerylaw08.SerialSorts': WHATEVER THE INPUT: true; the input reads as it did. -/
def serialSortsSpec : ChangeSpec := { name := "serialSorts", fn := fun _ => fun
  | [d1, d2] => { results := [.lit (.bool true)], args := [d1, d2] }
  | _ => none }
def serialSortsRow : OpenClaim := { program := "ytdlcbejgadmdcaa", sum := "7b61d8017d00056674a7895ee684fd40e635c9605d595c6406101ac194825e8f", func := "rookery/rookerylaw08.SerialSorts", spec := "serialSorts", unfollowed := true, recurses := true, apart := false }
def SerialSortsSaid : Prop := serialSortsRow.holds Try.pinned (OpenSpec.ofChange serialSortsSpec)

/-- ITS FALSE NEIGHBOUR: 'it returns false'. Refute it at one input. -/
def serialSortsWrong : ChangeSpec := { name := "serialSorts", fn := fun _ => fun
  | [d1, d2] => { results := [.lit (.bool false)], args := [d1, d2] }
  | _ => none }
def SerialSortsWrongFalsely : Prop := serialSortsRow.holds Try.pinned (OpenSpec.ofChange serialSortsWrong)

/-- 'rookerylaw08.SerialOne': WHATEVER THE INPUT: true; the input reads as it did. -/
def serialOneSpec : ChangeSpec := { name := "serialOne", fn := fun _ => fun
  | [d1, d2, d3] => { results := [.lit (.bool true)], args := [d1, d2, d3] }
  | _ => none }
def serialOneRow : OpenClaim := { program := "ytdlcbejgadmdcaa", sum := "7b61d8017d00056674a7895ee684fd40e635c9605d595c6406101ac194825e8f", func := "rookery/rookerylaw08.SerialOne", spec := "serialOne", unfollowed := true, recurses := true, apart := false }
def SerialOneSaid : Prop := serialOneRow.holds Try.pinned (OpenSpec.ofChange serialOneSpec)

/-- ITS FALSE NEIGHBOUR: 'it returns false'. Refute it at one input. -/
def serialOneWrong : ChangeSpec := { name := "serialOne", fn := fun _ => fun
  | [d1, d2, d3] => { results := [.lit (.bool false)], args := [d1, d2, d3] }
  | _ => none }
def SerialOneWrongFalsely : Prop := serialOneRow.holds Try.pinned (OpenSpec.ofChange serialOneWrong)

/-- 'rookerylaw08.SerialWindow': WHATEVER THE INPUT: true; the input reads as it did. -/
def serialWindowSpec : ChangeSpec := { name := "serialWindow", fn := fun _ => fun
  | [d1, d2, d3, d4, d5] => { results := [.lit (.bool true)], args := [d1, d2, d3, d4, d5] }
  | _ => none }
def serialWindowRow : OpenClaim := { program := "ytdlcbejgadmdcaa", sum := "7b61d8017d00056674a7895ee684fd40e635c9605d595c6406101ac194825e8f", func := "rookery/rookerylaw08.SerialWindow", spec := "serialWindow", unfollowed := true, recurses := true, apart := false }
def SerialWindowSaid : Prop := serialWindowRow.holds Try.pinned (OpenSpec.ofChange serialWindowSpec)

/-- ITS FALSE NEIGHBOUR: 'it returns false'. Refute it at one input. -/
def serialWindowWrong : ChangeSpec := { name := "serialWindow", fn := fun _ => fun
  | [d1, d2, d3, d4, d5] => { results := [.lit (.bool false)], args := [d1, d2, d3, d4, d5] }
  | _ => none }
def SerialWindowWrongFalsely : Prop := serialWindowRow.holds Try.pinned (OpenSpec.ofChange serialWindowWrong)

/-- 'rookerylaw08.SerialRises': WHATEVER THE INPUT: true; the input reads as it did. -/
def serialRisesSpec : ChangeSpec := { name := "serialRises", fn := fun _ => fun
  | [d1, d2] => { results := [.lit (.bool true)], args := [d1, d2] }
  | _ => none }
def serialRisesRow : OpenClaim := { program := "ytdlcbejgadmdcaa", sum := "7b61d8017d00056674a7895ee684fd40e635c9605d595c6406101ac194825e8f", func := "rookery/rookerylaw08.SerialRises", spec := "serialRises", unfollowed := true, recurses := true, apart := false }
def SerialRisesSaid : Prop := serialRisesRow.holds Try.pinned (OpenSpec.ofChange serialRisesSpec)

/-- ITS FALSE NEIGHBOUR: 'it returns false'. Refute it at one input. -/
def serialRisesWrong : ChangeSpec := { name := "serialRises", fn := fun _ => fun
  | [d1, d2] => { results := [.lit (.bool false)], args := [d1, d2] }
  | _ => none }
def SerialRisesWrongFalsely : Prop := serialRisesRow.holds Try.pinned (OpenSpec.ofChange serialRisesWrong)

/- THE SECOND FORM. 'bulk': how many values and letters a reading holds, each counted each time it is reached (what is shared counts as often as it is met; a slice's spare places count too). A statement '..UptoSaid' is the law's where the arguments, and the package variables that the reading takes, are together of bulk at most 1048576: NARROWER than '..Said'. Prove '..Said' where nothing that the law and all that it calls make is longer than what came in: it says more and counts as full. Else prove '..UptoSaid'. A law counts once. -/
mutual
def uptoBulk {H : Type} : DataW H → Nat
  | .lit (.string bytes) => bytes.length + 1
  | .lit _ => 1
  | .nil => 1
  | .ptr d => uptoBulk d + 1
  | .slice elems spare => uptoBulkAll elems + uptoBulkAll spare + 1
  | .agg parts => uptoBulkAll parts + 1
  | .iface _ d => uptoBulk d + 1
  | .map entries => uptoBulkEntries entries + 1
  | .held _ => 1
def uptoBulkAll {H : Type} : List (DataW H) → Nat
  | [] => 0
  | d :: r => uptoBulk d + uptoBulkAll r
def uptoBulkEntries {H : Type} : List (Lit × DataW H) → Nat
  | [] => 0
  | x :: r => uptoBulkEntry x + uptoBulkEntries r
def uptoBulkEntry {H : Type} : Lit × DataW H → Nat
  | (.string bytes, d) => bytes.length + uptoBulk d + 1
  | (_, d) => uptoBulk d + 1
 end
def uptoSmall : (H : Type) → List (DataW H) → Bool := fun _ ds => decide (uptoBulkAll ds ≤ 1048576)
def OpenSpec.upto (s : _root_.Go.ChangeSpec) : _root_.Go.OpenSpec := { _root_.Go.OpenSpec.ofChange s with cond := some uptoSmall }

/-- 'rookerylaw08.SerialTells', WHERE WHAT IT READS IS OF BULK AT MOST 1048576: true; the input reads as it did. -/
def serialTellsUptoRow : OpenClaim := { program := "ytdlcbejgadmdcaa", sum := "7b61d8017d00056674a7895ee684fd40e635c9605d595c6406101ac194825e8f", func := "rookery/rookerylaw08.SerialTells", spec := "serialTells", unfollowed := true, recurses := true, apart := false, narrowed := true }
def SerialTellsUptoSaid : Prop := serialTellsUptoRow.holds Try.pinned (OpenSpec.upto serialTellsSpec)

/-- 'rookerylaw08.SerialSorts', WHERE WHAT IT READS IS OF BULK AT MOST 1048576: true; the input reads as it did. -/
def serialSortsUptoRow : OpenClaim := { program := "ytdlcbejgadmdcaa", sum := "7b61d8017d00056674a7895ee684fd40e635c9605d595c6406101ac194825e8f", func := "rookery/rookerylaw08.SerialSorts", spec := "serialSorts", unfollowed := true, recurses := true, apart := false, narrowed := true }
def SerialSortsUptoSaid : Prop := serialSortsUptoRow.holds Try.pinned (OpenSpec.upto serialSortsSpec)

/-- 'rookerylaw08.SerialOne', WHERE WHAT IT READS IS OF BULK AT MOST 1048576: true; the input reads as it did. -/
def serialOneUptoRow : OpenClaim := { program := "ytdlcbejgadmdcaa", sum := "7b61d8017d00056674a7895ee684fd40e635c9605d595c6406101ac194825e8f", func := "rookery/rookerylaw08.SerialOne", spec := "serialOne", unfollowed := true, recurses := true, apart := false, narrowed := true }
def SerialOneUptoSaid : Prop := serialOneUptoRow.holds Try.pinned (OpenSpec.upto serialOneSpec)

/-- 'rookerylaw08.SerialWindow', WHERE WHAT IT READS IS OF BULK AT MOST 1048576: true; the input reads as it did. -/
def serialWindowUptoRow : OpenClaim := { program := "ytdlcbejgadmdcaa", sum := "7b61d8017d00056674a7895ee684fd40e635c9605d595c6406101ac194825e8f", func := "rookery/rookerylaw08.SerialWindow", spec := "serialWindow", unfollowed := true, recurses := true, apart := false, narrowed := true }
def SerialWindowUptoSaid : Prop := serialWindowUptoRow.holds Try.pinned (OpenSpec.upto serialWindowSpec)

/-- 'rookerylaw08.SerialRises', WHERE WHAT IT READS IS OF BULK AT MOST 1048576: true; the input reads as it did. -/
def serialRisesUptoRow : OpenClaim := { program := "ytdlcbejgadmdcaa", sum := "7b61d8017d00056674a7895ee684fd40e635c9605d595c6406101ac194825e8f", func := "rookery/rookerylaw08.SerialRises", spec := "serialRises", unfollowed := true, recurses := true, apart := false, narrowed := true }
def SerialRisesUptoSaid : Prop := serialRisesUptoRow.holds Try.pinned (OpenSpec.upto serialRisesSpec)

end Rows
end Go.Proofs.Ytdlcbejgadmdcaa
