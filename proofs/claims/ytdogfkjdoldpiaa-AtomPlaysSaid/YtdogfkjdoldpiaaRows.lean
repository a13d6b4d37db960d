/-
  No cell of these rows narrows 'for every input' (looked for: loops, veiled, ifaces, maps, wideKeys, modest, calm, conditions, laid).
  DERIVED. THE GIVEN ROWS OF THIS SEAT. 6 by the template 'for every input the law returns true; each argument reads behind the call as it read before'; 0 by the template 'total and deterministic' (their statements: YtdogfkjdoldpiaaTotals.lean).
  GIVEN WITH THE SEED: the statements are not yours to turn. If you find one false, say at which input.
  Laid BY PROGRAM, IN A SANDBOX (cutbox-rows.mjs): the forced cells as the released guide's own fill.sh prints them over the translation 2bf1b450533cd4ee… (all of the seat's roots in one cut). By AI agents, Wed Nov 11 2026. No macro, syntax, notation, axiom, sorry.
-/
import Derived.Test.YtdogfkjdoldpiaaChecked
import GoSem.Claim
import GoSem.ClaimJoined
import GoSem.ClaimMapViews
import Derived.JoinedTies
import Derived.KernelRfl
namespace Go.Proofs.Ytdogfkjdoldpiaa
/- THE CELL 'sum', in the pinned program and in every row, IS THE sha256 OF THE DUMP (.gsa) THAT YtdogfkjdoldpiaaProg.lean LOADS. Nothing in Lean hashes anything: it is a label: what it is worth is what the hold of that sum in a sandbox is worth. -/
noncomputable def Try.pinned : Pinned := { name := "ytdogfkjdoldpiaa", sum := "2bf1b450533cd4ee67f2c45f6464ee545e18ef4f9dce46c5d69e20d1f1946156", checked := Try.checked }
namespace Rows
def none {H : Type} : Left H := { results := [], args := [] }

/-- 'rookerylaw03.AtomNames': WHATEVER THE INPUT: true; the input reads as it did. -/
def atomNamesSpec : ChangeSpec := { name := "atomNames", fn := fun _ => fun
  | [d] => { results := [.lit (.bool true)], args := [d] }
  | _ => none }
def atomNamesRow : OpenClaim := { program := "ytdogfkjdoldpiaa", sum := "2bf1b450533cd4ee67f2c45f6464ee545e18ef4f9dce46c5d69e20d1f1946156", func := "rookery/rookerylaw03.AtomNames", spec := "atomNames", inPlace := ["maps.clone"], unfollowed := true, recurses := true, apart := false }
def AtomNamesSaid : Prop := atomNamesRow.holds Try.pinned (OpenSpec.ofChange atomNamesSpec)

/-- ITS FALSE NEIGHBOUR: 'it returns false'. Refute it at one input. -/
def atomNamesWrong : ChangeSpec := { name := "atomNames", fn := fun _ => fun
  | [d] => { results := [.lit (.bool false)], args := [d] }
  | _ => none }
def AtomNamesWrongFalsely : Prop := atomNamesRow.holds Try.pinned (OpenSpec.ofChange atomNamesWrong)

/-- 'rookerylaw03.AtomApart': WHATEVER THE INPUT: true; the input reads as it did. -/
def atomApartSpec : ChangeSpec := { name := "atomApart", fn := fun _ => fun
  | [d1, d2] => { results := [.lit (.bool true)], args := [d1, d2] }
  | _ => none }
def atomApartRow : OpenClaim := { program := "ytdogfkjdoldpiaa", sum := "2bf1b450533cd4ee67f2c45f6464ee545e18ef4f9dce46c5d69e20d1f1946156", func := "rookery/rookerylaw03.AtomApart", spec := "atomApart", inPlace := ["maps.clone"], unfollowed := true, recurses := true, apart := false }
def AtomApartSaid : Prop := atomApartRow.holds Try.pinned (OpenSpec.ofChange atomApartSpec)

/-- ITS FALSE NEIGHBOUR: 'it returns false'. Refute it at one input. -/
def atomApartWrong : ChangeSpec := { name := "atomApart", fn := fun _ => fun
  | [d1, d2] => { results := [.lit (.bool false)], args := [d1, d2] }
  | _ => none }
def AtomApartWrongFalsely : Prop := atomApartRow.holds Try.pinned (OpenSpec.ofChange atomApartWrong)

/-- 'rookerylaw03.AtomPlays': WHATEVER THE INPUT: true; the input reads as it did. -/
def atomPlaysSpec : ChangeSpec := { name := "atomPlays", fn := fun _ => fun
  | [d] => { results := [.lit (.bool true)], args := [d] }
  | _ => none }
def atomPlaysRow : OpenClaim := { program := "ytdogfkjdoldpiaa", sum := "2bf1b450533cd4ee67f2c45f6464ee545e18ef4f9dce46c5d69e20d1f1946156", func := "rookery/rookerylaw03.AtomPlays", spec := "atomPlays", inPlace := ["maps.clone"], unfollowed := true, recurses := true, apart := false }
def AtomPlaysSaid : Prop := atomPlaysRow.holds Try.pinned (OpenSpec.ofChange atomPlaysSpec)

/-- ITS FALSE NEIGHBOUR: 'it returns false'. Refute it at one input. -/
def atomPlaysWrong : ChangeSpec := { name := "atomPlays", fn := fun _ => fun
  | [d] => { results := [.lit (.bool false)], args := [d] }
  | _ => none }
def AtomPlaysWrongFalsely : Prop := atomPlaysRow.holds Try.pinned (OpenSpec.ofChange atomPlaysWrong)

/-- 'rookerylaw03.AtomLasts': WHATEVER THE INPUT: true; the input reads as it did. -/
def atomLastsSpec : ChangeSpec := { name := "atomLasts", fn := fun _ => fun
  | [d] => { results := [.lit (.bool true)], args := [d] }
  | _ => none }
def atomLastsRow : OpenClaim := { program := "ytdogfkjdoldpiaa", sum := "2bf1b450533cd4ee67f2c45f6464ee545e18ef4f9dce46c5d69e20d1f1946156", func := "rookery/rookerylaw03.AtomLasts", spec := "atomLasts", inPlace := ["maps.clone"], unfollowed := true, recurses := true, apart := false }
def AtomLastsSaid : Prop := atomLastsRow.holds Try.pinned (OpenSpec.ofChange atomLastsSpec)

/-- ITS FALSE NEIGHBOUR: 'it returns false'. Refute it at one input. -/
def atomLastsWrong : ChangeSpec := { name := "atomLasts", fn := fun _ => fun
  | [d] => { results := [.lit (.bool false)], args := [d] }
  | _ => none }
def AtomLastsWrongFalsely : Prop := atomLastsRow.holds Try.pinned (OpenSpec.ofChange atomLastsWrong)

/-- 'rookerylaw03.AtomFull': WHATEVER THE INPUT: true; the input reads as it did. -/
def atomFullSpec : ChangeSpec := { name := "atomFull", fn := fun _ => fun
  | [d1, d2] => { results := [.lit (.bool true)], args := [d1, d2] }
  | _ => none }
def atomFullRow : OpenClaim := { program := "ytdogfkjdoldpiaa", sum := "2bf1b450533cd4ee67f2c45f6464ee545e18ef4f9dce46c5d69e20d1f1946156", func := "rookery/rookerylaw03.AtomFull", spec := "atomFull", inPlace := ["maps.clone"], unfollowed := true, recurses := true, apart := false }
def AtomFullSaid : Prop := atomFullRow.holds Try.pinned (OpenSpec.ofChange atomFullSpec)

/-- ITS FALSE NEIGHBOUR: 'it returns false'. Refute it at one input. -/
def atomFullWrong : ChangeSpec := { name := "atomFull", fn := fun _ => fun
  | [d1, d2] => { results := [.lit (.bool false)], args := [d1, d2] }
  | _ => none }
def AtomFullWrongFalsely : Prop := atomFullRow.holds Try.pinned (OpenSpec.ofChange atomFullWrong)

/-- 'rookerylaw03.AtomNil': WHATEVER THE INPUT: true; the input reads as it did. -/
def atomNilSpec : ChangeSpec := { name := "atomNil", fn := fun _ => fun
  | [d1, d2] => { results := [.lit (.bool true)], args := [d1, d2] }
  | _ => none }
def atomNilRow : OpenClaim := { program := "ytdogfkjdoldpiaa", sum := "2bf1b450533cd4ee67f2c45f6464ee545e18ef4f9dce46c5d69e20d1f1946156", func := "rookery/rookerylaw03.AtomNil", spec := "atomNil", inPlace := ["maps.clone"], unfollowed := true, recurses := true, apart := false }
def AtomNilSaid : Prop := atomNilRow.holds Try.pinned (OpenSpec.ofChange atomNilSpec)

/-- ITS FALSE NEIGHBOUR: 'it returns false'. Refute it at one input. -/
def atomNilWrong : ChangeSpec := { name := "atomNil", fn := fun _ => fun
  | [d1, d2] => { results := [.lit (.bool false)], args := [d1, d2] }
  | _ => none }
def AtomNilWrongFalsely : Prop := atomNilRow.holds Try.pinned (OpenSpec.ofChange atomNilWrong)

/- THE SECOND FORM. 'bulk': how many values and letters a reading holds, each counted each time it is reached (what is shared counts as often as it is met; a slice's spare places count too). A statement '..UptoSaid' is the law's where the arguments, and the package variables that the reading takes, are together of bulk at most 1048576: NARROWER than '..Said'. Prove '..Said' where nothing that the law and all that it calls make is longer than what came in: it says more and counts as full. Else prove '..UptoSaid'. A law counts once. -/
mutual
def uptoBulk {H : Type} : DataW H → Nat
  | .lit (.string bytes) => bytes.length + 1
  | .lit _ => 1
  | .nil => 1
  | .ptr d => uptoBulk d + 1
  | .slice elems spare => uptoBulkAll elems + uptoBulkAll spare + 1
  | .agg parts => uptoBulkAll parts + 1
  | .iface _ d => uptoBulk d + 1
  | .map entries => uptoBulkEntries entries + 1
  | .held _ => 1
def uptoBulkAll {H : Type} : List (DataW H) → Nat
  | [] => 0
  | d :: r => uptoBulk d + uptoBulkAll r
def uptoBulkEntries {H : Type} : List (Lit × DataW H) → Nat
  | [] => 0
  | x :: r => uptoBulkEntry x + uptoBulkEntries r
def uptoBulkEntry {H : Type} : Lit × DataW H → Nat
  | (.string bytes, d) => bytes.length + uptoBulk d + 1
  | (_, d) => uptoBulk d + 1
 end
def uptoSmall : (H : Type) → List (DataW H) → Bool := fun _ ds => decide (uptoBulkAll ds ≤ 1048576)
def OpenSpec.upto (s : _root_.Go.ChangeSpec) : _root_.Go.OpenSpec := { _root_.Go.OpenSpec.ofChange s with cond := some uptoSmall }

/-- 'rookerylaw03.AtomNames', WHERE WHAT IT READS IS OF BULK AT MOST 1048576: true; the input reads as it did. -/
def atomNamesUptoRow : OpenClaim := { program := "ytdogfkjdoldpiaa", sum := "2bf1b450533cd4ee67f2c45f6464ee545e18ef4f9dce46c5d69e20d1f1946156", func := "rookery/rookerylaw03.AtomNames", spec := "atomNames", inPlace := ["maps.clone"], unfollowed := true, recurses := true, apart := false, narrowed := true }
def AtomNamesUptoSaid : Prop := atomNamesUptoRow.holds Try.pinned (OpenSpec.upto atomNamesSpec)

/-- 'rookerylaw03.AtomApart', WHERE WHAT IT READS IS OF BULK AT MOST 1048576: true; the input reads as it did. -/
def atomApartUptoRow : OpenClaim := { program := "ytdogfkjdoldpiaa", sum := "2bf1b450533cd4ee67f2c45f6464ee545e18ef4f9dce46c5d69e20d1f1946156", func := "rookery/rookerylaw03.AtomApart", spec := "atomApart", inPlace := ["maps.clone"], unfollowed := true, recurses := true, apart := false, narrowed := true }
def AtomApartUptoSaid : Prop := atomApartUptoRow.holds Try.pinned (OpenSpec.upto atomApartSpec)

/-- 'rookerylaw03.AtomPlays', WHERE WHAT IT READS IS OF BULK AT MOST 1048576: true; the input reads as it did. -/
def atomPlaysUptoRow : OpenClaim := { program := "ytdogfkjdoldpiaa", sum := "2bf1b450533cd4ee67f2c45f6464ee545e18ef4f9dce46c5d69e20d1f1946156", func := "rookery/rookerylaw03.AtomPlays", spec := "atomPlays", inPlace := ["maps.clone"], unfollowed := true, recurses := true, apart := false, narrowed := true }
def AtomPlaysUptoSaid : Prop := atomPlaysUptoRow.holds Try.pinned (OpenSpec.upto atomPlaysSpec)

/-- 'rookerylaw03.AtomLasts', WHERE WHAT IT READS IS OF BULK AT MOST 1048576: true; the input reads as it did. -/
def atomLastsUptoRow : OpenClaim := { program := "ytdogfkjdoldpiaa", sum := "2bf1b450533cd4ee67f2c45f6464ee545e18ef4f9dce46c5d69e20d1f1946156", func := "rookery/rookerylaw03.AtomLasts", spec := "atomLasts", inPlace := ["maps.clone"], unfollowed := true, recurses := true, apart := false, narrowed := true }
def AtomLastsUptoSaid : Prop := atomLastsUptoRow.holds Try.pinned (OpenSpec.upto atomLastsSpec)

/-- 'rookerylaw03.AtomFull', WHERE WHAT IT READS IS OF BULK AT MOST 1048576: true; the input reads as it did. -/
def atomFullUptoRow : OpenClaim := { program := "ytdogfkjdoldpiaa", sum := "2bf1b450533cd4ee67f2c45f6464ee545e18ef4f9dce46c5d69e20d1f1946156", func := "rookery/rookerylaw03.AtomFull", spec := "atomFull", inPlace := ["maps.clone"], unfollowed := true, recurses := true, apart := false, narrowed := true }
def AtomFullUptoSaid : Prop := atomFullUptoRow.holds Try.pinned (OpenSpec.upto atomFullSpec)

/-- 'rookerylaw03.AtomNil', WHERE WHAT IT READS IS OF BULK AT MOST 1048576: true; the input reads as it did. -/
def atomNilUptoRow : OpenClaim := { program := "ytdogfkjdoldpiaa", sum := "2bf1b450533cd4ee67f2c45f6464ee545e18ef4f9dce46c5d69e20d1f1946156", func := "rookery/rookerylaw03.AtomNil", spec := "atomNil", inPlace := ["maps.clone"], unfollowed := true, recurses := true, apart := false, narrowed := true }
def AtomNilUptoSaid : Prop := atomNilUptoRow.holds Try.pinned (OpenSpec.upto atomNilSpec)

end Rows
end Go.Proofs.Ytdogfkjdoldpiaa
