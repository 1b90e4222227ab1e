/-
  NARROWER THAN 'FOR EVERY INPUT', by the rows' own cells (each row's printed sentence says how): SpliceChecks: loops · SpliceEquals: loops.
  DERIVED. THE GIVEN ROWS OF THIS SEAT. 4 by the template 'for every input the law returns true; each argument reads behind the call as it read before'; 0 by the template 'total and deterministic' (their statements: YtmhkceeiiklfdaaGreatTotals.lean).
  GIVEN WITH THE SEED: the statements are not yours to turn. If you find one false, say at which input.
  Laid BY PROGRAM, IN A SANDBOX (cutbox-rows.mjs): the forced cells as the released guide's own fill.sh prints them over the translation 7450adfff534158e… (all of the seat's roots in one cut). By AI agents, Wed Nov 11 2026. No macro, syntax, notation, axiom, sorry.
-/
import Derived.Test.YtmhkceeiiklfdaaGreatChecked
import GoSem.Claim
import GoSem.ClaimJoined
import GoSem.ClaimMapViews
import Derived.JoinedTies
import Derived.KernelRfl
namespace Go.Proofs.YtmhkceeiiklfdaaGreat
/- THE CELL 'sum', in the pinned program and in every row, IS THE sha256 OF THE DUMP (.gsa) THAT YtmhkceeiiklfdaaGreatProg.lean LOADS. Nothing in Lean hashes anything: it is a label: what it is worth is what the hold of that sum in a sandbox is worth. -/
noncomputable def Tryz.pinned : Pinned := { name := "ytmhkceeiiklfdaagreat", sum := "7450adfff534158edf703eb1b1778a17cdac985e13e17cc99c4b2668ebfa23db", checked := Tryz.checked }
namespace Rows
def none {H : Type} : Left H := { results := [], args := [] }

/-- 'obeluslaw20.TransformUndoes': WHATEVER THE INPUT: true; the input reads as it did. -/
def transformUndoesSpec : ChangeSpec := { name := "transformUndoes", fn := fun _ => fun
  | [d1, d2] => { results := [.lit (.bool true)], args := [d1, d2] }
  | _ => none }
def transformUndoesRow : OpenClaim := { program := "ytmhkceeiiklfdaagreat", sum := "7450adfff534158edf703eb1b1778a17cdac985e13e17cc99c4b2668ebfa23db", func := "obelus/obeluslaw20.TransformUndoes", spec := "transformUndoes", inPlace := ["internal/abi.NoEscape"], unfollowed := true, recurses := true, apart := false }
def TransformUndoesSaid : Prop := transformUndoesRow.holds Tryz.pinned (OpenSpec.ofChange transformUndoesSpec)

/-- ITS FALSE NEIGHBOUR: 'it returns false'. Refute it at one input. -/
def transformUndoesWrong : ChangeSpec := { name := "transformUndoes", fn := fun _ => fun
  | [d1, d2] => { results := [.lit (.bool false)], args := [d1, d2] }
  | _ => none }
def TransformUndoesWrongFalsely : Prop := transformUndoesRow.holds Tryz.pinned (OpenSpec.ofChange transformUndoesWrong)

/-- 'obeluslaw18.SpliceMarks': WHATEVER THE INPUT: true; the input reads as it did. -/
def spliceMarksSpec : ChangeSpec := { name := "spliceMarks", fn := fun _ => fun
  | [d1, d2, d3] => { results := [.lit (.bool true)], args := [d1, d2, d3] }
  | _ => none }
def spliceMarksRow : OpenClaim := { program := "ytmhkceeiiklfdaagreat", sum := "7450adfff534158edf703eb1b1778a17cdac985e13e17cc99c4b2668ebfa23db", func := "obelus/obeluslaw18.SpliceMarks", spec := "spliceMarks", inPlace := ["internal/abi.NoEscape", "slices.overlaps[obelus/api.Prop]"], unfollowed := true, recurses := true, apart := false }
def SpliceMarksSaid : Prop := spliceMarksRow.holds Tryz.pinned (OpenSpec.ofChange spliceMarksSpec)

/-- ITS FALSE NEIGHBOUR: 'it returns false'. Refute it at one input. -/
def spliceMarksWrong : ChangeSpec := { name := "spliceMarks", fn := fun _ => fun
  | [d1, d2, d3] => { results := [.lit (.bool false)], args := [d1, d2, d3] }
  | _ => none }
def SpliceMarksWrongFalsely : Prop := spliceMarksRow.holds Tryz.pinned (OpenSpec.ofChange spliceMarksWrong)

/-- 'obeluslaw18.SpliceChecks': WHATEVER THE INPUT: true; the input reads as it did. -/
def spliceChecksSpec : ChangeSpec := { name := "spliceChecks", fn := fun _ => fun
  | [d] => { results := [.lit (.bool true)], args := [d] }
  | _ => none }
def spliceChecksRow : OpenClaim := { program := "ytmhkceeiiklfdaagreat", sum := "7450adfff534158edf703eb1b1778a17cdac985e13e17cc99c4b2668ebfa23db", func := "obelus/obeluslaw18.SpliceChecks", spec := "spliceChecks", inPlace := ["internal/abi.NoEscape", "slices.overlaps[obelus/api.Prop]"], unfollowed := true, recurses := true, loops := true, apart := false }
def SpliceChecksSaid : Prop := spliceChecksRow.holds Tryz.pinned (OpenSpec.ofChange spliceChecksSpec)

/-- ITS FALSE NEIGHBOUR: 'it returns false'. Refute it at one input. -/
def spliceChecksWrong : ChangeSpec := { name := "spliceChecks", fn := fun _ => fun
  | [d] => { results := [.lit (.bool false)], args := [d] }
  | _ => none }
def SpliceChecksWrongFalsely : Prop := spliceChecksRow.holds Tryz.pinned (OpenSpec.ofChange spliceChecksWrong)

/-- 'obeluslaw18.SpliceEquals': WHATEVER THE INPUT: true; the input reads as it did. -/
def spliceEqualsSpec : ChangeSpec := { name := "spliceEquals", fn := fun _ => fun
  | [d1, d2] => { results := [.lit (.bool true)], args := [d1, d2] }
  | _ => none }
def spliceEqualsRow : OpenClaim := { program := "ytmhkceeiiklfdaagreat", sum := "7450adfff534158edf703eb1b1778a17cdac985e13e17cc99c4b2668ebfa23db", func := "obelus/obeluslaw18.SpliceEquals", spec := "spliceEquals", inPlace := ["internal/abi.NoEscape", "slices.overlaps[obelus/api.Prop]"], unfollowed := true, recurses := true, loops := true, apart := false }
def SpliceEqualsSaid : Prop := spliceEqualsRow.holds Tryz.pinned (OpenSpec.ofChange spliceEqualsSpec)

/-- ITS FALSE NEIGHBOUR: 'it returns false'. Refute it at one input. -/
def spliceEqualsWrong : ChangeSpec := { name := "spliceEquals", fn := fun _ => fun
  | [d1, d2] => { results := [.lit (.bool false)], args := [d1, d2] }
  | _ => none }
def SpliceEqualsWrongFalsely : Prop := spliceEqualsRow.holds Tryz.pinned (OpenSpec.ofChange spliceEqualsWrong)

/- THE SECOND FORM. 'bulk': how many values and letters a reading holds, each counted each time it is reached (what is shared counts as often as it is met; a slice's spare places count too). A statement '..UptoSaid' is the law's where the arguments, and the package variables that the reading takes, are together of bulk at most 1048576: NARROWER than '..Said'. Prove '..Said' where nothing that the law and all that it calls make is longer than what came in: it says more and counts as full. Else prove '..UptoSaid'. A law counts once. -/
mutual
def uptoBulk {H : Type} : DataW H → Nat
  | .lit (.string bytes) => bytes.length + 1
  | .lit _ => 1
  | .nil => 1
  | .ptr d => uptoBulk d + 1
  | .slice elems spare => uptoBulkAll elems + uptoBulkAll spare + 1
  | .agg parts => uptoBulkAll parts + 1
  | .iface _ d => uptoBulk d + 1
  | .map entries => uptoBulkEntries entries + 1
  | .held _ => 1
def uptoBulkAll {H : Type} : List (DataW H) → Nat
  | [] => 0
  | d :: r => uptoBulk d + uptoBulkAll r
def uptoBulkEntries {H : Type} : List (Lit × DataW H) → Nat
  | [] => 0
  | x :: r => uptoBulkEntry x + uptoBulkEntries r
def uptoBulkEntry {H : Type} : Lit × DataW H → Nat
  | (.string bytes, d) => bytes.length + uptoBulk d + 1
  | (_, d) => uptoBulk d + 1
 end
def uptoSmall : (H : Type) → List (DataW H) → Bool := fun _ ds => decide (uptoBulkAll ds ≤ 1048576)
def OpenSpec.upto (s : _root_.Go.ChangeSpec) : _root_.Go.OpenSpec := { _root_.Go.OpenSpec.ofChange s with cond := some uptoSmall }

/-- 'obeluslaw20.TransformUndoes', WHERE WHAT IT READS IS OF BULK AT MOST 1048576: true; the input reads as it did. -/
def transformUndoesUptoRow : OpenClaim := { program := "ytmhkceeiiklfdaagreat", sum := "7450adfff534158edf703eb1b1778a17cdac985e13e17cc99c4b2668ebfa23db", func := "obelus/obeluslaw20.TransformUndoes", spec := "transformUndoes", inPlace := ["internal/abi.NoEscape"], unfollowed := true, recurses := true, apart := false, narrowed := true }
def TransformUndoesUptoSaid : Prop := transformUndoesUptoRow.holds Tryz.pinned (OpenSpec.upto transformUndoesSpec)

/-- 'obeluslaw18.SpliceMarks', WHERE WHAT IT READS IS OF BULK AT MOST 1048576: true; the input reads as it did. -/
def spliceMarksUptoRow : OpenClaim := { program := "ytmhkceeiiklfdaagreat", sum := "7450adfff534158edf703eb1b1778a17cdac985e13e17cc99c4b2668ebfa23db", func := "obelus/obeluslaw18.SpliceMarks", spec := "spliceMarks", inPlace := ["internal/abi.NoEscape", "slices.overlaps[obelus/api.Prop]"], unfollowed := true, recurses := true, apart := false, narrowed := true }
def SpliceMarksUptoSaid : Prop := spliceMarksUptoRow.holds Tryz.pinned (OpenSpec.upto spliceMarksSpec)

/-- 'obeluslaw18.SpliceChecks', WHERE WHAT IT READS IS OF BULK AT MOST 1048576: true; the input reads as it did. -/
def spliceChecksUptoRow : OpenClaim := { program := "ytmhkceeiiklfdaagreat", sum := "7450adfff534158edf703eb1b1778a17cdac985e13e17cc99c4b2668ebfa23db", func := "obelus/obeluslaw18.SpliceChecks", spec := "spliceChecks", inPlace := ["internal/abi.NoEscape", "slices.overlaps[obelus/api.Prop]"], unfollowed := true, recurses := true, loops := true, apart := false, narrowed := true }
def SpliceChecksUptoSaid : Prop := spliceChecksUptoRow.holds Tryz.pinned (OpenSpec.upto spliceChecksSpec)

/-- 'obeluslaw18.SpliceEquals', WHERE WHAT IT READS IS OF BULK AT MOST 1048576: true; the input reads as it did. -/
def spliceEqualsUptoRow : OpenClaim := { program := "ytmhkceeiiklfdaagreat", sum := "7450adfff534158edf703eb1b1778a17cdac985e13e17cc99c4b2668ebfa23db", func := "obelus/obeluslaw18.SpliceEquals", spec := "spliceEquals", inPlace := ["internal/abi.NoEscape", "slices.overlaps[obelus/api.Prop]"], unfollowed := true, recurses := true, loops := true, apart := false, narrowed := true }
def SpliceEqualsUptoSaid : Prop := spliceEqualsUptoRow.holds Tryz.pinned (OpenSpec.upto spliceEqualsSpec)

end Rows
end Go.Proofs.YtmhkceeiiklfdaaGreat
