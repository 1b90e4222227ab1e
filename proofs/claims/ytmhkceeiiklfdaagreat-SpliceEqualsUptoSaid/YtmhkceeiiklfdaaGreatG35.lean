/- A part of the proof of SpliceEqualsUptoSaid (texts: GrLawR). No conditions. -/
import Derived.Test.YtmhkceeiiklfdaaGreatG34
set_option linter.unusedVariables false
set_option linter.unusedSimpArgs false
set_option linter.unusedVariables false
set_option linter.unusedSimpArgs false
set_option maxRecDepth 1000000
namespace Go.Proofs.YtmhkceeiiklfdaaGreat
open Go.RowKit Go.Abs
def tailOf : Code → Nat → Code
  | c, 0 => c
  | .seq _ y, n + 1 => tailOf y n
  | c, _ => c
noncomputable def rest6 : Code := tailOf (Tryz.f6.body.getD .skip) 2
def sv (A i : Nat) : Value := .agg ⟨atoms A i 28⟩
def sw (A i : Nat) : Value := .agg ⟨atoms A i 4 ++ (atoms A (i + 16) 12 ++ atoms A (i + 4) 12)⟩
def sw0 (A : Nat) : Value := .agg ⟨atoms A 0 4 ++ (atoms A 16 12 ++ atoms A 4 12)⟩
def cons6 (r : Bool) : List Con := [⟨3, 26, [sv 2 0], sv 3 0⟩, ⟨7, 26, [sv 2 0], sv 7 0⟩, ⟨17, 26, [sv 2 28], sv 17 0⟩, ⟨23, 26, [sv 2 0], sv 23 0⟩, ⟨26, 14, [], .bool true⟩,
  ⟨27, 28, [sv 2 0, sv 2 28], .bool r⟩, ⟨28, 29, [sv 2 0, sv 2 28], .bool r⟩, ⟨29, 28, [sv 2 0, sv 3 0], .bool true⟩, ⟨30, 29, [sv 3 0, sv 2 0], .bool true⟩,
  ⟨33, 29, [sw0 7, sw 2 0], .bool true⟩, ⟨36, 26, [sw0 7], sv 36 0⟩, ⟨37, 29, [sw0 36, sv 2 0], .bool true⟩, ⟨43, 29, [sw0 17, sw 2 28], .bool true⟩, ⟨44, 29, [sw0 23, sw 2 0], .bool true⟩]
theorem run6 (r : Bool) (post : Nat → (Nat → Value) → Abs.Claim) : codeSeeT rest6 70 (envS (cons6 r) post) 1000000 (Tr.ofList [.tuple #[], .tuple #[], .pointer (some ⟨0, 0, none⟩), .pointer (some ⟨1, 0, none⟩)]) (ownHeap [(44, atoms 2 0 28), (44, atoms 2 28 28)]) [4] [] = some ([.bool true], []) := by
  cases r
  · kernel_rfl
  · kernel_rfl
end Go.Proofs.YtmhkceeiiklfdaaGreat
