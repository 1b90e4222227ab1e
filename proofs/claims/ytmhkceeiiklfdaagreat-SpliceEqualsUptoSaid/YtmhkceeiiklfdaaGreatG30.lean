/- A part of the proof of SpliceEqualsUptoSaid (texts: GrClone). No conditions. -/
import Derived.Test.YtmhkceeiiklfdaaGreatG29
set_option linter.unusedVariables false
set_option linter.unusedSimpArgs false
namespace Go.Proofs.YtmhkceeiiklfdaaGreat
open Go.RowKit Go.Abs
theorem cloneSplice (n : Nat) : ClV 26 (IsSplice (IsItem n)) := cv26 (cv71 (flItem n) (cv58 (flItem n) cv137) (cvRow n) (cvCell n))
end Go.Proofs.YtmhkceeiiklfdaaGreat
