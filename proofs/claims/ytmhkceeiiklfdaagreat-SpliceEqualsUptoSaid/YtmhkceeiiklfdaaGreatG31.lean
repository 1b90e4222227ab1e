/- A part of the proof of SpliceEqualsUptoSaid (texts: GrKnown). No conditions. -/
import Derived.Test.YtmhkceeiiklfdaaGreatG14
set_option linter.unusedVariables false
set_option linter.unusedSimpArgs false
set_option maxRecDepth 1000000
namespace Go.Proofs.YtmhkceeiiklfdaaGreat
open Go.Abs
noncomputable def E0 : Env := envOf Tryz.prog nats0 keep0
theorem k14 : isTrue (aTop E0 1000000 14 []) = true := by kernel_rfl
theorem envOk0 : EnvOk E0 := envOk Tryz.prog nats0 keep0 funcs0 types0 mixed0 natok0
theorem known14 (w : World) : Calls Tryz.prog 14 #[] w fun e w' => e = .returned (.bool true) ∧ RowKit.Below w.heap.size w w' :=
  (true_of_run envOk0 k14 w).mono fun e w' h => ⟨h.1, h.2.2.2.1, h.2.2.2.2.1, h.2.2.2.2.2, h.2.1, h.2.2.1⟩
end Go.Proofs.YtmhkceeiiklfdaaGreat
