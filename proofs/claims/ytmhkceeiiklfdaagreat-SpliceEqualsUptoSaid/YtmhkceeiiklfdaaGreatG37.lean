/- A part of the proof of SpliceEqualsUptoSaid (texts: GrRowF). No conditions. -/
import Derived.Test.YtmhkceeiiklfdaaGreatRows
import Derived.JoinedCond
set_option linter.unusedVariables false
set_option linter.unusedSimpArgs false
set_option linter.unusedVariables false
set_option maxRecDepth 100000
namespace Go.Proofs.YtmhkceeiiklfdaaGreat
theorem ab {a b : Bool} (h : a = true) (k : b = true) : (a && b) = true := by rw [h, k]; rfl
set_option maxHeartbeats 40000000 in
theorem closed6 : joinedFacts Tryz.pinned.checked.prog 6 Tryz.f6 (Rows.OpenSpec.upto Rows.spliceEqualsSpec).bare Rows.spliceEqualsUptoRow = true := by
  unfold joinedFacts
  refine ab (ab (ab (ab (ab (ab (ab (ab (ab (ab (ab (ab (ab (ab (ab (ab (ab (ab (ab (ab (ab (ab (ab (ab (ab (ab (ab (ab (ab (ab (ab (?k1) ?k2) ?k3) ?k4) ?k5) ?k6) ?k7) ?k8) ?k9) ?k10) ?k11) ?k12) ?k13) ?k14) ?k15) ?k16) ?k17) ?k18) ?k19) ?k20) ?k21) ?k22) ?k23) ?k24) ?k25) ?k26) ?k27) ?k28) ?k29) ?k30) ?k31) ?k32
  all_goals (as_aux_lemma => kernel_rfl)
end Go.Proofs.YtmhkceeiiklfdaaGreat
