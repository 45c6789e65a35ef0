/- A worked example of a sweep: it comes out. No condition. -/
import Derived.Test.YtfccbghmagohaaaGreatEvCQ
namespace Go.Proofs.YtfccbghmagohaaaGreat.Bound
open Go.Proofs.YtfccbghmagohaaaGreat.Ev
set_option linter.unusedVariables false
set_option maxRecDepth 100000 in
theorem alive_ev : outV (ev noSums 100000 11 [] ⟨.nil, 0⟩) = some (.bool true) := by kernel_rfl
def aliveS : List Value → Option Value
  | [] => some (.bool true)
  | _ => none
theorem aliveS_ok {sums : Sums} (hs : SumsOk sums) : SumsOk (withPure sums 11 aliveS) := withPure_ok hs noSums_ok 100000 (by kernel_rfl) fun al v h => by
  unfold aliveS at h
  split at h
  · cases h; exact ⟨rfl, rfl, alive_ev⟩
  · cases h
end Go.Proofs.YtfccbghmagohaaaGreat.Bound
