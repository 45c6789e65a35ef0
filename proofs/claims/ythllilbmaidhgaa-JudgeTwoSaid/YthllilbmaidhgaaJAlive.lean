/- A worked example of lives and of why operations failed: it comes out. No condition. -/
import Derived.Test.YthllilbmaidhgaaEvC
namespace Go.Proofs.Ythllilbmaidhgaa.Bound
open Go.Proofs.Ythllilbmaidhgaa.Ev
set_option linter.unusedVariables false
set_option maxRecDepth 100000 in
theorem alive20 : outV (ev noSums 100000 8 [] ⟨.nil, 0⟩) = some (.bool true) := by kernel_rfl
def aliveS : List Value → Option Value
  | [] => some (.bool true)
  | _ => none
theorem aliveS_ok {sums : Sums} (hs : SumsOk sums) : SumsOk (withPure sums 8 aliveS) := withPure_ok hs noSums_ok 100000 (by kernel_rfl) fun al v h => by
  unfold aliveS at h
  split at h
  · cases h; exact ⟨rfl, rfl, alive20⟩
  · cases h
end Go.Proofs.Ythllilbmaidhgaa.Bound
