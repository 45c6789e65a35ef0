/- The live example of the layer, reckoned. No condition. -/
import Derived.Test.YtbgdhahdihbpaaaEvBQ
namespace Go.Proofs.Ytbgdhahdihbpaaa.Ev
open Go.RowKit
set_option maxRecDepth 100000 in
theorem alive_ev : outV (ev noSums 100000 11 [] ⟨.nil, 0⟩) = some (.bool true) := by kernel_rfl
theorem alive_calls (W : World) : Calls Try.prog 11 #[] W fun e W' => e = .returned (.bool true) ∧ Below W.heap.size W W' :=
  calls_plain noSums_ok 100000 _ [] (.bool true) rfl rfl alive_ev W
end Go.Proofs.Ytbgdhahdihbpaaa.Ev
