/- The numbers of worlds, by the program and by the document. No condition. -/
import Derived.Test.YtkgofabpmppglaaGreatBCfg
namespace Go.Proofs.YtkgofabpmppglaaGreat.Bound
open Go.Proofs.YtkgofabpmppglaaGreat.Ev
set_option linter.unusedVariables false
def chg (T S K G Q : Int) : Int := bif !right T S K G Q then 0 else IntKind.i64.wrap (T * IntKind.i64.wrap (IntKind.i64.wrap (IntKind.i64.wrap (3 * S) + K) + 16))
theorem of_bif {b : Bool} {x y : Int} : (bif b then some (Value.int .i64 x) else some (Value.int .i64 y)) = some (.int .i64 (bif b then x else y)) := by cases b <;> rfl
theorem chg_is (T S K G Q : Int) : outV (ev sums1 60 5 [.agg #[.int .i64 T, .int .i64 S, .int .i64 K, .int .i64 G, .int .u64 Q]] ⟨.nil, 0⟩) = some (.int .i64 (chg T S K G Q)) := of_bif ▸ (by kernel_rfl)
theorem refchg_is (T S K G Q : Int) : outV (ev sums1 60 6 [.agg #[.int .i64 T, .int .i64 S, .int .i64 K, .int .i64 G, .int .u64 Q]] ⟨.nil, 0⟩) = some (.int .i64 (chg T S K G Q)) := of_bif ▸ (by kernel_rfl)
noncomputable def sums2 : Sums := withPure (withPure sums1 5 (onCfg fun T S K G Q => .int .i64 (chg T S K G Q))) 6 (onCfg fun T S K G Q => .int .i64 (chg T S K G Q))
theorem sums2_ok : SumsOk sums2 := by
  refine withPure_ok (withPure_ok sums1_ok sums1_ok 60 (by kernel_rfl) fun al v h => ?_) sums1_ok 60 (by kernel_rfl) fun al v h => ?_
  · obtain ⟨T, S, K, G, Q, rfl, rfl⟩ := onCfg_eq h
    exact ⟨rfl, rfl, chg_is T S K G Q⟩
  · obtain ⟨T, S, K, G, Q, rfl, rfl⟩ := onCfg_eq h
    exact ⟨rfl, rfl, refchg_is T S K G Q⟩
def solo (T S K G Q : Int) : Int := bif !right T S K G Q then 0 else IntKind.i64.wrap (IntKind.i64.wrap (IntKind.i64.wrap (IntKind.i64.wrap (100 + IntKind.i64.wrap (20 * S)) + IntKind.i64.wrap (10 * K)) + IntKind.i64.wrap (4 * T)) + IntKind.i64.wrap (IntKind.i64.wrap (chg T S K G Q + 2) * IntKind.i64.wrap (IntKind.i64.wrap (4 * S) + 40)))
theorem solo_is (T S K G Q : Int) : outV (ev sums2 60 7 [.agg #[.int .i64 T, .int .i64 S, .int .i64 K, .int .i64 G, .int .u64 Q]] ⟨.nil, 0⟩) = some (.int .i64 (solo T S K G Q)) := of_bif ▸ (by kernel_rfl)
theorem refsolo_is (T S K G Q : Int) : outV (ev sums2 60 8 [.agg #[.int .i64 T, .int .i64 S, .int .i64 K, .int .i64 G, .int .u64 Q]] ⟨.nil, 0⟩) = some (.int .i64 (solo T S K G Q)) := of_bif ▸ (by kernel_rfl)
noncomputable def sums3 : Sums := withPure (withPure sums2 7 (onCfg fun T S K G Q => .int .i64 (solo T S K G Q))) 8 (onCfg fun T S K G Q => .int .i64 (solo T S K G Q))
theorem sums3_ok : SumsOk sums3 := by
  refine withPure_ok (withPure_ok sums2_ok sums2_ok 60 (by kernel_rfl) fun al v h => ?_) sums2_ok 60 (by kernel_rfl) fun al v h => ?_
  · obtain ⟨T, S, K, G, Q, rfl, rfl⟩ := onCfg_eq h
    exact ⟨rfl, rfl, solo_is T S K G Q⟩
  · obtain ⟨T, S, K, G, Q, rfl, rfl⟩ := onCfg_eq h
    exact ⟨rfl, rfl, refsolo_is T S K G Q⟩
def bnd (T S K G Q : Int) : Int := bif !right T S K G Q then 0 else IntKind.i64.wrap (T * IntKind.i64.wrap (solo T S K G Q + 1))
def refbnd (T S K G Q : Int) : Int := bif !right T S K G Q then 0 else IntKind.i64.wrap (IntKind.i64.wrap (T * solo T S K G Q) + T)
theorem bnd_is (T S K G Q : Int) : outV (ev sums3 60 9 [.agg #[.int .i64 T, .int .i64 S, .int .i64 K, .int .i64 G, .int .u64 Q]] ⟨.nil, 0⟩) = some (.int .i64 (bnd T S K G Q)) := of_bif ▸ (by kernel_rfl)
theorem refbnd_is (T S K G Q : Int) : outV (ev sums3 60 10 [.agg #[.int .i64 T, .int .i64 S, .int .i64 K, .int .i64 G, .int .u64 Q]] ⟨.nil, 0⟩) = some (.int .i64 (refbnd T S K G Q)) := of_bif ▸ (by kernel_rfl)
noncomputable def sums4 : Sums := withPure (withPure sums3 9 (onCfg fun T S K G Q => .int .i64 (bnd T S K G Q))) 10 (onCfg fun T S K G Q => .int .i64 (refbnd T S K G Q))
theorem sums4_ok : SumsOk sums4 := by
  refine withPure_ok (withPure_ok sums3_ok sums3_ok 60 (by kernel_rfl) fun al v h => ?_) sums3_ok 60 (by kernel_rfl) fun al v h => ?_
  · obtain ⟨T, S, K, G, Q, rfl, rfl⟩ := onCfg_eq h
    exact ⟨rfl, rfl, bnd_is T S K G Q⟩
  · obtain ⟨T, S, K, G, Q, rfl, rfl⟩ := onCfg_eq h
    exact ⟨rfl, rfl, refbnd_is T S K G Q⟩
end Go.Proofs.YtkgofabpmppglaaGreat.Bound
