/- Whether a side of a status has any, as a sum. No condition. -/
import Derived.Test.YtifojacfedjedaaGreatTalNQ
namespace Go.Proofs.YtifojacfedjedaaGreat.Bound
open Go.Proofs.YtifojacfedjedaaGreat.Ev Go.Proofs.YtifojacfedjedaaGreat.ChartMath
set_option linter.unusedVariables false
set_option linter.unusedSimpArgs false
def pt_any (w : Int) (n m : Nat) : PT Value := .cs 5 (.b (partP w n 12 != 0) (.cs 6 (.leaf (.bool true))) (.cs 7 (.leaf (.bool (bif false then true else partP w m 1 == 1)))))
theorem ct_any0 (w : Int) : cutP (pt_any w 0 24) (valT (ev sumsF4 60 150 [.int .u64 w, .int .i64 0] ⟨.nil, 0⟩)) = den (pt_any w 0 24) := by kernel_rfl
theorem ct_any1 (w : Int) : cutP (pt_any w 12 25) (valT (ev sumsF4 60 150 [.int .u64 w, .int .i64 1] ⟨.nil, 0⟩)) = den (pt_any w 12 25) := by kernel_rfl
/-- Whether a side has any: by numbers. -/
def anyB (w sd : Int) : Bool := (if sd = 0 then w % 4096 else w / 4096 % 4096) != 0 || bitI w (24 + sd)
theorem any_get {w : Int} (h0 : 0 ≤ w) (h1 : w < 18446744073709551616) (n m : Nat) : (den (pt_any w n m)).get = some (.bool ((w / 2 ^ n % 2 ^ 12 != 0) || bitI w m)) := by
  unfold pt_any
  simp only [den, Tree.get_br, Tree.get_leaf, part_bit m h0 h1, partP_is h0 h1 (show 12 < 63 by omega)]
  generalize (w / 2 ^ n % 2 ^ 12 != 0) = b
  cases b <;> rfl
theorem any_is {w sd : Int} (h0 : 0 ≤ w) (h1 : w < 18446744073709551616) (hs : sd = 0 ∨ sd = 1) : outV (ev sumsF4 60 150 [.int .u64 w, .int .i64 sd] ⟨.nil, 0⟩) = some (.bool (anyB w sd)) := by
  rcases hs with rfl | rfl
  · refine (valT_out (cut_get (ct_any0 w) (any_get h0 h1 0 24))).trans ?_
    have : w / 2 ^ 0 % 2 ^ 12 = w % 4096 := by omega
    unfold anyB
    rw [this]
    rfl
  · refine (valT_out (cut_get (ct_any1 w) (any_get h0 h1 12 25))).trans ?_
    have : w / 2 ^ 12 % 2 ^ 12 = w / 4096 % 4096 := by omega
    unfold anyB
    rw [this]
    rfl
def anyS : List Value → Option (Bool × Value)
  | [.int .u64 w, .int .i64 sd] => some (isW w && decide (sd = 0 ∨ sd = 1), .bool (anyB w sd))
  | _ => none
noncomputable def sumsF6 : Sums := withIf sumsF5 150 anyS
theorem sumsF6_ok : SumsOk sumsF6 := withIf_ok sumsF5_ok sumsF4_ok 60 (by kernel_rfl) fun al v h => by
  unfold anyS at h
  split at h
  · simp only [Option.some.injEq, Prod.mk.injEq, Bool.and_eq_true, decide_eq_true_eq, isW_iff] at h
    obtain ⟨⟨⟨h0, h1⟩, h2⟩, rfl⟩ := h
    exact ⟨rfl, rfl, any_is h0 h1 h2⟩
  · cases h
end Go.Proofs.YtifojacfedjedaaGreat.Bound
