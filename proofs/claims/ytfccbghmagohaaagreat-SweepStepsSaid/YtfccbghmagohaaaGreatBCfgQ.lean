/- Which worlds there are, by the program and by the document. No condition. -/
import Derived.Test.YtfccbghmagohaaaGreatEvCQ
namespace Go.Proofs.YtfccbghmagohaaaGreat.Bound
open Go.Proofs.YtfccbghmagohaaaGreat.Ev
set_option linter.unusedVariables false
def right (T S K G Q : Int) : Bool := decide (1 ≤ T ∧ T ≤ 8 ∧ 1 ≤ S ∧ S ≤ 12 ∧ 1 ≤ K ∧ K ≤ 8 ∧ 0 ≤ G ∧ G ≤ 1073741823 ∧ Q ≤ 1099511627775)
theorem right_ev (T S K G Q : Int) : outV (ev noSums 60 70 [.agg #[.int .i64 T, .int .i64 S, .int .i64 K, .int .i64 G, .int .u64 Q]] ⟨.nil, 0⟩) =
    some (.bool ((T == if (if 8 < T then 8 else T) > 1 then if 8 < T then 8 else T else 1) && ((S == if (if 12 < S then 12 else S) > 1 then if 12 < S then 12 else S else 1) && ((K == if (if 8 < K then 8 else K) > 1 then if 8 < K then 8 else K else 1) && ((G == if (if 1073741823 < G then 1073741823 else G) > 0 then if 1073741823 < G then 1073741823 else G else 0) && ((Q == if 1099511627775 < Q then 1099511627775 else Q) && true)))))) := by kernel_rfl
theorem refright_ev (T S K G Q : Int) : outV (ev noSums 60 43 [.agg #[.int .i64 T, .int .i64 S, .int .i64 K, .int .i64 G, .int .u64 Q]] ⟨.nil, 0⟩) =
    bif decide (T < 1) then some (.bool false) else bif bif false then true else decide (T > 8) then some (.bool false) else bif bif false then true else decide (S < 1) then some (.bool false) else
    bif bif false then true else decide (S > 12) then some (.bool false) else bif bif false then true else decide (K < 1) then some (.bool false) else bif bif false then true else decide (K > 8) then some (.bool false) else
    bif decide (G ≥ 0) then bif bif true then decide (G ≤ 1073741823) else false then some (.bool (bif true then decide (Q ≤ 1099511627775) else false)) else some (.bool false) else some (.bool false) := by kernel_rfl
def cfgOf : List Value → Option (Int × Int × Int × Int × Int)
  | [.agg ⟨[.int .i64 T, .int .i64 S, .int .i64 K, .int .i64 G, .int .u64 Q]⟩] => some (T, S, K, G, Q)
  | _ => none
theorem cfgOf_eq {l : List Value} {T S K G Q : Int} (h : cfgOf l = some (T, S, K, G, Q)) : l = [.agg #[.int .i64 T, .int .i64 S, .int .i64 K, .int .i64 G, .int .u64 Q]] := by
  unfold cfgOf at h
  split at h
  · cases h; rfl
  · cases h
def onCfg (f : Int → Int → Int → Int → Int → Value) (l : List Value) : Option Value := match cfgOf l with
  | some (T, S, K, G, Q) => some (f T S K G Q)
  | none => none
theorem onCfg_eq {f : Int → Int → Int → Int → Int → Value} {l : List Value} {v : Value} (h : onCfg f l = some v) : ∃ T S K G Q, l = [.agg #[.int .i64 T, .int .i64 S, .int .i64 K, .int .i64 G, .int .u64 Q]] ∧ v = f T S K G Q := by
  unfold onCfg at h
  cases hc : cfgOf l with
  | none => rw [hc] at h; cases h
  | some p =>
    obtain ⟨T, S, K, G, Q⟩ := p
    rw [hc] at h
    cases h
    exact ⟨T, S, K, G, Q, cfgOf_eq hc, rfl⟩
theorem cap_iff (x hi lo : Int) : (x == if (if hi < x then hi else x) > lo then if hi < x then hi else x else lo) = decide (lo ≤ x ∧ (x ≤ hi ∨ x = lo)) := by
  by_cases h1 : hi < x
  · simp only [if_pos h1]
    by_cases h2 : hi > lo
    · simp only [if_pos h2]
      rw [Bool.eq_iff_iff]; simp; omega
    · simp only [if_neg h2]
      rw [Bool.eq_iff_iff]; simp; omega
  · simp only [if_neg h1]
    by_cases h2 : x > lo
    · simp only [if_pos h2]
      rw [Bool.eq_iff_iff]; simp; omega
    · simp only [if_neg h2]
      rw [Bool.eq_iff_iff]; simp; omega
theorem right_is (T S K G Q : Int) : outV (ev noSums 60 70 [.agg #[.int .i64 T, .int .i64 S, .int .i64 K, .int .i64 G, .int .u64 Q]] ⟨.nil, 0⟩) = some (.bool (right T S K G Q)) := by
  rw [right_ev]
  simp only [cap_iff]
  congr 2
  have hq : (Q == if 1099511627775 < Q then 1099511627775 else Q) = decide (Q ≤ 1099511627775) := by
    by_cases h : (1099511627775 : Int) < Q
    · rw [if_pos h, Bool.eq_iff_iff]; simp; omega
    · rw [if_neg h, Bool.eq_iff_iff]; simp; omega
  rw [hq, Bool.eq_iff_iff]
  simp only [right, Bool.and_eq_true, decide_eq_true_eq, Bool.and_true]
  omega
theorem refright_is (T S K G Q : Int) : outV (ev noSums 60 43 [.agg #[.int .i64 T, .int .i64 S, .int .i64 K, .int .i64 G, .int .u64 Q]] ⟨.nil, 0⟩) = some (.bool (right T S K G Q)) := by
  rw [refright_ev]
  simp only [Bool.cond_false_left, Bool.cond_eq_ite, right]
  repeat' split
  all_goals (first | (congr 2; rw [Bool.eq_iff_iff]; simp at * <;> omega) | (simp at * <;> omega))
noncomputable def sums1 : Sums := withPure (withPure noSums 70 (onCfg fun T S K G Q => .bool (right T S K G Q))) 43 (onCfg fun T S K G Q => .bool (right T S K G Q))
theorem sums1_ok : SumsOk sums1 := by
  refine withPure_ok (withPure_ok noSums_ok noSums_ok 60 (by kernel_rfl) fun al v h => ?_) noSums_ok 60 (by kernel_rfl) fun al v h => ?_
  · obtain ⟨T, S, K, G, Q, rfl, rfl⟩ := onCfg_eq h
    exact ⟨rfl, rfl, right_is T S K G Q⟩
  · obtain ⟨T, S, K, G, Q, rfl, rfl⟩ := onCfg_eq h
    exact ⟨rfl, rfl, refright_is T S K G Q⟩
end Go.Proofs.YtfccbghmagohaaaGreat.Bound
