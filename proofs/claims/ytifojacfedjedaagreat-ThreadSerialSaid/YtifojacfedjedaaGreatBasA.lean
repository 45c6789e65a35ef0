/- Which worlds there are, by the program and by the document. No condition. The document's list of spots. No condition. The document's list of spots, how many there are, and where one stands, in a world that is right. No condition. Where the spots of a chart stand, in plain numbers: the cell of a spot and the spot of a cell undo each other. Condition: the numbers of threads, slots and keys are not negative. Where a spot stands, by the document and by the program, in a world that is right. No condition. Where a spot stands, and how many cells there are: sums of the program's and of the document's functions. No condition. The words of transactions: what the program and the document read out of them. Conditions stand in the statements. -/
import Derived.Test.YtifojacfedjedaaGreatEvCQ
import Derived.Laws.BitsLemmas
section
namespace Go.Proofs.YtifojacfedjedaaGreat.Bound
open Go.Proofs.YtifojacfedjedaaGreat.Ev
set_option linter.unusedVariables false
def right (T S K G Q : Int) : Bool := decide (1 ≤ T ∧ T ≤ 8 ∧ 1 ≤ S ∧ S ≤ 12 ∧ 1 ≤ K ∧ K ≤ 8 ∧ 0 ≤ G ∧ G ≤ 1073741823 ∧ Q ≤ 1099511627775)
theorem right_ev (T S K G Q : Int) : outV (ev noSums 60 53 [.agg #[.int .i64 T, .int .i64 S, .int .i64 K, .int .i64 G, .int .u64 Q]] ⟨.nil, 0⟩) =
    some (.bool ((T == if (if 8 < T then 8 else T) > 1 then if 8 < T then 8 else T else 1) && ((S == if (if 12 < S then 12 else S) > 1 then if 12 < S then 12 else S else 1) && ((K == if (if 8 < K then 8 else K) > 1 then if 8 < K then 8 else K else 1) && ((G == if (if 1073741823 < G then 1073741823 else G) > 0 then if 1073741823 < G then 1073741823 else G else 0) && ((Q == if 1099511627775 < Q then 1099511627775 else Q) && true)))))) := by kernel_rfl
theorem refright_ev (T S K G Q : Int) : outV (ev noSums 60 38 [.agg #[.int .i64 T, .int .i64 S, .int .i64 K, .int .i64 G, .int .u64 Q]] ⟨.nil, 0⟩) =
    bif decide (T < 1) then some (.bool false) else bif bif false then true else decide (T > 8) then some (.bool false) else bif bif false then true else decide (S < 1) then some (.bool false) else
    bif bif false then true else decide (S > 12) then some (.bool false) else bif bif false then true else decide (K < 1) then some (.bool false) else bif bif false then true else decide (K > 8) then some (.bool false) else
    bif decide (G ≥ 0) then bif bif true then decide (G ≤ 1073741823) else false then some (.bool (bif true then decide (Q ≤ 1099511627775) else false)) else some (.bool false) else some (.bool false) := by kernel_rfl
def cfgOf : List Value → Option (Int × Int × Int × Int × Int)
  | [.agg ⟨[.int .i64 T, .int .i64 S, .int .i64 K, .int .i64 G, .int .u64 Q]⟩] => some (T, S, K, G, Q)
  | _ => none
theorem cfgOf_eq {l : List Value} {T S K G Q : Int} (h : cfgOf l = some (T, S, K, G, Q)) : l = [.agg #[.int .i64 T, .int .i64 S, .int .i64 K, .int .i64 G, .int .u64 Q]] := by
  unfold cfgOf at h
  split at h
  · cases h; rfl
  · cases h
def onCfg (f : Int → Int → Int → Int → Int → Value) (l : List Value) : Option Value := match cfgOf l with
  | some (T, S, K, G, Q) => some (f T S K G Q)
  | none => none
theorem onCfg_eq {f : Int → Int → Int → Int → Int → Value} {l : List Value} {v : Value} (h : onCfg f l = some v) : ∃ T S K G Q, l = [.agg #[.int .i64 T, .int .i64 S, .int .i64 K, .int .i64 G, .int .u64 Q]] ∧ v = f T S K G Q := by
  unfold onCfg at h
  cases hc : cfgOf l with
  | none => rw [hc] at h; cases h
  | some p =>
    obtain ⟨T, S, K, G, Q⟩ := p
    rw [hc] at h
    cases h
    exact ⟨T, S, K, G, Q, cfgOf_eq hc, rfl⟩
theorem cap_iff (x hi lo : Int) : (x == if (if hi < x then hi else x) > lo then if hi < x then hi else x else lo) = decide (lo ≤ x ∧ (x ≤ hi ∨ x = lo)) := by
  by_cases h1 : hi < x
  · simp only [if_pos h1]
    by_cases h2 : hi > lo
    · simp only [if_pos h2]
      rw [Bool.eq_iff_iff]; simp; omega
    · simp only [if_neg h2]
      rw [Bool.eq_iff_iff]; simp; omega
  · simp only [if_neg h1]
    by_cases h2 : x > lo
    · simp only [if_pos h2]
      rw [Bool.eq_iff_iff]; simp; omega
    · simp only [if_neg h2]
      rw [Bool.eq_iff_iff]; simp; omega
theorem right_is (T S K G Q : Int) : outV (ev noSums 60 53 [.agg #[.int .i64 T, .int .i64 S, .int .i64 K, .int .i64 G, .int .u64 Q]] ⟨.nil, 0⟩) = some (.bool (right T S K G Q)) := by
  rw [right_ev]
  simp only [cap_iff]
  congr 2
  have hq : (Q == if 1099511627775 < Q then 1099511627775 else Q) = decide (Q ≤ 1099511627775) := by
    by_cases h : (1099511627775 : Int) < Q
    · rw [if_pos h, Bool.eq_iff_iff]; simp; omega
    · rw [if_neg h, Bool.eq_iff_iff]; simp; omega
  rw [hq, Bool.eq_iff_iff]
  simp only [right, Bool.and_eq_true, decide_eq_true_eq, Bool.and_true]
  omega
theorem refright_is (T S K G Q : Int) : outV (ev noSums 60 38 [.agg #[.int .i64 T, .int .i64 S, .int .i64 K, .int .i64 G, .int .u64 Q]] ⟨.nil, 0⟩) = some (.bool (right T S K G Q)) := by
  rw [refright_ev]
  simp only [Bool.cond_false_left, Bool.cond_eq_ite, right]
  repeat' split
  all_goals (first | (congr 2; rw [Bool.eq_iff_iff]; simp at * <;> omega) | (simp at * <;> omega))
noncomputable def sums1 : Sums := withPure (withPure noSums 53 (onCfg fun T S K G Q => .bool (right T S K G Q))) 38 (onCfg fun T S K G Q => .bool (right T S K G Q))
theorem sums1_ok : SumsOk sums1 := by
  refine withPure_ok (withPure_ok noSums_ok noSums_ok 60 (by kernel_rfl) fun al v h => ?_) noSums_ok 60 (by kernel_rfl) fun al v h => ?_
  · obtain ⟨T, S, K, G, Q, rfl, rfl⟩ := onCfg_eq h
    exact ⟨rfl, rfl, right_is T S K G Q⟩
  · obtain ⟨T, S, K, G, Q, rfl, rfl⟩ := onCfg_eq h
    exact ⟨rfl, rfl, refright_is T S K G Q⟩
end Go.Proofs.YtifojacfedjedaaGreat.Bound
end

section
namespace Go.Proofs.YtifojacfedjedaaGreat.Bound
open Go.Proofs.YtifojacfedjedaaGreat.Ev
set_option linter.unusedVariables false
def cfgP : CPat := .vals [.int .i64, .int .i64, .int .i64, .int .i64, .int .u64]
def cfgB : Nat × TypeId × CPat := (0, 24, cfgP)
def spB : Nat × TypeId × CPat := (1, 53, .recs [.int .i64, .int .i64])
def slC : Nat × Pat := (1, .ptr 0 0 none)
def slO : Nat × Pat := (3, .slice 1 0 (some 8192))
def FL (i e : Nat) : LForm := ⟨[1, 3, i], ⟨[slC, slO, (i, .int .i64)], 53, [cfgB, spB], 2, []⟩, [1, 3], [(e, ⟨[slC, slO], 53, [cfgB, spB], 2, []⟩)], []⟩
def rowsOf (g : Int → List (List Int)) : Nat → Int → List (List Int)
  | 0, _ => []
  | n + 1, t => g t ++ rowsOf g n (t + 1)
theorem rowsOf_length {g : Int → List (List Int)} {d : Nat} (h : ∀ t, (g t).length = d) : ∀ (n : Nat) (t : Int), (rowsOf g n t).length = d * n
  | 0, t => by simp [rowsOf]
  | n + 1, t => by simp [rowsOf, h, rowsOf_length h n (t + 1), Nat.mul_add]; omega
theorem body_is : bodyOf 67 = some ((bodyOf 67).getD .skip) := by kernel_rfl

theorem l1_more (l : Nat) (t T S K G Q : Int) (rs : List (List Int)) : walk (round sums1 60 67 5 0 (FL 4 0) [.n l, .n l, .i t, .i T, .i S, .i K, .i G, .i Q, .rs rs]) [true, false, true, true] =
    some ([decide (t < T), false, true, decide (l = l ∧ rs.length * 2 = l * 2 ∧ (l + 1) * 16 ≤ 140737488355328 ∧ l + 1 ≤ 4611686018427387904)], (.normal, [.n (l + 1), .n (l + 1), .i (IntKind.i64.wrap (t + 1)), .i T, .i S, .i K, .i G, .i Q, .rs (rs ++ [[3, t]])])) := by kernel_rfl
theorem l1_end (l : Nat) (t T S K G Q : Int) (rs : List (List Int)) : walk (round sums1 60 67 5 0 (FL 4 0) [.n l, .n l, .i t, .i T, .i S, .i K, .i G, .i Q, .rs rs]) [false] =
    some ([decide (t < T)], (.exit 0, [.n l, .n l, .i T, .i S, .i K, .i G, .i Q, .rs rs])) := by kernel_rfl
def l1_I : List Atom → Prop
  | [.n l, .n c, .i t, .i T, .i S, .i K, .i G, .i Q, .rs rs] => c = l ∧ rs.length = l ∧ 0 ≤ t ∧ T ≤ 12 ∧ l + 1 * (T - t).toNat ≤ 100000
  | _ => False
def l1_out : List Atom → Tree (Ex × List Atom)
  | [.n l, .n c, .i t, .i T, .i S, .i K, .i G, .i Q, .rs rs] => .leaf (.exit 0, [.n (l + 1 * (T - t).toNat), .n (l + 1 * (T - t).toNat), .i T, .i S, .i K, .i G, .i Q, .rs (rs ++ rowsOf (fun t => [[3, t]]) (T - t).toNat t)])
  | _ => .bad
def l1_m : List Atom → Nat
  | [.n l, .n c, .i t, .i T, .i S, .i K, .i G, .i Q, .rs rs] => (T - t).toNat
  | _ => 0
theorem l1_step (x : List Atom) (hI : l1_I x) : ∃ e y, (round sums1 60 67 5 0 (FL 4 0) x).get = some (e, y) ∧ (e = .normal → l1_I y ∧ l1_m y < l1_m x ∧ (l1_out y).get = (l1_out x).get) ∧ (e ≠ .normal → (l1_out x).get = some (e, y)) := by
  unfold l1_I at hI
  split at hI
  · rename_i l c t T S K G Q rs
    obtain ⟨rfl, hl, h0, hX, hb⟩ := hI
    by_cases ht : t < T
    · have hk : (T - t).toNat = (T - (t + 1)).toNat + 1 := by omega
      have hw : IntKind.i64.wrap (t + 1) = t + 1 := by rw [IntKind.wrap_i64]; omega
      refine ⟨_, _, get_walk (l1_more c t T S K G Q rs) ?_, fun _ => ⟨?_, ?_, ?_⟩, fun h => absurd rfl h⟩
      · have hc : c = c ∧ rs.length * 2 = c * 2 ∧ (c + 1) * 16 ≤ 140737488355328 ∧ c + 1 ≤ 4611686018427387904 := ⟨rfl, by omega, by omega, by omega⟩
        rw [decide_eq_true ht, decide_eq_true hc]
      · rw [hw]
        exact ⟨rfl, by simp [hl], by omega, hX, by omega⟩
      · rw [hw]
        show (T - (t + 1)).toNat < (T - t).toNat
        omega
      · rw [hw]
        simp only [l1_out, Tree.get_leaf, hk, rowsOf, List.append_assoc]
        rw [show c + 1 + 1 * (T - (t + 1)).toNat = c + 1 * ((T - (t + 1)).toNat + 1) by omega]
    · refine ⟨_, _, get_walk (l1_end c t T S K G Q rs) ?_, fun h => (by cases h), fun _ => ?_⟩
      · rw [decide_eq_false ht]
      · have hk : (T - t).toNat = 0 := by omega
        simp only [l1_out, Tree.get_leaf, hk, rowsOf, List.append_nil, Nat.mul_zero, Nat.add_zero]
  · exact hI.elim
noncomputable def sp1 : Sums := withLoop sums1 67 5 (lsum 0 (FL 4 0) l1_I l1_out)
theorem sp1_ok : SumsOk sp1 := loop_sum sums1_ok l1_m body_is (by kernel_rfl) (by decide) l1_step

theorem l2_more (l : Nat) (t T S K G Q : Int) (rs : List (List Int)) : walk (round sp1 60 67 9 0 (FL 5 2) [.n l, .n l, .i t, .i T, .i S, .i K, .i G, .i Q, .rs rs]) [true, false, true, true] =
    some ([decide (t < S), false, true, decide (l = l ∧ rs.length * 2 = l * 2 ∧ (l + 4) * 16 ≤ 140737488355328 ∧ l + 4 ≤ 4611686018427387904)], (.normal, [.n (l + 4), .n (l + 4), .i (IntKind.i64.wrap (t + 1)), .i T, .i S, .i K, .i G, .i Q, .rs (rs ++ [[4, t], [5, t], [6, t], [7, t]])])) := by kernel_rfl
theorem l2_end (l : Nat) (t T S K G Q : Int) (rs : List (List Int)) : walk (round sp1 60 67 9 0 (FL 5 2) [.n l, .n l, .i t, .i T, .i S, .i K, .i G, .i Q, .rs rs]) [false] =
    some ([decide (t < S)], (.exit 2, [.n l, .n l, .i T, .i S, .i K, .i G, .i Q, .rs rs])) := by kernel_rfl
def l2_I : List Atom → Prop
  | [.n l, .n c, .i t, .i T, .i S, .i K, .i G, .i Q, .rs rs] => c = l ∧ rs.length = l ∧ 0 ≤ t ∧ S ≤ 12 ∧ l + 4 * (S - t).toNat ≤ 100000
  | _ => False
def l2_out : List Atom → Tree (Ex × List Atom)
  | [.n l, .n c, .i t, .i T, .i S, .i K, .i G, .i Q, .rs rs] => .leaf (.exit 2, [.n (l + 4 * (S - t).toNat), .n (l + 4 * (S - t).toNat), .i T, .i S, .i K, .i G, .i Q, .rs (rs ++ rowsOf (fun t => [[4, t], [5, t], [6, t], [7, t]]) (S - t).toNat t)])
  | _ => .bad
def l2_m : List Atom → Nat
  | [.n l, .n c, .i t, .i T, .i S, .i K, .i G, .i Q, .rs rs] => (S - t).toNat
  | _ => 0
theorem l2_step (x : List Atom) (hI : l2_I x) : ∃ e y, (round sp1 60 67 9 0 (FL 5 2) x).get = some (e, y) ∧ (e = .normal → l2_I y ∧ l2_m y < l2_m x ∧ (l2_out y).get = (l2_out x).get) ∧ (e ≠ .normal → (l2_out x).get = some (e, y)) := by
  unfold l2_I at hI
  split at hI
  · rename_i l c t T S K G Q rs
    obtain ⟨rfl, hl, h0, hX, hb⟩ := hI
    by_cases ht : t < S
    · have hk : (S - t).toNat = (S - (t + 1)).toNat + 1 := by omega
      have hw : IntKind.i64.wrap (t + 1) = t + 1 := by rw [IntKind.wrap_i64]; omega
      refine ⟨_, _, get_walk (l2_more c t T S K G Q rs) ?_, fun _ => ⟨?_, ?_, ?_⟩, fun h => absurd rfl h⟩
      · have hc : c = c ∧ rs.length * 2 = c * 2 ∧ (c + 4) * 16 ≤ 140737488355328 ∧ c + 4 ≤ 4611686018427387904 := ⟨rfl, by omega, by omega, by omega⟩
        rw [decide_eq_true ht, decide_eq_true hc]
      · rw [hw]
        exact ⟨rfl, by simp [hl], by omega, hX, by omega⟩
      · rw [hw]
        show (S - (t + 1)).toNat < (S - t).toNat
        omega
      · rw [hw]
        simp only [l2_out, Tree.get_leaf, hk, rowsOf, List.append_assoc]
        rw [show c + 4 + 4 * (S - (t + 1)).toNat = c + 4 * ((S - (t + 1)).toNat + 1) by omega]
    · refine ⟨_, _, get_walk (l2_end c t T S K G Q rs) ?_, fun h => (by cases h), fun _ => ?_⟩
      · rw [decide_eq_false ht]
      · have hk : (S - t).toNat = 0 := by omega
        simp only [l2_out, Tree.get_leaf, hk, rowsOf, List.append_nil, Nat.mul_zero, Nat.add_zero]
  · exact hI.elim
noncomputable def sp2 : Sums := withLoop sp1 67 9 (lsum 0 (FL 5 2) l2_I l2_out)
theorem sp2_ok : SumsOk sp2 := loop_sum sp1_ok l2_m body_is (by kernel_rfl) (by decide) l2_step

theorem l3_more (l : Nat) (t T S K G Q : Int) (rs : List (List Int)) : walk (round sp2 60 67 13 0 (FL 6 4) [.n l, .n l, .i t, .i T, .i S, .i K, .i G, .i Q, .rs rs]) [true, false, true, true] =
    some ([decide (t < K), false, true, decide (l = l ∧ rs.length * 2 = l * 2 ∧ (l + 1) * 16 ≤ 140737488355328 ∧ l + 1 ≤ 4611686018427387904)], (.normal, [.n (l + 1), .n (l + 1), .i (IntKind.i64.wrap (t + 1)), .i T, .i S, .i K, .i G, .i Q, .rs (rs ++ [[8, t]])])) := by kernel_rfl
theorem l3_end (l : Nat) (t T S K G Q : Int) (rs : List (List Int)) : walk (round sp2 60 67 13 0 (FL 6 4) [.n l, .n l, .i t, .i T, .i S, .i K, .i G, .i Q, .rs rs]) [false] =
    some ([decide (t < K)], (.exit 4, [.n l, .n l, .i T, .i S, .i K, .i G, .i Q, .rs rs])) := by kernel_rfl
def l3_I : List Atom → Prop
  | [.n l, .n c, .i t, .i T, .i S, .i K, .i G, .i Q, .rs rs] => c = l ∧ rs.length = l ∧ 0 ≤ t ∧ K ≤ 12 ∧ l + 1 * (K - t).toNat ≤ 100000
  | _ => False
def l3_out : List Atom → Tree (Ex × List Atom)
  | [.n l, .n c, .i t, .i T, .i S, .i K, .i G, .i Q, .rs rs] => .leaf (.exit 4, [.n (l + 1 * (K - t).toNat), .n (l + 1 * (K - t).toNat), .i T, .i S, .i K, .i G, .i Q, .rs (rs ++ rowsOf (fun t => [[8, t]]) (K - t).toNat t)])
  | _ => .bad
def l3_m : List Atom → Nat
  | [.n l, .n c, .i t, .i T, .i S, .i K, .i G, .i Q, .rs rs] => (K - t).toNat
  | _ => 0
theorem l3_step (x : List Atom) (hI : l3_I x) : ∃ e y, (round sp2 60 67 13 0 (FL 6 4) x).get = some (e, y) ∧ (e = .normal → l3_I y ∧ l3_m y < l3_m x ∧ (l3_out y).get = (l3_out x).get) ∧ (e ≠ .normal → (l3_out x).get = some (e, y)) := by
  unfold l3_I at hI
  split at hI
  · rename_i l c t T S K G Q rs
    obtain ⟨rfl, hl, h0, hX, hb⟩ := hI
    by_cases ht : t < K
    · have hk : (K - t).toNat = (K - (t + 1)).toNat + 1 := by omega
      have hw : IntKind.i64.wrap (t + 1) = t + 1 := by rw [IntKind.wrap_i64]; omega
      refine ⟨_, _, get_walk (l3_more c t T S K G Q rs) ?_, fun _ => ⟨?_, ?_, ?_⟩, fun h => absurd rfl h⟩
      · have hc : c = c ∧ rs.length * 2 = c * 2 ∧ (c + 1) * 16 ≤ 140737488355328 ∧ c + 1 ≤ 4611686018427387904 := ⟨rfl, by omega, by omega, by omega⟩
        rw [decide_eq_true ht, decide_eq_true hc]
      · rw [hw]
        exact ⟨rfl, by simp [hl], by omega, hX, by omega⟩
      · rw [hw]
        show (K - (t + 1)).toNat < (K - t).toNat
        omega
      · rw [hw]
        simp only [l3_out, Tree.get_leaf, hk, rowsOf, List.append_assoc]
        rw [show c + 1 + 1 * (K - (t + 1)).toNat = c + 1 * ((K - (t + 1)).toNat + 1) by omega]
    · refine ⟨_, _, get_walk (l3_end c t T S K G Q rs) ?_, fun h => (by cases h), fun _ => ?_⟩
      · rw [decide_eq_false ht]
      · have hk : (K - t).toNat = 0 := by omega
        simp only [l3_out, Tree.get_leaf, hk, rowsOf, List.append_nil, Nat.mul_zero, Nat.add_zero]
  · exact hI.elim
noncomputable def sp_sums : Sums := withLoop sp2 67 13 (lsum 0 (FL 6 4) l3_I l3_out)
theorem sp_ok : SumsOk sp_sums := loop_sum sp2_ok l3_m body_is (by kernel_rfl) (by decide) l3_step
end Go.Proofs.YtifojacfedjedaaGreat.Bound
end

section
namespace Go.Proofs.YtifojacfedjedaaGreat.Bound
open Go.Proofs.YtifojacfedjedaaGreat.Ev
set_option linter.unusedVariables false
def spotsL (T S K : Int) : List (List Int) := [[1, 0], [2, 0]] ++ rowsOf (fun t => [[3, t]]) T.toNat 0 ++ rowsOf (fun t => [[4, t], [5, t], [6, t], [7, t]]) S.toNat 0 ++ rowsOf (fun t => [[8, t]]) K.toNat 0
def lenN (T S K : Int) : Nat := 2 + T.toNat + 4 * S.toNat + K.toNat
theorem spotsL_length (T S K : Int) : (spotsL T S K).length = lenN T S K := by
  simp only [spotsL, lenN, List.length_append, rowsOf_length (d := 1) (g := fun t => [[3, t]]) (fun _ => rfl), rowsOf_length (d := 4) (g := fun t => [[4, t], [5, t], [6, t], [7, t]]) (fun _ => rfl), rowsOf_length (d := 1) (g := fun t => [[8, t]]) (fun _ => rfl)]
  simp
def spF : FForm := ⟨[.agg [.int .i64, .int .i64, .int .i64, .int .i64, .int .u64]], [], [⟨[(0, .nilSlice)], 1, [], 0, []⟩, ⟨[(0, .slice 0 0 (some 8192))], 1, [(0, 53, .recs [.int .i64, .int .i64])], 1, []⟩]⟩
theorem spots_no (T S K G Q : Int) : walk (endF (ev sp_sums 60 67) spF [.i T, .i S, .i K, .i G, .i Q]) [true] = some ([!right T S K G Q], (0, [])) := by kernel_rfl
theorem spots_yes (T S K G Q : Int) : walk (endF (ev sp_sums 60 67) spF [.i T, .i S, .i K, .i G, .i Q]) [false, true, true, true] =
    some ([!right T S K G Q, cdec (l1_I [.n 2, .n 2, .i 0, .i T, .i S, .i K, .i G, .i Q, .rs [[1, 0], [2, 0]]]),
      cdec (l2_I [.n (2 + 1 * (T - 0).toNat), .n (2 + 1 * (T - 0).toNat), .i 0, .i T, .i S, .i K, .i G, .i Q, .rs ([[1, 0], [2, 0]] ++ rowsOf (fun t => [[3, t]]) (T - 0).toNat 0)]),
      cdec (l3_I [.n (2 + 1 * (T - 0).toNat + 4 * (S - 0).toNat), .n (2 + 1 * (T - 0).toNat + 4 * (S - 0).toNat), .i 0, .i T, .i S, .i K, .i G, .i Q, .rs ([[1, 0], [2, 0]] ++ rowsOf (fun t => [[3, t]]) (T - 0).toNat 0 ++ rowsOf (fun t => [[4, t], [5, t], [6, t], [7, t]]) (S - 0).toNat 0)])],
      (1, [.n (2 + 1 * (T - 0).toNat + 4 * (S - 0).toNat + 1 * (K - 0).toNat), .n (2 + 1 * (T - 0).toNat + 4 * (S - 0).toNat + 1 * (K - 0).toNat), .rs ([[1, 0], [2, 0]] ++ rowsOf (fun t => [[3, t]]) (T - 0).toNat 0 ++ rowsOf (fun t => [[4, t], [5, t], [6, t], [7, t]]) (S - 0).toNat 0 ++ rowsOf (fun t => [[8, t]]) (K - 0).toNat 0)])) := by kernel_rfl
theorem right_iff {T S K G Q : Int} : right T S K G Q = true ↔ 1 ≤ T ∧ T ≤ 8 ∧ 1 ≤ S ∧ S ≤ 12 ∧ 1 ≤ K ∧ K ≤ 8 ∧ 0 ≤ G ∧ G ≤ 1073741823 ∧ Q ≤ 1099511627775 := by simp [right]
def spI : List Atom → Prop
  | [.i T, .i S, .i K, .i G, .i Q] => True
  | _ => False
def spOut : List Atom → Tree (Nat × List Atom)
  | [.i T, .i S, .i K, .i G, .i Q] => .br (right T S K G Q) (.leaf (1, [.n (lenN T S K), .n (lenN T S K), .rs (spotsL T S K)])) (.leaf (0, []))
  | _ => .bad
theorem sp_step (x : List Atom) (h : spI x) : ∃ r, (endF (ev sp_sums 60 67) spF x).get = some r ∧ (spOut x).get = some r := by
  unfold spI at h
  split at h
  · rename_i T S K G Q
    cases hR : right T S K G Q with
    | false => exact ⟨_, get_walk (spots_no T S K G Q) (by rw [hR]; rfl), by simp [spOut, hR]⟩
    | true =>
      obtain ⟨a1, a2, b1, b2, c1, c2, _⟩ := right_iff.1 hR
      refine ⟨_, get_walk (spots_yes T S K G Q) ?_, ?_⟩
      · have g3 : ∀ n t, (rowsOf (fun t => [[3, t]]) n t).length = 1 * n := rowsOf_length (fun _ => rfl)
        have g4 : ∀ n t, (rowsOf (fun t => [[4, t], [5, t], [6, t], [7, t]]) n t).length = 4 * n := rowsOf_length (fun _ => rfl)
        rw [hR, cdec_true, cdec_true, cdec_true]
        · rfl
        · refine ⟨rfl, by rw [List.length_append, List.length_append, g3, g4]; rfl, by omega, by omega, by omega⟩
        · refine ⟨rfl, by rw [List.length_append, g3]; rfl, by omega, by omega, by omega⟩
        · refine ⟨rfl, rfl, by omega, by omega, by omega⟩
      · simp only [spOut, hR, Tree.get_br, if_true, Tree.get_leaf, Int.sub_zero, Nat.one_mul, lenN, spotsL]
  · exact h.elim
noncomputable def sums5 : Sums := withForm sums1 67 spF spI spOut
theorem sums5_ok : SumsOk sums5 := withForm_ok sums1_ok sp_ok 60 (by kernel_rfl) sp_step
end Go.Proofs.YtifojacfedjedaaGreat.Bound
end

section
namespace Go.Proofs.YtifojacfedjedaaGreat.ChartMath

def Rt (T S K G Q : Int) : Prop := 1 ≤ T ∧ T ≤ 8 ∧ 1 ≤ S ∧ S ≤ 12 ∧ 1 ≤ K ∧ K ≤ 8 ∧ 0 ≤ G ∧ G ≤ 1073741823 ∧ Q ≤ 1099511627775
instance (T S K G Q : Int) : Decidable (Rt T S K G Q) := by unfold Rt; infer_instance

def lenOf (T S K : Int) : Int := 2 + T + 4 * S + K
def cellOf (T S K kind of : Int) : Int :=
  if kind = 1 ∧ of = 0 then 0 else if kind = 2 ∧ of = 0 then 1
  else if kind = 3 ∧ 0 ≤ of ∧ of < T then 2 + of
  else if 4 ≤ kind ∧ kind ≤ 7 ∧ 0 ≤ of ∧ of < S then 2 + T + (kind - 4) + 4 * of
  else if kind = 8 ∧ 0 ≤ of ∧ of < K then 2 + T + 4 * S + of
  else -1
def kindAt (T S i : Int) : Int := if i = 0 then 1 else if i = 1 then 2 else if i < 2 + T then 3 else if i < 2 + T + 4 * S then 4 + (i - 2 - T) % 4 else 8
def ofAt (T S i : Int) : Int := if i < 2 then 0 else if i < 2 + T then i - 2 else if i < 2 + T + 4 * S then (i - 2 - T) / 4 else i - 2 - T - 4 * S

theorem cell_at {T S K i : Int} (h0 : 0 ≤ i) (h1 : i < lenOf T S K) : cellOf T S K (kindAt T S i) (ofAt T S i) = i := by
  unfold lenOf at h1
  unfold kindAt ofAt
  by_cases a : i = 0
  · subst a; simp [cellOf]
  by_cases b : i = 1
  · subst b; simp [cellOf]
  rw [if_neg a, if_neg b, if_neg (show ¬ i < 2 by omega)]
  by_cases c : i < 2 + T
  · rw [if_pos c, if_pos c]; unfold cellOf
    rw [if_neg (by omega), if_neg (by omega), if_pos (by omega)]; omega
  rw [if_neg c, if_neg c]
  by_cases d : i < 2 + T + 4 * S
  · rw [if_pos d, if_pos d]; unfold cellOf
    rw [if_neg (by omega), if_neg (by omega), if_neg (by omega), if_pos (by omega)]; omega
  rw [if_neg d, if_neg d]; unfold cellOf
  rw [if_neg (by omega), if_neg (by omega), if_neg (by omega), if_neg (by omega), if_pos (by omega)]; omega

theorem at_cell {T S K kind of : Int} (hT : 0 ≤ T) (hS : 0 ≤ S) (hK : 0 ≤ K) (h : 0 ≤ cellOf T S K kind of) :
    cellOf T S K kind of < lenOf T S K ∧ kindAt T S (cellOf T S K kind of) = kind ∧ ofAt T S (cellOf T S K kind of) = of := by
  unfold cellOf at h ⊢
  unfold lenOf
  by_cases a : kind = 1 ∧ of = 0
  · rw [if_pos a]; obtain ⟨rfl, rfl⟩ := a; exact ⟨by omega, by simp [kindAt], by simp [ofAt]⟩
  rw [if_neg a] at h ⊢
  by_cases b : kind = 2 ∧ of = 0
  · rw [if_pos b]; obtain ⟨rfl, rfl⟩ := b; exact ⟨by omega, by simp [kindAt], by simp [ofAt]⟩
  rw [if_neg b] at h ⊢
  by_cases c : kind = 3 ∧ 0 ≤ of ∧ of < T
  · rw [if_pos c]; unfold kindAt ofAt
    rw [if_neg (by omega), if_neg (by omega), if_pos (by omega), if_neg (by omega), if_pos (by omega)]; omega
  rw [if_neg c] at h ⊢
  by_cases d : 4 ≤ kind ∧ kind ≤ 7 ∧ 0 ≤ of ∧ of < S
  · rw [if_pos d]; unfold kindAt ofAt
    rw [if_neg (by omega), if_neg (by omega), if_neg (by omega), if_pos (by omega), if_neg (by omega), if_neg (by omega), if_pos (by omega)]; omega
  rw [if_neg d] at h ⊢
  by_cases e : kind = 8 ∧ 0 ≤ of ∧ of < K
  · rw [if_pos e]; unfold kindAt ofAt
    rw [if_neg (by omega), if_neg (by omega), if_neg (by omega), if_neg (by omega), if_neg (by omega), if_neg (by omega), if_neg (by omega)]; omega
  rw [if_neg e] at h
  omega

theorem cell_low {T S K kind of : Int} (hT : 0 ≤ T) (hS : 0 ≤ S) : -1 ≤ cellOf T S K kind of := by
  unfold cellOf; repeat' split
  all_goals omega

/-- Where spots of a kind stand: from, many, apart. -/
def ofv (T S K kind : Int) : Int × Int × Int :=
  if kind = 1 then (0, 1, 1) else if kind = 2 then (1, 1, 1) else if kind = 3 then (2, T, 1)
  else if 4 ≤ kind ∧ kind ≤ 7 then (2 + T + kind - 4, S, 4) else if kind = 8 then (2 + T + 4 * S, K, 1) else (0, 0, 0)

theorem cell_ofv {T S K kind of : Int} (hT : 1 ≤ T) (hS : 1 ≤ S) (hK : 1 ≤ K) :
    cellOf T S K kind of = if (ofv T S K kind).1 = 0 ∧ (ofv T S K kind).2.1 = 0 ∧ (ofv T S K kind).2.2 = 0 then -1 else if of < 0 then -1 else if of ≥ (ofv T S K kind).2.1 then -1 else (ofv T S K kind).1 + of * (ofv T S K kind).2.2 := by
  unfold ofv
  by_cases a : kind = 1
  · subst a; rw [if_pos rfl]; unfold cellOf; dsimp only; repeat' split
    all_goals omega
  rw [if_neg a]
  by_cases b : kind = 2
  · subst b; rw [if_pos rfl]; unfold cellOf; dsimp only; repeat' split
    all_goals omega
  rw [if_neg b]
  by_cases c : kind = 3
  · subst c; rw [if_pos rfl]; unfold cellOf; dsimp only; repeat' split
    all_goals omega
  rw [if_neg c]
  by_cases d : 4 ≤ kind ∧ kind ≤ 7
  · rw [if_pos d]; unfold cellOf; dsimp only; repeat' split
    all_goals omega
  rw [if_neg d]
  by_cases e : kind = 8
  · subst e; rw [if_pos rfl]; unfold cellOf; dsimp only; repeat' split
    all_goals omega
  rw [if_neg e]; unfold cellOf; dsimp only; repeat' split
  all_goals omega

/-- What the loop of 'At' reckons at the right kind. -/
theorem at_div {T S K i : Int} (h0 : 0 ≤ i) (h1 : i < lenOf T S K) :
    Int.tdiv (i - (ofv T S K (kindAt T S i)).1) (ofv T S K (kindAt T S i)).2.2 = ofAt T S i ∧ 1 ≤ kindAt T S i ∧ kindAt T S i ≤ 8 := by
  unfold lenOf at h1
  unfold kindAt ofAt
  by_cases a : i = 0
  · subst a; simp [ofv]
  by_cases b : i = 1
  · subst b; simp [ofv]
  rw [if_neg a, if_neg b, if_neg (show ¬ i < 2 by omega)]
  by_cases c : i < 2 + T
  · rw [if_pos c, if_pos c]; simp [ofv]
  rw [if_neg c, if_neg c]
  by_cases d : i < 2 + T + 4 * S
  · rw [if_pos d, if_pos d]; unfold ofv
    rw [if_neg (by omega), if_neg (by omega), if_neg (by omega), if_pos (by omega)]
    refine ⟨?_, by omega, by omega⟩
    dsimp only
    rw [Int.tdiv_eq_ediv_of_nonneg (by omega)]; omega
  rw [if_neg d, if_neg d]; simp [ofv]; omega

theorem ofv_range {T S K kind : Int} (hT : 1 ≤ T ∧ T ≤ 8) (hS : 1 ≤ S ∧ S ≤ 12) (hK : 1 ≤ K ∧ K ≤ 8) :
    0 ≤ (ofv T S K kind).1 ∧ (ofv T S K kind).1 ≤ 60 ∧ 0 ≤ (ofv T S K kind).2.1 ∧ (ofv T S K kind).2.1 ≤ 12 ∧ 0 ≤ (ofv T S K kind).2.2 ∧ (ofv T S K kind).2.2 ≤ 4 ∧ (1 ≤ kind → kind ≤ 8 → 1 ≤ (ofv T S K kind).2.2) := by
  unfold ofv; repeat' split
  all_goals (dsimp only; omega)

end Go.Proofs.YtifojacfedjedaaGreat.ChartMath
end

section
namespace Go.Proofs.YtifojacfedjedaaGreat.Bound
open Go.Proofs.YtifojacfedjedaaGreat.Ev Go.Proofs.YtifojacfedjedaaGreat.ChartMath
set_option linter.unusedVariables false
set_option linter.unusedSimpArgs false
theorem rowsOf_get {g : Int → List (List Int)} {d : Nat} (h : ∀ t, (g t).length = d) : ∀ (n : Nat) (t : Int) (j c : Nat), j < n → c < d → (rowsOf g n t)[d * j + c]? = (g (t + j))[c]?
  | 0, t, j, c, hj, _ => by omega
  | n + 1, t, 0, c, _, hc => by
    simp only [rowsOf, Nat.mul_zero, Nat.zero_add]
    rw [List.getElem?_append_left (by rw [h]; exact hc)]
    simp
  | n + 1, t, j + 1, c, hj, hc => by
    simp only [rowsOf]
    rw [List.getElem?_append_right (by rw [h, Nat.mul_add]; omega), h]
    rw [show d * (j + 1) + c - d = d * j + c by rw [Nat.mul_add]; omega]
    rw [rowsOf_get h n (t + 1) j c (by omega) hc]
    congr 2
    omega
theorem spots_get {T S K : Int} (hT : 0 ≤ T) (hS : 0 ≤ S) (hK : 0 ≤ K) {k : Int} (h0 : 0 ≤ k) (h1 : k < lenOf T S K) : (spotsL T S K).getD k.toNat [] = [kindAt T S k, ofAt T S k] := by
  unfold lenOf at h1
  rw [List.getD_eq_getElem?_getD]
  suffices (spotsL T S K)[k.toNat]? = some [kindAt T S k, ofAt T S k] by rw [this]; rfl
  have g3 : ∀ n t, (rowsOf (fun t => [[3, t]]) n t).length = 1 * n := rowsOf_length (fun _ => rfl)
  have g4 : ∀ n t, (rowsOf (fun t => [[4, t], [5, t], [6, t], [7, t]]) n t).length = 4 * n := rowsOf_length (fun _ => rfl)
  unfold spotsL kindAt ofAt
  by_cases a : k = 0
  · subst a; simp
  by_cases b : k = 1
  · subst b; simp
  rw [if_neg a, if_neg b, if_neg (show ¬ k < 2 by omega)]
  by_cases c : k < 2 + T
  · rw [if_pos c, if_pos c]
    rw [List.getElem?_append_left (by simp [g3, g4]; omega), List.getElem?_append_left (by simp [g3]; omega), List.getElem?_append_right (by simp; omega)]
    have := rowsOf_get (g := fun t => [[3, t]]) (d := 1) (fun _ => rfl) T.toNat 0 (k.toNat - 2) 0 (by omega) (by omega)
    rw [show k.toNat - [[(1 : Int), 0], [2, 0]].length = 1 * (k.toNat - 2) + 0 by simp, this]
    simp
    omega
  rw [if_neg c, if_neg c]
  by_cases d : k < 2 + T + 4 * S
  · rw [if_pos d, if_pos d]
    rw [List.getElem?_append_left (by simp [g3, g4]; omega), List.getElem?_append_right (by simp [g3]; omega)]
    have hq : k.toNat - (2 + T.toNat) = 4 * ((k.toNat - (2 + T.toNat)) / 4) + (k.toNat - (2 + T.toNat)) % 4 := by omega
    have := rowsOf_get (g := fun t => [[4, t], [5, t], [6, t], [7, t]]) (d := 4) (fun _ => rfl) S.toNat 0 ((k.toNat - (2 + T.toNat)) / 4) ((k.toNat - (2 + T.toNat)) % 4) (by omega) (by omega)
    rw [List.length_append, g3, show k.toNat - ([[(1 : Int), 0], [2, 0]].length + 1 * T.toNat) = k.toNat - (2 + T.toNat) by simp, hq, this]
    have e1 : (k - 2 - T) / 4 = (((k.toNat - (2 + T.toNat)) / 4 : Nat) : Int) := by omega
    have e2 : (k - 2 - T) % 4 = (((k.toNat - (2 + T.toNat)) % 4 : Nat) : Int) := by omega
    rw [e1, e2]
    have h4 : (k.toNat - (2 + T.toNat)) % 4 < 4 := Nat.mod_lt _ (by omega)
    generalize (k.toNat - (2 + T.toNat)) % 4 = m at h4
    generalize (((k.toNat - (2 + T.toNat)) / 4 : Nat) : Int) = q
    rcases (by omega : m = 0 ∨ m = 1 ∨ m = 2 ∨ m = 3) with rfl | rfl | rfl | rfl <;> simp
  · rw [if_neg d, if_neg d]
    rw [List.getElem?_append_right (by simp [g3, g4]; omega)]
    have := rowsOf_get (g := fun t => [[8, t]]) (d := 1) (fun _ => rfl) K.toNat 0 (k.toNat - (2 + T.toNat + 4 * S.toNat)) 0 (by omega) (by omega)
    rw [List.length_append, List.length_append, g3, g4, show k.toNat - ([[(1 : Int), 0], [2, 0]].length + 1 * T.toNat + 4 * S.toNat) = 1 * (k.toNat - (2 + T.toNat + 4 * S.toNat)) + 0 by simp, this]
    simp
    omega
/-- Where a spot is found, from one on. -/
def posS (kind o : Int) (rs : List (List Int)) : Nat → Int → Int
  | 0, _ => -1
  | n + 1, k => if (rs.getD k.toNat []).getD 0 0 = kind ∧ (rs.getD k.toNat []).getD 1 0 = o then k else posS kind o rs n (k + 1)
theorem pos_is {T S K kind o : Int} (hT : 1 ≤ T) (hS : 1 ≤ S) (hK : 1 ≤ K) : ∀ (n : Nat) (k : Int), 0 ≤ k → k + n = lenOf T S K → (∀ j, 0 ≤ j → j < k → j ≠ cellOf T S K kind o) → posS kind o (spotsL T S K) n k = cellOf T S K kind o
  | 0, k, h0, hk, hn => by
    unfold posS
    have := cell_low (K := K) (kind := kind) (of := o) (show (0 : Int) ≤ T by omega) (show (0 : Int) ≤ S by omega)
    rcases Int.lt_or_le (cellOf T S K kind o) 0 with h | h
    · omega
    · have := (at_cell (by omega) (by omega) (by omega) h).1
      exact absurd rfl (hn _ h (by omega))
  | n + 1, k, h0, hk, hn => by
    unfold posS
    rw [spots_get (by omega) (by omega) (by omega) h0 (by omega)]
    have e0 : ([kindAt T S k, ofAt T S k] : List Int).getD 0 0 = kindAt T S k := rfl
    have e1 : ([kindAt T S k, ofAt T S k] : List Int).getD 1 0 = ofAt T S k := rfl
    rw [e0, e1]
    split
    · rename_i h
      rw [← h.1, ← h.2, cell_at h0 (by omega)]
    · rename_i h
      refine pos_is hT hS hK n (k + 1) (by omega) (by omega) (fun j j0 j1 => ?_)
      by_cases e : j = k
      · subst e
        intro hc
        apply h
        have := at_cell (T := T) (S := S) (K := K) (kind := kind) (of := o) (by omega) (by omega) (by omega) (by omega)
        rw [← hc] at this
        exact this.2
      · exact hn j j0 (by omega)
def spR : Nat × TypeId × CPat := (0, 53, .recs [.int .i64, .int .i64])
def FC : LForm := ⟨[1, 2, 7, 8], ⟨[(1, .int .i64), (2, .int .i64), (7, .slice 0 0 (some 8192)), (8, .int .i64)], 34, [spR], 1, []⟩, [6], [(0, ⟨[], 34, [], 0, []⟩)], [⟨[(6, .int .i64)], 34, [], 0, []⟩]⟩
theorem c_hit (kind o : Int) (l c : Nat) (k : Int) (rs : List (List Int)) : walk (round sums5 60 95 3 0 FC [.i kind, .i o, .n l, .n c, .i k, .rs rs]) [true, true, true, true, true, true, true, true, true, true, true, true, true] =
    some ([decide (k < (l : Int)), decide (0 ≤ k ∧ k < (l : Int)), decide (0 + k.toNat < rs.length), (rs.getD (0 + k.toNat) []).getD 0 0 == kind, true, true, decide (0 ≤ k ∧ k < (l : Int)), true, true, decide (0 + k.toNat < rs.length), true, true, bif true then (rs.getD (0 + k.toNat) []).getD (0 + 1) 0 == o else false], (.ret, [.i k])) := by kernel_rfl
theorem c_of (kind o : Int) (l c : Nat) (k : Int) (rs : List (List Int)) : walk (round sums5 60 95 3 0 FC [.i kind, .i o, .n l, .n c, .i k, .rs rs]) [true, true, true, true, true, true, true, true, true, true, true, true, false] =
    some ([decide (k < (l : Int)), decide (0 ≤ k ∧ k < (l : Int)), decide (0 + k.toNat < rs.length), (rs.getD (0 + k.toNat) []).getD 0 0 == kind, true, true, decide (0 ≤ k ∧ k < (l : Int)), true, true, decide (0 + k.toNat < rs.length), true, true, bif true then (rs.getD (0 + k.toNat) []).getD (0 + 1) 0 == o else false], (.normal, [.i kind, .i o, .n l, .n c, .i (IntKind.i64.wrap (k + 1)), .rs rs])) := by kernel_rfl
theorem c_kind (kind o : Int) (l c : Nat) (k : Int) (rs : List (List Int)) : walk (round sums5 60 95 3 0 FC [.i kind, .i o, .n l, .n c, .i k, .rs rs]) [true, true, true, false, false, false, false, false, false, false, false, false] =
    some ([decide (k < (l : Int)), decide (0 ≤ k ∧ k < (l : Int)), decide (0 + k.toNat < rs.length), (rs.getD (0 + k.toNat) []).getD 0 0 == kind, false, false, false, false, false, false, false, false], (.normal, [.i kind, .i o, .n l, .n c, .i (IntKind.i64.wrap (k + 1)), .rs rs])) := by kernel_rfl
theorem c_end (kind o : Int) (l c : Nat) (k : Int) (rs : List (List Int)) : walk (round sums5 60 95 3 0 FC [.i kind, .i o, .n l, .n c, .i k, .rs rs]) [false] = some ([decide (k < (l : Int))], (.exit 0, [])) := by kernel_rfl
def c_I : List Atom → Prop
  | [.i kind, .i o, .n l, .n c, .i k, .rs rs] => rs.length = l ∧ 0 ≤ k ∧ l ≤ 100000
  | _ => False
def c_out : List Atom → Tree (Ex × List Atom)
  | [.i kind, .i o, .n l, .n c, .i k, .rs rs] => .br (decide (0 ≤ posS kind o rs ((l : Int) - k).toNat k)) (.leaf (.ret, [.i (posS kind o rs ((l : Int) - k).toNat k)])) (.leaf (.exit 0, []))
  | _ => .bad
def c_m : List Atom → Nat
  | [.i kind, .i o, .n l, .n c, .i k, .rs rs] => ((l : Int) - k).toNat
  | _ => 0
theorem c_step (x : List Atom) (hI : c_I x) : ∃ e y, (round sums5 60 95 3 0 FC x).get = some (e, y) ∧ (e = .normal → c_I y ∧ c_m y < c_m x ∧ (c_out y).get = (c_out x).get) ∧ (e ≠ .normal → (c_out x).get = some (e, y)) := by
  unfold c_I at hI
  split at hI
  · rename_i kind o l c k rs
    obtain ⟨hl, h0, hb⟩ := hI
    by_cases hk : k < (l : Int)
    · have h1 : 0 ≤ k ∧ k < (l : Int) := ⟨h0, hk⟩
      have h2 : k.toNat < rs.length := by omega
      have hw : IntKind.i64.wrap (k + 1) = k + 1 := by rw [IntKind.wrap_i64]; omega
      have hn : ((l : Int) - k).toNat = ((l : Int) - (k + 1)).toNat + 1 := by omega
      have next : ¬ ((rs.getD k.toNat []).getD 0 0 = kind ∧ (rs.getD k.toNat []).getD 1 0 = o) → c_I [.i kind, .i o, .n l, .n c, .i (IntKind.i64.wrap (k + 1)), .rs rs] ∧ c_m [.i kind, .i o, .n l, .n c, .i (IntKind.i64.wrap (k + 1)), .rs rs] < c_m [.i kind, .i o, .n l, .n c, .i k, .rs rs] ∧
          (c_out [.i kind, .i o, .n l, .n c, .i (IntKind.i64.wrap (k + 1)), .rs rs]).get = (c_out [.i kind, .i o, .n l, .n c, .i k, .rs rs]).get := by
        intro hne
        rw [hw]
        refine ⟨⟨hl, by omega, hb⟩, by show ((l : Int) - (k + 1)).toNat < ((l : Int) - k).toNat; omega, ?_⟩
        simp only [c_out, hn, posS, if_neg hne]
      by_cases hkind : (rs.getD k.toNat []).getD 0 0 = kind
      · by_cases ho : (rs.getD k.toNat []).getD 1 0 = o
        · refine ⟨_, _, get_walk (c_hit kind o l c k rs) ?_, fun h => (by cases h), fun _ => ?_⟩
          · simp only [decide_eq_true hk, decide_eq_true h1, decide_eq_true h2, Nat.zero_add, hkind, ho, beq_self_eq_true, cond_true]
          · have hp : posS kind o rs ((l : Int) - k).toNat k = k := by rw [hn]; unfold posS; rw [if_pos ⟨hkind, ho⟩]
            simp only [c_out, hp, Tree.get_br, decide_eq_true h0, if_true, Tree.get_leaf]
        · refine ⟨_, _, get_walk (c_of kind o l c k rs) ?_, fun _ => next (fun h => ho h.2), fun h => absurd rfl h⟩
          have ho' : ((rs.getD k.toNat []).getD 1 0 == o) = false := by simpa using ho
          simp only [decide_eq_true hk, decide_eq_true h1, decide_eq_true h2, Nat.zero_add, hkind, ho', beq_self_eq_true, cond_true]
      · refine ⟨_, _, get_walk (c_kind kind o l c k rs) ?_, fun _ => next (fun h => hkind h.1), fun h => absurd rfl h⟩
        have hk' : ((rs.getD k.toNat []).getD 0 0 == kind) = false := by simpa using hkind
        simp only [decide_eq_true hk, decide_eq_true h1, decide_eq_true h2, Nat.zero_add, hk']
    · refine ⟨_, _, get_walk (c_end kind o l c k rs) (by rw [decide_eq_false hk]), fun h => (by cases h), fun _ => ?_⟩
      have hn : ((l : Int) - k).toNat = 0 := by omega
      simp only [c_out, hn, posS, Tree.get_br]
      rfl
  · exact hI.elim
theorem bodyC_is : bodyOf 95 = some ((bodyOf 95).getD .skip) := by kernel_rfl
noncomputable def cl_sums : Sums := withLoop sums5 95 3 (lsum 0 FC c_I c_out)
theorem cl_ok : SumsOk cl_sums := loop_sum sums5_ok c_m bodyC_is (by kernel_rfl) (by decide) c_step
end Go.Proofs.YtifojacfedjedaaGreat.Bound
end

section
namespace Go.Proofs.YtifojacfedjedaaGreat.Bound
open Go.Proofs.YtifojacfedjedaaGreat.Ev Go.Proofs.YtifojacfedjedaaGreat.ChartMath
set_option linter.unusedVariables false
set_option linter.unusedSimpArgs false
/-- An answer with branches, by one of its ways. -/
theorem outV_of {t : Tree (Value × TH × List Nat)} {v : Value} {H : TH} {L : List Nat} (h : t.get = some (v, H, L)) : outV t = some v := by
  induction t with
  | leaf r => simp at h; subst h; rfl
  | bad => simp at h
  | br b t e ih1 ih2 => cases b <;> simp at h <;> simp [outV] <;> first | exact ih1 h | exact ih2 h
def cfg3 : List Value → Option (Int × Int × Int × Int × Int × Int × Int)
  | [.agg ⟨[.int .i64 T, .int .i64 S, .int .i64 K, .int .i64 G, .int .u64 Q]⟩, .int .i64 kind, .int .i64 o] => some (T, S, K, G, Q, kind, o)
  | _ => none
def spot3 : List Value → Option (Int × Int × Int × Int × Int × Int × Int)
  | [.agg ⟨[.int .i64 T, .int .i64 S, .int .i64 K, .int .i64 G, .int .u64 Q]⟩, .agg ⟨[.int .i64 kind, .int .i64 o]⟩] => some (T, S, K, G, Q, kind, o)
  | _ => none
def onCell (f : List Value → Option (Int × Int × Int × Int × Int × Int × Int)) (l : List Value) : Option (Bool × Value) := match f l with
  | some (T, S, K, G, Q, kind, o) => some (right T S K G Q, .int .i64 (cellOf T S K kind o))
  | none => none
theorem outV_walk {t : Tree (Value × TH × List Nat)} {ds bs : List Bool} {v : Value} (h : walkV t ds = some (bs, v)) (hb : bs = ds) : outV t = some v := by
  induction t generalizing ds bs with
  | leaf r => cases ds <;> simp [walkV] at h; simp [outV, h.2]
  | bad => cases ds <;> simp [walkV] at h
  | br b t e ih1 ih2 =>
    cases ds with
    | nil => simp [walkV] at h
    | cons d ds =>
      simp only [walkV] at h
      cases d with
      | true =>
        simp only [cond_true] at h
        cases hw : walkV t ds with
        | none => simp [hw] at h
        | some p =>
          obtain ⟨cs, x⟩ := p
          simp [hw] at h
          obtain ⟨rfl, rfl⟩ := h
          simp at hb
          obtain ⟨rfl, rfl⟩ := hb
          simpa [outV] using ih1 hw rfl
      | false =>
        simp only [cond_false] at h
        cases hw : walkV e ds with
        | none => simp [hw] at h
        | some p =>
          obtain ⟨cs, x⟩ := p
          simp [hw] at h
          obtain ⟨rfl, rfl⟩ := h
          simp at hb
          obtain ⟨rfl, rfl⟩ := hb
          simpa [outV] using ih2 hw rfl
theorem refcell_hit (T S K G Q kind o : Int) : walkV (ev cl_sums 60 95 [.agg #[.int .i64 T, .int .i64 S, .int .i64 K, .int .i64 G, .int .u64 Q], .int .i64 kind, .int .i64 o] ⟨.nil, 0⟩) [true, true, true, true] =
    some ([cdec (spI [.i T, .i S, .i K, .i G, .i Q]), right T S K G Q, cdec (c_I [.i kind, .i o, .n (lenN T S K), .n (lenN T S K), .i 0, .rs (spotsL T S K)]), decide (0 ≤ posS kind o (spotsL T S K) (((lenN T S K : Nat) : Int) - 0).toNat 0)], .int .i64 (posS kind o (spotsL T S K) (((lenN T S K : Nat) : Int) - 0).toNat 0)) := by kernel_rfl
theorem refcell_no (T S K G Q kind o : Int) : walkV (ev cl_sums 60 95 [.agg #[.int .i64 T, .int .i64 S, .int .i64 K, .int .i64 G, .int .u64 Q], .int .i64 kind, .int .i64 o] ⟨.nil, 0⟩) [true, true, true, false] =
    some ([cdec (spI [.i T, .i S, .i K, .i G, .i Q]), right T S K G Q, cdec (c_I [.i kind, .i o, .n (lenN T S K), .n (lenN T S K), .i 0, .rs (spotsL T S K)]), decide (0 ≤ posS kind o (spotsL T S K) (((lenN T S K : Nat) : Int) - 0).toNat 0)], .int .i64 (-1)) := by kernel_rfl
theorem refcell_is {T S K G Q kind o : Int} (hR : right T S K G Q = true) : outV (ev cl_sums 60 95 [.agg #[.int .i64 T, .int .i64 S, .int .i64 K, .int .i64 G, .int .u64 Q], .int .i64 kind, .int .i64 o] ⟨.nil, 0⟩) = some (.int .i64 (cellOf T S K kind o)) := by
  obtain ⟨a1, a2, b1, b2, c1, c2, _⟩ := right_iff.1 hR
  have hn : (((lenN T S K : Nat) : Int) - 0).toNat = lenN T S K := by omega
  have hp : posS kind o (spotsL T S K) (lenN T S K) 0 = cellOf T S K kind o := pos_is a1 b1 c1 _ 0 (by omega) (by simp only [lenN, lenOf]; omega) (fun j h1 h2 => by omega)
  have h1 : cdec (spI [.i T, .i S, .i K, .i G, .i Q]) = true := cdec_true trivial
  have h2 : cdec (c_I [.i kind, .i o, .n (lenN T S K), .n (lenN T S K), .i 0, .rs (spotsL T S K)]) = true := cdec_true ⟨spotsL_length T S K, by omega, by simp only [lenN]; omega⟩
  by_cases h : 0 ≤ cellOf T S K kind o
  · refine (outV_walk (refcell_hit T S K G Q kind o) ?_).trans ?_
    · rw [h1, hR, h2, hn, hp, decide_eq_true h]
    · rw [hn, hp]
  · refine (outV_walk (refcell_no T S K G Q kind o) ?_).trans ?_
    · rw [h1, hR, h2, hn, hp, decide_eq_false h]
    have := cell_low (K := K) (kind := kind) (of := o) (show (0 : Int) ≤ T by omega) (show (0 : Int) ≤ S by omega)
    congr 2
    omega
noncomputable def sums6 : Sums := withIf sums1 95 (onCell cfg3)
theorem sums6_ok : SumsOk sums6 := withIf_ok sums1_ok cl_ok 60 (by kernel_rfl) fun al v h => by
  unfold onCell at h
  cases hc : cfg3 al with
  | none => rw [hc] at h; cases h
  | some p =>
    obtain ⟨T, S, K, G, Q, kind, o⟩ := p
    rw [hc] at h
    simp at h
    obtain ⟨hR, rfl⟩ := h
    unfold cfg3 at hc
    split at hc
    · cases hc; exact ⟨rfl, rfl, refcell_is hR⟩
    · cases hc
/-- How many cells there are. -/
def lenA (T S K G Q : Int) : Int := bif right T S K G Q then lenOf T S K else 0
theorem reflen_ev (T S K G Q : Int) : outV (ev sums5 60 39 [.agg #[.int .i64 T, .int .i64 S, .int .i64 K, .int .i64 G, .int .u64 Q]] ⟨.nil, 0⟩) =
    bif cdec (spI [.i T, .i S, .i K, .i G, .i Q]) then bif right T S K G Q then some (.int .i64 ((lenN T S K : Nat) : Int)) else some (.int .i64 ((0 : Nat) : Int)) else none := by kernel_rfl
theorem reflen_is (T S K G Q : Int) : outV (ev sums5 60 39 [.agg #[.int .i64 T, .int .i64 S, .int .i64 K, .int .i64 G, .int .u64 Q]] ⟨.nil, 0⟩) = some (.int .i64 (lenA T S K G Q)) := by
  have h1 : cdec (spI [.i T, .i S, .i K, .i G, .i Q]) = true := cdec_true trivial
  rw [reflen_ev, h1]
  unfold lenA
  cases hR : right T S K G Q with
  | false => rfl
  | true =>
    obtain ⟨a1, a2, b1, b2, c1, c2, _⟩ := right_iff.1 hR
    simp only [cond_true]
    congr 2
    simp only [lenN, lenOf]
    omega
/-- Where those of a kind stand, by the program. -/
def ofK (T S K kind : Int) : Int × Int × Int := bif kind == 1 then (IntKind.i64.wrap (kind - 1), 1, 1) else bif kind == 2 then (IntKind.i64.wrap (kind - 1), 1, 1) else bif kind == 3 then (2, T, 1)
  else bif kind == 4 then (IntKind.i64.wrap (IntKind.i64.wrap (IntKind.i64.wrap (2 + T) + kind) - 4), S, 4) else bif kind == 5 then (IntKind.i64.wrap (IntKind.i64.wrap (IntKind.i64.wrap (2 + T) + kind) - 4), S, 4)
  else bif kind == 6 then (IntKind.i64.wrap (IntKind.i64.wrap (IntKind.i64.wrap (2 + T) + kind) - 4), S, 4) else bif kind == 7 then (IntKind.i64.wrap (IntKind.i64.wrap (IntKind.i64.wrap (2 + T) + kind) - 4), S, 4)
  else bif kind == 8 then (IntKind.i64.wrap (IntKind.i64.wrap (2 + T) + IntKind.i64.wrap (4 * S)), K, 1) else (0, 0, 0)
def ofKV (p : Int × Int × Int) : Value := .agg #[.int .i64 p.1, .int .i64 p.2.1, .int .i64 p.2.2]
theorem ofKV_bif {b : Bool} {p q : Int × Int × Int} : (bif b then some (ofKV p) else some (ofKV q)) = some (ofKV (bif b then p else q)) := by cases b <;> rfl
theorem ofk_is (T S K G Q kind : Int) : outV (ev sums1 60 54 [.agg #[.int .i64 T, .int .i64 S, .int .i64 K, .int .i64 G, .int .u64 Q], .int .i64 kind] ⟨.nil, 0⟩) = some (ofKV (ofK T S K kind)) := by
  unfold ofK
  simp only [← ofKV_bif]
  kernel_rfl
def of2 : List Value → Option (Int × Int × Int × Int)
  | [.agg ⟨[.int .i64 T, .int .i64 S, .int .i64 K, .int .i64 _, .int .u64 _]⟩, .int .i64 kind] => some (T, S, K, kind)
  | _ => none
def onOf (l : List Value) : Option Value := match of2 l with
  | some (T, S, K, kind) => some (ofKV (ofK T S K kind))
  | none => none
noncomputable def sums7 : Sums := withPure (withPure sums6 54 onOf) 39 (onCfg fun T S K G Q => .int .i64 (lenA T S K G Q))
theorem sums7_ok : SumsOk sums7 := by
  refine withPure_ok (withPure_ok sums6_ok sums1_ok 60 (by kernel_rfl) fun al v h => ?_) sums5_ok 60 (by kernel_rfl) fun al v h => ?_
  · unfold onOf at h
    cases hc : of2 al with
    | none => rw [hc] at h; cases h
    | some p =>
      obtain ⟨T, S, K, kind⟩ := p
      rw [hc] at h
      cases h
      unfold of2 at hc
      split at hc
      · cases hc; exact ⟨rfl, rfl, ofk_is _ _ _ _ _ _⟩
      · cases hc
  · obtain ⟨T, S, K, G, Q, rfl, rfl⟩ := onCfg_eq h
    exact ⟨rfl, rfl, reflen_is T S K G Q⟩
theorem ofK_ofv {T S K G Q : Int} (hR : right T S K G Q = true) (kind : Int) : ofK T S K kind = ofv T S K kind := by
  obtain ⟨a1, a2, b1, b2, c1, c2, _⟩ := right_iff.1 hR
  have w1 : IntKind.i64.wrap (2 + T) = 2 + T := by rw [IntKind.wrap_i64]; omega
  have w2 : IntKind.i64.wrap (4 * S) = 4 * S := by rw [IntKind.wrap_i64]; omega
  have w3 : IntKind.i64.wrap (2 + T + 4 * S) = 2 + T + 4 * S := by rw [IntKind.wrap_i64]; omega
  unfold ofK ofv
  rw [w1, w2, w3]
  by_cases h1 : kind = 1
  · subst h1; rfl
  by_cases h2 : kind = 2
  · subst h2; rfl
  by_cases h3 : kind = 3
  · subst h3; rfl
  have e1 : (kind == 1) = false := by simpa using h1
  have e2 : (kind == 2) = false := by simpa using h2
  have e3 : (kind == 3) = false := by simpa using h3
  rw [if_neg h1, if_neg h2, if_neg h3, e1, e2, e3]
  simp only [cond_false]
  by_cases h4 : 4 ≤ kind ∧ kind ≤ 7
  · have w4 : IntKind.i64.wrap (2 + T + kind) = 2 + T + kind := by rw [IntKind.wrap_i64]; omega
    have w5 : IntKind.i64.wrap (2 + T + kind - 4) = 2 + T + kind - 4 := by rw [IntKind.wrap_i64]; omega
    rw [if_pos h4, w4, w5]
    rcases (by omega : kind = 4 ∨ kind = 5 ∨ kind = 6 ∨ kind = 7) with rfl | rfl | rfl | rfl <;> rfl
  · rw [if_neg h4]
    have e4 : (kind == 4) = false := by simp; omega
    have e5 : (kind == 5) = false := by simp; omega
    have e6 : (kind == 6) = false := by simp; omega
    have e7 : (kind == 7) = false := by simp; omega
    rw [e4, e5, e6, e7]
    simp only [cond_false]
    by_cases h8 : kind = 8
    · subst h8; rfl
    · have e8 : (kind == 8) = false := by simpa using h8
      rw [if_neg h8, e8]; rfl
/-- Where a spot stands, in any world; -1: nowhere. -/
def cellA (T S K G Q kind o : Int) : Int := bif right T S K G Q then cellOf T S K kind o else -1
theorem cell_ev (T S K G Q kind o : Int) : outV (ev sums7 60 66 [.agg #[.int .i64 T, .int .i64 S, .int .i64 K, .int .i64 G, .int .u64 Q], .agg #[.int .i64 kind, .int .i64 o]] ⟨.nil, 0⟩) =
    bif !right T S K G Q then some (.int .i64 (-1)) else bif bif false then true else (ofK T S K kind).1 == 0 && ((ofK T S K kind).2.1 == 0 && ((ofK T S K kind).2.2 == 0 && true)) then some (.int .i64 (-1)) else
    bif bif false then true else decide (o < 0) then some (.int .i64 (-1)) else bif bif false then true else decide (o ≥ (ofK T S K kind).2.1) then some (.int .i64 (-1)) else
    some (.int .i64 (IntKind.i64.wrap ((ofK T S K kind).1 + IntKind.i64.wrap (o * (ofK T S K kind).2.2)))) := by kernel_rfl
theorem cell_is (T S K G Q kind o : Int) : outV (ev sums7 60 66 [.agg #[.int .i64 T, .int .i64 S, .int .i64 K, .int .i64 G, .int .u64 Q], .agg #[.int .i64 kind, .int .i64 o]] ⟨.nil, 0⟩) = some (.int .i64 (cellA T S K G Q kind o)) := by
  rw [cell_ev]
  unfold cellA
  cases hR : right T S K G Q with
  | false => rfl
  | true =>
    obtain ⟨a1, a2, b1, b2, c1, c2, _⟩ := right_iff.1 hR
    rw [ofK_ofv hR, cell_ofv a1 b1 c1]
    obtain ⟨r1, r2, r3, r4, r5, r6⟩ := ofv_range (kind := kind) ⟨a1, a2⟩ ⟨b1, b2⟩ ⟨c1, c2⟩
    simp only [Bool.not_true, cond_false, cond_true]
    generalize ofv T S K kind = p at *
    obtain ⟨x, y, z⟩ := p
    simp only at *
    by_cases h1 : x = 0 ∧ y = 0 ∧ z = 0
    · rw [if_pos h1]
      have : (x == 0 && (y == 0 && (z == 0 && true))) = true := by simp [h1]
      rw [this]; rfl
    · rw [if_neg h1]
      have : (x == 0 && (y == 0 && (z == 0 && true))) = false := by
        rw [Bool.eq_false_iff]
        intro hx
        apply h1
        simpa using hx
      rw [this]
      simp only [cond_false]
      by_cases h2 : o < 0
      · rw [if_pos h2, decide_eq_true h2]; rfl
      · rw [if_neg h2, decide_eq_false h2]
        simp only [cond_false]
        by_cases h3 : o ≥ y
        · rw [if_pos h3, decide_eq_true h3]; rfl
        · rw [if_neg h3, decide_eq_false h3]
          simp only [cond_false]
          have hz : z = 0 ∨ z = 1 ∨ z = 2 ∨ z = 3 ∨ z = 4 := by omega
          have w1 : IntKind.i64.wrap (o * z) = o * z := by
            rw [IntKind.wrap_i64]
            rcases hz with rfl | rfl | rfl | rfl | rfl <;> omega
          have w2 : IntKind.i64.wrap (x + o * z) = x + o * z := by
            rw [IntKind.wrap_i64]
            rcases hz with rfl | rfl | rfl | rfl | rfl <;> omega
          rw [w1, w2]
theorem len_is (T S K G Q : Int) : outV (ev sums7 60 31 [.agg #[.int .i64 T, .int .i64 S, .int .i64 K, .int .i64 G, .int .u64 Q]] ⟨.nil, 0⟩) = some (.int .i64 (lenA T S K G Q)) := by
  have e : outV (ev sums7 60 31 [.agg #[.int .i64 T, .int .i64 S, .int .i64 K, .int .i64 G, .int .u64 Q]] ⟨.nil, 0⟩) = bif !right T S K G Q then some (.int .i64 0) else some (.int .i64 (IntKind.i64.wrap ((ofK T S K 8).1 + (ofK T S K 8).2.1))) := by kernel_rfl
  rw [e]
  unfold lenA
  cases hR : right T S K G Q with
  | false => rfl
  | true =>
    obtain ⟨a1, a2, b1, b2, c1, c2, _⟩ := right_iff.1 hR
    rw [ofK_ofv hR]
    have : ofv T S K 8 = (2 + T + 4 * S, K, 1) := rfl
    rw [this]
    have w : IntKind.i64.wrap (2 + T + 4 * S + K) = 2 + T + 4 * S + K := by rw [IntKind.wrap_i64]; omega
    simp only [Bool.not_true, cond_false, cond_true, lenOf, w]
def onSpot (l : List Value) : Option Value := match spot3 l with
  | some (T, S, K, G, Q, kind, o) => some (.int .i64 (cellA T S K G Q kind o))
  | none => none
noncomputable def sums8 : Sums := withPure (withPure sums7 66 onSpot) 31 (onCfg fun T S K G Q => .int .i64 (lenA T S K G Q))
theorem sums8_ok : SumsOk sums8 := by
  refine withPure_ok (withPure_ok sums7_ok sums7_ok 60 (by kernel_rfl) fun al v h => ?_) sums7_ok 60 (by kernel_rfl) fun al v h => ?_
  · unfold onSpot at h
    cases hc : spot3 al with
    | none => rw [hc] at h; cases h
    | some p =>
      obtain ⟨T, S, K, G, Q, kind, o⟩ := p
      rw [hc] at h
      cases h
      unfold spot3 at hc
      split at hc
      · cases hc; exact ⟨rfl, rfl, cell_is _ _ _ _ _ _ _⟩
      · cases hc
  · obtain ⟨T, S, K, G, Q, rfl, rfl⟩ := onCfg_eq h
    exact ⟨rfl, rfl, len_is T S K G Q⟩
end Go.Proofs.YtifojacfedjedaaGreat.Bound
end

section
namespace Go.Proofs.YtifojacfedjedaaGreat.Bound
open Go.Proofs.YtifojacfedjedaaGreat.Ev Go.RowKit
set_option linter.unusedVariables false
set_option linter.unusedSimpArgs false
/-- Some bits of a word, as the program reads them. -/
def partP (w : Int) (fr many : Nat) : Int := IntKind.i64.wrap (IntKind.u64.wrap ↑(BitVec.ofInt IntKind.u64.bits (w.fdiv (2 ^ fr)) &&& BitVec.ofInt IntKind.u64.bits (2 ^ many - 1)).toNat)
def statusP (w : Int) : Value := .agg #[.int .i64 (partP w 30 32), .int .i64 (partP w 27 3), .bool (partP w 26 1 == 1), .bool (partP w 25 1 == 1), .bool (partP w 24 1 == 1), .int .i64 (partP w 12 12), .int .i64 (partP w 0 12)]
/-- As the document reads them. -/
def partR (w : Int) (fr many : Nat) : Int := IntKind.i64.wrap ((IntKind.u64.wrap (w.tdiv (2 ^ fr))).tmod (2 ^ many))
theorem unpack_ev (w : Int) : outV (ev noSums 60 134 [.int .u64 w] ⟨.nil, 0⟩) = some (statusP w) := by kernel_rfl
theorem state_ev (w : Int) : outV (ev noSums 60 25 [.int .u64 w] ⟨.nil, 0⟩) = some (.int .i64 (partR w 27 3)) := by kernel_rfl
def onWord (f : Int → Value) : List Value → Option Value
  | [.int .u64 w] => some (f w)
  | _ => none
theorem onWord_eq {f : Int → Value} {l : List Value} {v : Value} (h : onWord f l = some v) : ∃ w, l = [.int .u64 w] ∧ v = f w := by
  unfold onWord at h
  split at h
  · cases h; exact ⟨_, rfl, rfl⟩
  · cases h
noncomputable def sums9 : Sums := withPure (withPure sums8 134 (onWord statusP)) 25 (onWord fun w => .int .i64 (partR w 27 3))
theorem sums9_ok : SumsOk sums9 := by
  refine withPure_ok (withPure_ok sums8_ok noSums_ok 60 (by kernel_rfl) fun al v h => ?_) noSums_ok 60 (by kernel_rfl) fun al v h => ?_
  · obtain ⟨w, rfl, rfl⟩ := onWord_eq h
    exact ⟨rfl, rfl, unpack_ev w⟩
  · obtain ⟨w, rfl, rfl⟩ := onWord_eq h
    exact ⟨rfl, rfl, state_ev w⟩
/-- They read the same. -/
theorem partP_is {w : Int} {fr many : Nat} (h0 : 0 ≤ w) (h1 : w < 18446744073709551616) (hm : many < 63) : partP w fr many = w / 2 ^ fr % 2 ^ many := by
  have p : (1 : Int) ≤ 2 ^ many := by exact_mod_cast Nat.one_le_two_pow
  have p2 : (2 : Int) ^ many ≤ 2 ^ 62 := by exact_mod_cast Nat.pow_le_pow_right (by decide) (by omega)
  have q : (0 : Int) < 2 ^ fr := by exact_mod_cast Nat.two_pow_pos fr
  have q0 : 0 ≤ w / 2 ^ fr := Int.ediv_nonneg h0 (by omega)
  have q1 : w / 2 ^ fr ≤ w := Int.ediv_le_self _ h0
  have wr : ∀ n : Int, 0 ≤ n → n < 2 ^ 64 → IntKind.u64.wrap n = n := fun n a b => by
    have : IntKind.u64.wrap n = n % 18446744073709551616 := by simp [IntKind.wrap, IntKind.bits, IntKind.signed]
    rw [this]; omega
  have := bits_mask .u64 64 (by decide) wr many (by omega) (w / 2 ^ fr) q0 (by omega)
  unfold partP
  rw [Int.fdiv_eq_ediv_of_nonneg _ (by omega)]
  have e : IntKind.u64.wrap ↑(BitVec.ofInt IntKind.u64.bits (w / 2 ^ fr) &&& BitVec.ofInt IntKind.u64.bits (2 ^ many - 1)).toNat = w / 2 ^ fr % 2 ^ many := this
  rw [e]
  have r0 := Int.emod_nonneg (w / 2 ^ fr) (show (2 : Int) ^ many ≠ 0 by omega)
  have r1 := Int.emod_lt_of_pos (w / 2 ^ fr) (show (0 : Int) < 2 ^ many by omega)
  rw [IntKind.wrap_i64]
  omega
theorem partR_is {w : Int} {fr many : Nat} (h0 : 0 ≤ w) (h1 : w < 18446744073709551616) (hm : many < 63) : partR w fr many = w / 2 ^ fr % 2 ^ many := by
  have p : (1 : Int) ≤ 2 ^ many := by exact_mod_cast Nat.one_le_two_pow
  have p2 : (2 : Int) ^ many ≤ 2 ^ 62 := by exact_mod_cast Nat.pow_le_pow_right (by decide) (by omega)
  have q : (0 : Int) < 2 ^ fr := by exact_mod_cast Nat.two_pow_pos fr
  have q0 : 0 ≤ w / 2 ^ fr := Int.ediv_nonneg h0 (by omega)
  have q1 : w / 2 ^ fr ≤ w := Int.ediv_le_self _ h0
  unfold partR
  rw [Int.tdiv_eq_ediv_of_nonneg h0]
  have e : IntKind.u64.wrap (w / 2 ^ fr) = w / 2 ^ fr := by
    have : IntKind.u64.wrap (w / 2 ^ fr) = (w / 2 ^ fr) % 18446744073709551616 := by simp [IntKind.wrap, IntKind.bits, IntKind.signed]
    rw [this]; omega
  rw [e, Int.tmod_eq_emod_of_nonneg q0]
  have r0 := Int.emod_nonneg (w / 2 ^ fr) (show (2 : Int) ^ many ≠ 0 by omega)
  have r1 := Int.emod_lt_of_pos (w / 2 ^ fr) (show (0 : Int) < 2 ^ many by omega)
  rw [IntKind.wrap_i64]
  omega
theorem part_same {w : Int} {fr many : Nat} (h0 : 0 ≤ w) (h1 : w < 18446744073709551616) (hm : many < 63) : partR w fr many = partP w fr many := by rw [partP_is h0 h1 hm, partR_is h0 h1 hm]
end Go.Proofs.YtifojacfedjedaaGreat.Bound
end
