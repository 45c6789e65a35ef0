/- The document's list of spots. No condition. -/
import Derived.Test.YtfccbghmagohaaaGreatBCfgQ
namespace Go.Proofs.YtfccbghmagohaaaGreat.Bound
open Go.Proofs.YtfccbghmagohaaaGreat.Ev
set_option linter.unusedVariables false
def cfgP : CPat := .vals [.int .i64, .int .i64, .int .i64, .int .i64, .int .u64]
def cfgB : Nat × TypeId × CPat := (0, 24, cfgP)
def spB : Nat × TypeId × CPat := (1, 50, .recs [.int .i64, .int .i64])
def slC : Nat × Pat := (1, .ptr 0 0 none)
def slO : Nat × Pat := (3, .slice 1 0 (some 8192))
def FL (i e : Nat) : LForm := ⟨[1, 3, i], ⟨[slC, slO, (i, .int .i64)], 53, [cfgB, spB], 2, []⟩, [1, 3], [(e, ⟨[slC, slO], 53, [cfgB, spB], 2, []⟩)], []⟩
def rowsOf (g : Int → List (List Int)) : Nat → Int → List (List Int)
  | 0, _ => []
  | n + 1, t => g t ++ rowsOf g n (t + 1)
theorem rowsOf_length {g : Int → List (List Int)} {d : Nat} (h : ∀ t, (g t).length = d) : ∀ (n : Nat) (t : Int), (rowsOf g n t).length = d * n
  | 0, t => by simp [rowsOf]
  | n + 1, t => by simp [rowsOf, h, rowsOf_length h n (t + 1), Nat.mul_add]; omega
theorem body_is : bodyOf 85 = some ((bodyOf 85).getD .skip) := by kernel_rfl

theorem l1_more (l : Nat) (t T S K G Q : Int) (rs : List (List Int)) : walk (round sums1 60 85 5 0 (FL 4 0) [.n l, .n l, .i t, .i T, .i S, .i K, .i G, .i Q, .rs rs]) [true, false, true, true] =
    some ([decide (t < T), false, true, decide (l = l ∧ rs.length * 2 = l * 2 ∧ (l + 1) * 16 ≤ 140737488355328 ∧ l + 1 ≤ 4611686018427387904)], (.normal, [.n (l + 1), .n (l + 1), .i (IntKind.i64.wrap (t + 1)), .i T, .i S, .i K, .i G, .i Q, .rs (rs ++ [[3, t]])])) := by kernel_rfl
theorem l1_end (l : Nat) (t T S K G Q : Int) (rs : List (List Int)) : walk (round sums1 60 85 5 0 (FL 4 0) [.n l, .n l, .i t, .i T, .i S, .i K, .i G, .i Q, .rs rs]) [false] =
    some ([decide (t < T)], (.exit 0, [.n l, .n l, .i T, .i S, .i K, .i G, .i Q, .rs rs])) := by kernel_rfl
def l1_I : List Atom → Prop
  | [.n l, .n c, .i t, .i T, .i S, .i K, .i G, .i Q, .rs rs] => c = l ∧ rs.length = l ∧ 0 ≤ t ∧ T ≤ 12 ∧ l + 1 * (T - t).toNat ≤ 100000
  | _ => False
def l1_out : List Atom → Tree (Ex × List Atom)
  | [.n l, .n c, .i t, .i T, .i S, .i K, .i G, .i Q, .rs rs] => .leaf (.exit 0, [.n (l + 1 * (T - t).toNat), .n (l + 1 * (T - t).toNat), .i T, .i S, .i K, .i G, .i Q, .rs (rs ++ rowsOf (fun t => [[3, t]]) (T - t).toNat t)])
  | _ => .bad
def l1_m : List Atom → Nat
  | [.n l, .n c, .i t, .i T, .i S, .i K, .i G, .i Q, .rs rs] => (T - t).toNat
  | _ => 0
theorem l1_step (x : List Atom) (hI : l1_I x) : ∃ e y, (round sums1 60 85 5 0 (FL 4 0) x).get = some (e, y) ∧ (e = .normal → l1_I y ∧ l1_m y < l1_m x ∧ (l1_out y).get = (l1_out x).get) ∧ (e ≠ .normal → (l1_out x).get = some (e, y)) := by
  unfold l1_I at hI
  split at hI
  · rename_i l c t T S K G Q rs
    obtain ⟨rfl, hl, h0, hX, hb⟩ := hI
    by_cases ht : t < T
    · have hk : (T - t).toNat = (T - (t + 1)).toNat + 1 := by omega
      have hw : IntKind.i64.wrap (t + 1) = t + 1 := by rw [IntKind.wrap_i64]; omega
      refine ⟨_, _, get_walk (l1_more c t T S K G Q rs) ?_, fun _ => ⟨?_, ?_, ?_⟩, fun h => absurd rfl h⟩
      · have hc : c = c ∧ rs.length * 2 = c * 2 ∧ (c + 1) * 16 ≤ 140737488355328 ∧ c + 1 ≤ 4611686018427387904 := ⟨rfl, by omega, by omega, by omega⟩
        rw [decide_eq_true ht, decide_eq_true hc]
      · rw [hw]
        exact ⟨rfl, by simp [hl], by omega, hX, by omega⟩
      · rw [hw]
        show (T - (t + 1)).toNat < (T - t).toNat
        omega
      · rw [hw]
        simp only [l1_out, Tree.get_leaf, hk, rowsOf, List.append_assoc]
        rw [show c + 1 + 1 * (T - (t + 1)).toNat = c + 1 * ((T - (t + 1)).toNat + 1) by omega]
    · refine ⟨_, _, get_walk (l1_end c t T S K G Q rs) ?_, fun h => (by cases h), fun _ => ?_⟩
      · rw [decide_eq_false ht]
      · have hk : (T - t).toNat = 0 := by omega
        simp only [l1_out, Tree.get_leaf, hk, rowsOf, List.append_nil, Nat.mul_zero, Nat.add_zero]
  · exact hI.elim
noncomputable def sp1 : Sums := withLoop sums1 85 5 (lsum 0 (FL 4 0) l1_I l1_out)
theorem sp1_ok : SumsOk sp1 := loop_sum sums1_ok l1_m body_is (by kernel_rfl) (by decide) l1_step

theorem l2_more (l : Nat) (t T S K G Q : Int) (rs : List (List Int)) : walk (round sp1 60 85 9 0 (FL 5 2) [.n l, .n l, .i t, .i T, .i S, .i K, .i G, .i Q, .rs rs]) [true, false, true, true] =
    some ([decide (t < S), false, true, decide (l = l ∧ rs.length * 2 = l * 2 ∧ (l + 4) * 16 ≤ 140737488355328 ∧ l + 4 ≤ 4611686018427387904)], (.normal, [.n (l + 4), .n (l + 4), .i (IntKind.i64.wrap (t + 1)), .i T, .i S, .i K, .i G, .i Q, .rs (rs ++ [[4, t], [5, t], [6, t], [7, t]])])) := by kernel_rfl
theorem l2_end (l : Nat) (t T S K G Q : Int) (rs : List (List Int)) : walk (round sp1 60 85 9 0 (FL 5 2) [.n l, .n l, .i t, .i T, .i S, .i K, .i G, .i Q, .rs rs]) [false] =
    some ([decide (t < S)], (.exit 2, [.n l, .n l, .i T, .i S, .i K, .i G, .i Q, .rs rs])) := by kernel_rfl
def l2_I : List Atom → Prop
  | [.n l, .n c, .i t, .i T, .i S, .i K, .i G, .i Q, .rs rs] => c = l ∧ rs.length = l ∧ 0 ≤ t ∧ S ≤ 12 ∧ l + 4 * (S - t).toNat ≤ 100000
  | _ => False
def l2_out : List Atom → Tree (Ex × List Atom)
  | [.n l, .n c, .i t, .i T, .i S, .i K, .i G, .i Q, .rs rs] => .leaf (.exit 2, [.n (l + 4 * (S - t).toNat), .n (l + 4 * (S - t).toNat), .i T, .i S, .i K, .i G, .i Q, .rs (rs ++ rowsOf (fun t => [[4, t], [5, t], [6, t], [7, t]]) (S - t).toNat t)])
  | _ => .bad
def l2_m : List Atom → Nat
  | [.n l, .n c, .i t, .i T, .i S, .i K, .i G, .i Q, .rs rs] => (S - t).toNat
  | _ => 0
theorem l2_step (x : List Atom) (hI : l2_I x) : ∃ e y, (round sp1 60 85 9 0 (FL 5 2) x).get = some (e, y) ∧ (e = .normal → l2_I y ∧ l2_m y < l2_m x ∧ (l2_out y).get = (l2_out x).get) ∧ (e ≠ .normal → (l2_out x).get = some (e, y)) := by
  unfold l2_I at hI
  split at hI
  · rename_i l c t T S K G Q rs
    obtain ⟨rfl, hl, h0, hX, hb⟩ := hI
    by_cases ht : t < S
    · have hk : (S - t).toNat = (S - (t + 1)).toNat + 1 := by omega
      have hw : IntKind.i64.wrap (t + 1) = t + 1 := by rw [IntKind.wrap_i64]; omega
      refine ⟨_, _, get_walk (l2_more c t T S K G Q rs) ?_, fun _ => ⟨?_, ?_, ?_⟩, fun h => absurd rfl h⟩
      · have hc : c = c ∧ rs.length * 2 = c * 2 ∧ (c + 4) * 16 ≤ 140737488355328 ∧ c + 4 ≤ 4611686018427387904 := ⟨rfl, by omega, by omega, by omega⟩
        rw [decide_eq_true ht, decide_eq_true hc]
      · rw [hw]
        exact ⟨rfl, by simp [hl], by omega, hX, by omega⟩
      · rw [hw]
        show (S - (t + 1)).toNat < (S - t).toNat
        omega
      · rw [hw]
        simp only [l2_out, Tree.get_leaf, hk, rowsOf, List.append_assoc]
        rw [show c + 4 + 4 * (S - (t + 1)).toNat = c + 4 * ((S - (t + 1)).toNat + 1) by omega]
    · refine ⟨_, _, get_walk (l2_end c t T S K G Q rs) ?_, fun h => (by cases h), fun _ => ?_⟩
      · rw [decide_eq_false ht]
      · have hk : (S - t).toNat = 0 := by omega
        simp only [l2_out, Tree.get_leaf, hk, rowsOf, List.append_nil, Nat.mul_zero, Nat.add_zero]
  · exact hI.elim
noncomputable def sp2 : Sums := withLoop sp1 85 9 (lsum 0 (FL 5 2) l2_I l2_out)
theorem sp2_ok : SumsOk sp2 := loop_sum sp1_ok l2_m body_is (by kernel_rfl) (by decide) l2_step

theorem l3_more (l : Nat) (t T S K G Q : Int) (rs : List (List Int)) : walk (round sp2 60 85 13 0 (FL 6 4) [.n l, .n l, .i t, .i T, .i S, .i K, .i G, .i Q, .rs rs]) [true, false, true, true] =
    some ([decide (t < K), false, true, decide (l = l ∧ rs.length * 2 = l * 2 ∧ (l + 1) * 16 ≤ 140737488355328 ∧ l + 1 ≤ 4611686018427387904)], (.normal, [.n (l + 1), .n (l + 1), .i (IntKind.i64.wrap (t + 1)), .i T, .i S, .i K, .i G, .i Q, .rs (rs ++ [[8, t]])])) := by kernel_rfl
theorem l3_end (l : Nat) (t T S K G Q : Int) (rs : List (List Int)) : walk (round sp2 60 85 13 0 (FL 6 4) [.n l, .n l, .i t, .i T, .i S, .i K, .i G, .i Q, .rs rs]) [false] =
    some ([decide (t < K)], (.exit 4, [.n l, .n l, .i T, .i S, .i K, .i G, .i Q, .rs rs])) := by kernel_rfl
def l3_I : List Atom → Prop
  | [.n l, .n c, .i t, .i T, .i S, .i K, .i G, .i Q, .rs rs] => c = l ∧ rs.length = l ∧ 0 ≤ t ∧ K ≤ 12 ∧ l + 1 * (K - t).toNat ≤ 100000
  | _ => False
def l3_out : List Atom → Tree (Ex × List Atom)
  | [.n l, .n c, .i t, .i T, .i S, .i K, .i G, .i Q, .rs rs] => .leaf (.exit 4, [.n (l + 1 * (K - t).toNat), .n (l + 1 * (K - t).toNat), .i T, .i S, .i K, .i G, .i Q, .rs (rs ++ rowsOf (fun t => [[8, t]]) (K - t).toNat t)])
  | _ => .bad
def l3_m : List Atom → Nat
  | [.n l, .n c, .i t, .i T, .i S, .i K, .i G, .i Q, .rs rs] => (K - t).toNat
  | _ => 0
theorem l3_step (x : List Atom) (hI : l3_I x) : ∃ e y, (round sp2 60 85 13 0 (FL 6 4) x).get = some (e, y) ∧ (e = .normal → l3_I y ∧ l3_m y < l3_m x ∧ (l3_out y).get = (l3_out x).get) ∧ (e ≠ .normal → (l3_out x).get = some (e, y)) := by
  unfold l3_I at hI
  split at hI
  · rename_i l c t T S K G Q rs
    obtain ⟨rfl, hl, h0, hX, hb⟩ := hI
    by_cases ht : t < K
    · have hk : (K - t).toNat = (K - (t + 1)).toNat + 1 := by omega
      have hw : IntKind.i64.wrap (t + 1) = t + 1 := by rw [IntKind.wrap_i64]; omega
      refine ⟨_, _, get_walk (l3_more c t T S K G Q rs) ?_, fun _ => ⟨?_, ?_, ?_⟩, fun h => absurd rfl h⟩
      · have hc : c = c ∧ rs.length * 2 = c * 2 ∧ (c + 1) * 16 ≤ 140737488355328 ∧ c + 1 ≤ 4611686018427387904 := ⟨rfl, by omega, by omega, by omega⟩
        rw [decide_eq_true ht, decide_eq_true hc]
      · rw [hw]
        exact ⟨rfl, by simp [hl], by omega, hX, by omega⟩
      · rw [hw]
        show (K - (t + 1)).toNat < (K - t).toNat
        omega
      · rw [hw]
        simp only [l3_out, Tree.get_leaf, hk, rowsOf, List.append_assoc]
        rw [show c + 1 + 1 * (K - (t + 1)).toNat = c + 1 * ((K - (t + 1)).toNat + 1) by omega]
    · refine ⟨_, _, get_walk (l3_end c t T S K G Q rs) ?_, fun h => (by cases h), fun _ => ?_⟩
      · rw [decide_eq_false ht]
      · have hk : (K - t).toNat = 0 := by omega
        simp only [l3_out, Tree.get_leaf, hk, rowsOf, List.append_nil, Nat.mul_zero, Nat.add_zero]
  · exact hI.elim
noncomputable def sp_sums : Sums := withLoop sp2 85 13 (lsum 0 (FL 6 4) l3_I l3_out)
theorem sp_ok : SumsOk sp_sums := loop_sum sp2_ok l3_m body_is (by kernel_rfl) (by decide) l3_step
end Go.Proofs.YtfccbghmagohaaaGreat.Bound
