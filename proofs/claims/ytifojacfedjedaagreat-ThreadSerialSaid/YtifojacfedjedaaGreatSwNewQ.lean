/- A new world's words, as a sum. No condition. -/
import Derived.Test.YtifojacfedjedaaGreatLatQ
namespace Go.Proofs.YtifojacfedjedaaGreat.Bound
open Go.Proofs.YtifojacfedjedaaGreat.Ev Go.Proofs.YtifojacfedjedaaGreat.ChartMath
set_option linter.unusedVariables false
set_option linter.unusedSimpArgs false
def NewF : FForm := ⟨[.agg [i6, i6, i6, i6, u6]], [], [⟨[(0, .tuple [.ptr 0 0 none, i6])], 1, [(0, 126, memK 1), (1, 22, .ints .u64)], 2, []⟩, ⟨[(0, .tuple [.nilPtr, i6])], 1, [], 0, []⟩]⟩
def pt_new (T S K G Q L : Int) : PT (Nat × List Atom) := .b (decide (0 ≤ L ∧ L ≤ L ∧ ((8 : Nat) : Int) * L ≤ 2 ^ 48 ∧ L < 2 ^ 62)) (.b (L == 0) (.cs 5 (.leaf (1, [.i 1]))) (.cs 3 (.b ((L.toNat : Int) != L) .bad (.b (decide (0 ≤ (L.toNat : Int) ∧ (L.toNat : Int) ≤ (L.toNat : Int) ∧ ((8 : Nat) : Int) * (L.toNat : Int) ≤ 2 ^ 48 ∧ (L.toNat : Int) < 2 ^ 62)) (.b (decide (0 + L.toNat.min (L.toNat : Int).toNat * 1 ≤ (List.replicate L.toNat (0 : Int)).length)) (.b (decide (0 + (List.take (L.toNat.min (L.toNat : Int).toNat * 1) (List.drop 0 (List.replicate L.toNat (0 : Int)))).length ≤ (List.replicate (L.toNat : Int).toNat (0 : Int)).length))
  (.leaf (0, [.i 0, .i T, .i S, .i K, .i G, .i Q, .n (L.toNat : Int).toNat, .n (L.toNat : Int).toNat, .i 0, .i 0, .i 0, .i 0, .i 0, .b false, .i 0, .ws (List.take 0 (List.replicate (L.toNat : Int).toNat (0 : Int)) ++ List.take (L.toNat.min (L.toNat : Int).toNat * 1) (List.drop 0 (List.replicate L.toNat (0 : Int))) ++ List.drop (0 + (List.take (L.toNat.min (L.toNat : Int).toNat * 1) (List.drop 0 (List.replicate L.toNat (0 : Int)))).length) (List.replicate (L.toNat : Int).toNat (0 : Int)))])) .bad) .bad) .bad)))) .bad
theorem ct_new (T S K G Q : Int) : cutP (pt_new T S K G Q (lenA T S K G Q)) (endF (ev sumsF3 60 9) NewF [.i T, .i S, .i K, .i G, .i Q]) = den (pt_new T S K G Q (lenA T S K G Q)) := by kernel_rfl
def new_o : List Atom → Tree (Nat × List Atom)
  | [.i T, .i S, .i K, .i G, .i Q] => .br (right T S K G Q) (.leaf (0, [.i 0, .i T, .i S, .i K, .i G, .i Q, .n (lenOf T S K).toNat, .n (lenOf T S K).toNat, .i 0, .i 0, .i 0, .i 0, .i 0, .b false, .i 0, .ws (List.replicate (lenOf T S K).toNat 0)])) (.leaf (1, [.i 1]))
  | _ => .bad
theorem new_st (x : List Atom) (r : Nat × List Atom) (h : (new_o x).get = some r) : (endF (ev sumsF3 60 9) NewF x).get = some r := by
  unfold new_o at h
  split at h
  · rename_i T S K G Q
    refine cut_get (ct_new T S K G Q) ?_
    rw [← h, Tree.get_br]
    cases hR : right T S K G Q with
    | false =>
      have hL : lenA T S K G Q = 0 := by simp [lenA, hR]
      rw [hL]
      rfl
    | true =>
      have hL : lenA T S K G Q = lenOf T S K := by simp [lenA, hR]
      rw [hL]
      simp only [right, decide_eq_true_eq] at hR
      have hr : 8 ≤ lenOf T S K ∧ lenOf T S K ≤ 66 := by unfold lenOf; omega
      generalize lenOf T S K = L at hr ⊢
      have e0 : (L.toNat : Int) = L := by omega
      have e1 : Nat.min L.toNat L.toNat = L.toNat := Nat.min_self _
      unfold pt_new
      simp only [e0, e1, den, Tree.get_br, Tree.get_leaf, List.drop_zero, List.take_zero, List.nil_append, List.length_take, List.length_replicate, Nat.zero_add, Nat.mul_one, Nat.sub_zero, Nat.zero_min, Nat.min_self, List.take_replicate, List.drop_replicate, Nat.sub_self, List.replicate_zero, List.append_nil, bne_self_eq_false]
      refine (if_pos (decide_eq_true ?_)).trans ?_
      · exact ⟨by omega, Int.le_refl _, by omega, by omega⟩
      rw [if_neg (by simp; omega), if_neg (by simp)]
      refine (if_pos (decide_eq_true ?_)).trans ?_
      · exact ⟨by omega, Int.le_refl _, by omega, by omega⟩
      refine (if_pos (decide_eq_true ?_)).trans ?_
      · exact Nat.le_refl _
      refine (if_pos (decide_eq_true (Nat.le_refl _))).trans ?_
      rfl
  · cases h
noncomputable def withNew (sums : Sums) : Sums := withT sums 9 [(NewF, new_o)]
theorem withNew_ok {sums : Sums} (h : SumsOk sums) : SumsOk (withNew sums) := withT_ok h sumsF3_ok 60 (by kernel_rfl) fun a ha x r h => by
  simp only [List.mem_cons, List.not_mem_nil, or_false] at ha
  subst ha
  exact new_st x r h
end Go.Proofs.YtifojacfedjedaaGreat.Bound
