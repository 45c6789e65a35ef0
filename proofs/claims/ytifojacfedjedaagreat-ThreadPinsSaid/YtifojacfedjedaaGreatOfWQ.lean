/- The words of a world, laid out of a row: the program's and the document's, by form. No condition. -/
import Derived.Test.YtifojacfedjedaaGreatAlikeWQ
namespace Go.Proofs.YtifojacfedjedaaGreat.Bound
open Go.Proofs.YtifojacfedjedaaGreat.Ev Go.Proofs.YtifojacfedjedaaGreat.ChartMath
set_option linter.unusedVariables false
set_option linter.unusedSimpArgs false
def rmem3 : Pat := .agg [.int .i64, .int .i64, .int .i64, .int .i64, .int .u64, .slice 3 0 none, .int .i64, .int .i64, .int .i64, .int .i64, .int .u64, .int .u64, .bool]
def rmemN : Pat := .agg [.int .i64, .int .i64, .int .i64, .int .i64, .int .u64, .nilSlice, .int .i64, .int .i64, .int .i64, .int .i64, .int .u64, .int .u64, .bool]
def memC2 : CPat := .vals [.int .i64, .int .i64, .int .i64, .int .i64, .int .u64, .slice 2 0 none, .int .i64, .int .i64, .int .i64, .int .u64, .int .u64, .bool, .int .i64]
def OfF : FForm := ⟨[.agg [.int .i64, .int .i64, .int .i64, .int .i64, .int .u64], .slice 0 0 none], [(0, winT, .ints .u64)], [⟨[(0, .tuple [.ptr 1 0 none, rmem3, .bool])], 1, [(0, winT, .ints .u64), (1, 126, memC2), (2, 22, .ints .u64), (3, 22, .ints .u64)], 4, []⟩, ⟨[(0, .tuple [.nilPtr, rmemN, .bool])], 1, [(0, winT, .ints .u64)], 1, []⟩]⟩
theorem of_way_1 (T S K G Q : Int) (l c : Nat) (ws : List Int) : walk (endF (ev sumsL 60 22) OfF [.i T, .i S, .i K, .i G, .i Q, .n l, .n c, .ws ws]) [true, true, true, true, true, true, true] =
    some ([!right T S K G Q, true, true, true, true, true, true], (1, [.i (0), .i (0), .i (0), .i (0), .i (0), .i (0), .i (0), .i (0), .i (0), .i (0), .i (0), .b false, .b false, .ws (ws)])) := by kernel_rfl
theorem of_way_2 (T S K G Q : Int) (l c : Nat) (ws : List Int) : walk (endF (ev sumsL 60 22) OfF [.i T, .i S, .i K, .i G, .i Q, .n l, .n c, .ws ws]) [false, false, false, false, false, true] =
    some ([!right T S K G Q, false, false, false, false, bif false then true else (l : Int) != lenA T S K G Q], (1, [.i (0), .i (0), .i (0), .i (0), .i (0), .i (0), .i (0), .i (0), .i (0), .i (0), .i (0), .b false, .b false, .ws (ws)])) := by kernel_rfl
theorem of_way_4 (T S K G Q : Int) (l c : Nat) (ws : List Int) : walk (endF (ev sumsL 60 22) OfF [.i T, .i S, .i K, .i G, .i Q, .n l, .n c, .ws ws]) [false, false, false, false, false, false, false, false, false, false, false, true, true, true, false, true, true, true, true] =
    some ([!right T S K G Q, false, false, false, false, bif false then true else (l : Int) != lenA T S K G Q, lenA T S K G Q == 0, false, false, false, bif false then true else (l : Int) != lenA T S K G Q, decide (0 ≤ (l : Int) ∧ (l : Int) ≤ (l : Int) ∧ ((8 : Nat) : Int) * (l : Int) ≤ 2 ^ 48 ∧ (l : Int) < 2 ^ 62), decide (cellOff 0 none + l.min (l : Int).toNat * 1 ≤ ws.length), decide (cellOff 0 (spotOf (Cells.ints IntKind.u64 (List.replicate (l : Int).toNat (0 : Int)))) + (List.take (l.min (l : Int).toNat * 1) (List.drop (cellOff 0 none) ws)).length ≤ (List.replicate (l : Int).toNat (0 : Int)).length), decide (l = 0), decide (cellOff 0 none + l * 1 ≤ ws.length), decide (0 = 0 ∧ 0 = 0 * 1 ∧ (0 + l) * 8 ≤ 140737488355328 ∧ 0 + l ≤ 4611686018427387904), true, true], (0, [.i (T), .i (S), .i (K), .i (G), .i (Q), .n (0 + l), .n (0 + l), .i (0), .i (0), .i (0), .i (0), .i (0), .i (0), .b false, .b true, .ws (ws), .i (T), .i (S), .i (K), .i (G), .i (Q), .n ((l : Int).toNat), .n ((l : Int).toNat), .i (0), .i (0), .i (0), .i (0), .i (0), .b false, .i (0), .ws (List.take (cellOff 0 (spotOf (Cells.ints IntKind.u64 (List.replicate (l : Int).toNat (0 : Int))))) (List.replicate (l : Int).toNat (0 : Int)) ++ List.take (l.min (l : Int).toNat * 1) (List.drop (cellOff 0 none) ws) ++ List.drop (cellOff 0 (spotOf (Cells.ints IntKind.u64 (List.replicate (l : Int).toNat (0 : Int)))) + (List.take (l.min (l : Int).toNat * 1) (List.drop (cellOff 0 none) ws)).length) (List.replicate (l : Int).toNat (0 : Int))), .ws ([] ++ List.take (l * 1) (List.drop (cellOff 0 none) ws))])) := by kernel_rfl

def isRow (T S K G Q : Int) (l : Nat) : Bool := right T S K G Q && decide ((l : Int) = lenOf T S K)
def of_I : List Atom → Prop
  | [.i T, .i S, .i K, .i G, .i Q, .n l, .n c, .ws ws] => ws.length = l
  | _ => False
def of_out : List Atom → Tree (Nat × List Atom)
  | [.i T, .i S, .i K, .i G, .i Q, .n l, .n c, .ws ws] => .br (isRow T S K G Q l)
    (.leaf (0, [.i T, .i S, .i K, .i G, .i Q, .n l, .n l, .i 0, .i 0, .i 0, .i 0, .i 0, .i 0, .b false, .b true, .ws ws, .i T, .i S, .i K, .i G, .i Q, .n l, .n l, .i 0, .i 0, .i 0, .i 0, .i 0, .b false, .i 0, .ws ws, .ws ws]))
    (.leaf (1, [.i 0, .i 0, .i 0, .i 0, .i 0, .i 0, .i 0, .i 0, .i 0, .i 0, .i 0, .b false, .b false, .ws ws]))
  | _ => .bad
theorem of_step (x : List Atom) (h : of_I x) : ∃ r, (endF (ev sumsL 60 22) OfF x).get = some r ∧ (of_out x).get = some r := by
  unfold of_I at h
  split at h
  · rename_i T S K G Q l c ws
    cases hR : right T S K G Q with
    | false =>
      refine ⟨_, get_walk (of_way_1 T S K G Q l c ws) (by rw [hR]; rfl), ?_⟩
      simp only [of_out, isRow, hR, Bool.false_and, Tree.get_br, Bool.false_eq_true, if_false, Tree.get_leaf]
    | true =>
      have hA : lenA T S K G Q = lenOf T S K := by simp [lenA, hR]
      obtain ⟨t1, t2, s1, s2, k1, k2, _⟩ := right_iff.1 hR
      have hlo : lenOf T S K = 2 + T + 4 * S + K := rfl
      by_cases hl : (l : Int) = lenOf T S K
      · have e0 : ((l : Int)).toNat = l := by omega
        have e1 : l.min l * 1 = l := by rw [Nat.mul_one]; exact Nat.min_self l
        have e2 : List.take l (List.drop (cellOff 0 none) ws) = ws := by show List.take l ws = ws; exact List.take_of_length_le (by omega)
        have e3 : cellOff 0 (spotOf (Cells.ints IntKind.u64 (List.replicate l 0))) = 0 := rfl
        have g1 : 0 ≤ (l : Int) ∧ (l : Int) ≤ (l : Int) ∧ ((8 : Nat) : Int) * (l : Int) ≤ 2 ^ 48 ∧ (l : Int) < 2 ^ 62 := by omega
        have g2 : cellOff 0 none + l ≤ ws.length := by show 0 + l ≤ _; omega
        have g3 : 0 + ws.length ≤ (List.replicate l (0 : Int)).length := by simp; omega
        have g4 : ¬ l = 0 := by omega
        have g5 : (0 : Nat) = 0 ∧ 0 = 0 * 1 ∧ (0 + l) * 8 ≤ 140737488355328 ∧ 0 + l ≤ 4611686018427387904 := by omega
        have g6 : (lenA T S K G Q == 0) = false := by rw [hA, beq_eq_false_iff_ne]; omega
        have g7 : ((l : Int) != lenA T S K G Q) = false := by rw [hA, hl]; exact bne_self_eq_false _
        have e4 : List.take 0 (List.replicate l (0 : Int)) ++ ws ++ List.drop (0 + ws.length) (List.replicate l (0 : Int)) = ws := by
          rw [List.take_zero, List.nil_append, List.drop_eq_nil_of_le (by simp; omega), List.append_nil]
        refine ⟨_, get_walk (of_way_4 T S K G Q l c ws) ?_, ?_⟩
        · rw [decide_eq_true g5]
          simp only [e0, e1, e2, e3, Nat.mul_one, decide_eq_true g1, decide_eq_true g2, decide_eq_true g3, decide_eq_false g4, g6, g7, hR, cond_false, Bool.not_true]
        · simp only [of_out, isRow, hR, Bool.true_and, decide_eq_true hl, Tree.get_br, if_true, Tree.get_leaf, e0, e1, e2, e3, e4, Nat.mul_one, Nat.zero_add, List.nil_append]
          rw [show List.take 0 (List.replicate l (0 : Int)) ++ ws ++ List.drop ws.length (List.replicate l (0 : Int)) = ws from by rw [← e4]; simp [e4]; omega]
      · have g7 : ((l : Int) != lenA T S K G Q) = true := by rw [hA, bne_iff_ne]; exact hl
        refine ⟨_, get_walk (of_way_2 T S K G Q l c ws) (by simp only [hR, g7, cond_false, Bool.not_true]), ?_⟩
        simp only [of_out, isRow, hR, decide_eq_false hl, Bool.and_false, Tree.get_br, Bool.false_eq_true, if_false, Tree.get_leaf]
  · exact h.elim
noncomputable def sumsO : Sums := withForm sumsL 22 OfF of_I of_out
theorem sumsO_ok : SumsOk sumsO := withForm_ok sumsL_ok sumsL_ok 60 (by kernel_rfl) of_step
end Go.Proofs.YtifojacfedjedaaGreat.Bound
