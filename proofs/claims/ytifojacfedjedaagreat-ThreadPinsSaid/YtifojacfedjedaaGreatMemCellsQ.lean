/- The program's words, copied: by forms. No condition. -/
import Derived.Test.YtifojacfedjedaaGreatRefMem2Q
namespace Go.Proofs.YtifojacfedjedaaGreat.Bound
open Go.Proofs.YtifojacfedjedaaGreat.Ev Go.Proofs.YtifojacfedjedaaGreat.ChartMath
set_option linter.unusedVariables false
set_option linter.unusedSimpArgs false
def CellsF : FForm := ⟨[.ptr 0 0 none], memB, [⟨[(0, .slice 2 0 none)], 1, memB ++ [(2, 22, .ints .u64)], 3, []⟩]⟩
theorem cells_way_1 (T S K G Q : Int) (l c : Nat) (tk ts to told tnew many : Int) (td : Bool) (ws : List Int) : walk (endF (ev sums9 60 24) CellsF [.i T, .i S, .i K, .i G, .i Q, .n l, .n c, .i tk, .i ts, .i to, .i told, .i tnew, .b td, .i many, .ws ws]) [true, true, true] =
    some ([decide (0 ≤ (l : Int) ∧ (l : Int) ≤ (l : Int) ∧ ((8 : Nat) : Int) * (l : Int) ≤ 2 ^ 48 ∧ (l : Int) < 2 ^ 62), decide (cellOff 0 none + l.min (l : Int).toNat * 1 ≤ ws.length), decide (cellOff 0 (spotOf (Cells.ints IntKind.u64 (List.replicate (l : Int).toNat (0 : Int)))) + (List.take (l.min (l : Int).toNat * 1) (List.drop (cellOff 0 none) ws)).length ≤ (List.replicate (l : Int).toNat (0 : Int)).length)], (0, [.n ((l : Int).toNat), .n ((l : Int).toNat), .i (T), .i (S), .i (K), .i (G), .i (Q), .n (l), .n (c), .i (tk), .i (ts), .i (to), .i (told), .i (tnew), .b (td), .i (many), .ws (ws), .ws (List.take (cellOff 0 (spotOf (Cells.ints IntKind.u64 (List.replicate (l : Int).toNat (0 : Int))))) (List.replicate (l : Int).toNat (0 : Int)) ++ List.take (l.min (l : Int).toNat * 1) (List.drop (cellOff 0 none) ws) ++ List.drop (cellOff 0 (spotOf (Cells.ints IntKind.u64 (List.replicate (l : Int).toNat (0 : Int)))) + (List.take (l.min (l : Int).toNat * 1) (List.drop (cellOff 0 none) ws)).length) (List.replicate (l : Int).toNat (0 : Int)))])) := by kernel_rfl

def cells_I : List Atom → Prop
  | [.i T, .i S, .i K, .i G, .i Q, .n l, .n c, .i tk, .i ts, .i to, .i told, .i tnew, .b td, .i many, .ws ws] => Row T S K G Q l ws
  | _ => False
def cells_out : List Atom → Tree (Nat × List Atom)
  | [.i T, .i S, .i K, .i G, .i Q, .n l, .n c, .i tk, .i ts, .i to, .i told, .i tnew, .b td, .i many, .ws ws] => .leaf (0, [.n l, .n l, .i T, .i S, .i K, .i G, .i Q, .n l, .n c, .i tk, .i ts, .i to, .i told, .i tnew, .b td, .i many, .ws ws, .ws ws])
  | _ => .bad
theorem cells_step (x : List Atom) (h : cells_I x) : ∃ r, (endF (ev sums9 60 24) CellsF x).get = some r ∧ (cells_out x).get = some r := by
  unfold cells_I at h
  split at h
  · rename_i T S K G Q l c tk ts to told tnew td many ws
    obtain ⟨hR, hl, hlen⟩ := h
    obtain ⟨t1, t2, s1, s2, k1, k2, _⟩ := right_iff.1 hR
    have hlo : lenOf T S K = 2 + T + 4 * S + K := rfl
    have e0 : ((l : Int)).toNat = l := by omega
    have e1 : l.min l * 1 = l := by rw [Nat.mul_one]; exact Nat.min_self l
    have e2 : List.take l (List.drop (cellOff 0 none) ws) = ws := by show List.take l ws = ws; exact List.take_of_length_le (by omega)
    have e3 : cellOff 0 (spotOf (Cells.ints IntKind.u64 (List.replicate l 0))) = 0 := rfl
    have g1 : 0 ≤ (l : Int) ∧ (l : Int) ≤ (l : Int) ∧ ((8 : Nat) : Int) * (l : Int) ≤ 2 ^ 48 ∧ (l : Int) < 2 ^ 62 := by omega
    have g2 : cellOff 0 none + l ≤ ws.length := by show 0 + l ≤ _; omega
    have g3 : 0 + ws.length ≤ (List.replicate l (0 : Int)).length := by simp; omega
    refine ⟨_, get_walk (cells_way_1 T S K G Q l c tk ts to told tnew many td ws) ?_, ?_⟩
    · simp only [e0, e1, e2, e3, decide_eq_true g1, decide_eq_true g2, decide_eq_true g3]
    · simp only [e0, e1, e2, e3, cells_out, Tree.get_leaf]
      have e4 : List.take 0 (List.replicate l (0 : Int)) ++ ws ++ List.drop (0 + ws.length) (List.replicate l (0 : Int)) = ws := by
        rw [List.take_zero, List.nil_append, List.drop_eq_nil_of_le (by simp; omega), List.append_nil]
      rw [e4]
  · exact h.elim
noncomputable def sumsC : Sums := withForm sumsR 24 CellsF cells_I cells_out
theorem sumsC_ok : SumsOk sumsC := withForm_ok sumsR_ok sums9_ok 60 (by kernel_rfl) cells_step
end Go.Proofs.YtifojacfedjedaaGreat.Bound
