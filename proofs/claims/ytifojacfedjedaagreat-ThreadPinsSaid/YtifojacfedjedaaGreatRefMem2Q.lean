/- The document's words: loads and stores, by forms. No condition. -/
import Derived.Test.YtifojacfedjedaaGreatMem2Q
namespace Go.Proofs.YtifojacfedjedaaGreat.Bound
open Go.Proofs.YtifojacfedjedaaGreat.Ev Go.Proofs.YtifojacfedjedaaGreat.ChartMath
set_option linter.unusedVariables false
set_option linter.unusedSimpArgs false
def rmem : Pat := .agg [.int .i64, .int .i64, .int .i64, .int .i64, .int .u64, .slice 0 0 none, .int .i64, .int .i64, .int .i64, .int .i64, .int .u64, .int .u64, .bool]
def rmem1 : Pat := .agg [.int .i64, .int .i64, .int .i64, .int .i64, .int .u64, .slice 1 0 none, .int .i64, .int .i64, .int .i64, .int .i64, .int .u64, .int .u64, .bool]
def RB : List (Nat × TypeId × CPat) := [(0, 22, .ints .u64)]
def RLoadF : FForm := ⟨[rmem, .int .i64, .int .i64], RB, [⟨[(0, .tuple [rmem, .int .u64])], 1, RB, 1, []⟩]⟩
def RStoreF : FForm := ⟨[rmem, .int .i64, .int .i64, .int .u64], RB, [⟨[(0, rmem)], 1, RB, 1, []⟩, ⟨[(0, rmem1)], 1, RB ++ [(1, 22, .ints .u64)], 2, []⟩]⟩
theorem rload_way_1 (k o T S K G Q : Int) (l c : Nat) (tk ts to told tnew many : Int) (td : Bool) (ws : List Int) : walk (endF (ev sums9 60 73) RLoadF [.i T, .i S, .i K, .i G, .i Q, .n l, .n c, .i many, .i tk, .i ts, .i to, .i told, .i tnew, .b td, .i k, .i o, .ws ws]) [true, true, true, true, true, true, true, true, true, false, false, false, false, false, false, false, false, false, false] =
    some ([(right T S K G Q, Value.int IntKind.i64 (ChartMath.cellOf T S K k o)).fst, decide (ChartMath.cellOf T S K k o ≥ 0), decide (0 ≤ ChartMath.cellOf T S K k o ∧ ChartMath.cellOf T S K k o < ↑l), decide ((0 + (ChartMath.cellOf T S K k o).toNat * 1) < ws.length), true, true, true, true, true, false, false, false, false, false, false, false, false, false, ws.getD ((0 + (ChartMath.cellOf T S K k o).toNat * 1)) 0 != ws.getD ((0 + (ChartMath.cellOf T S K k o).toNat * 1)) 0], (0, [.i (T), .i (S), .i (K), .i (G), .i (Q), .n (l), .n (c), .i (IntKind.i64.wrap (many + 1)), .i (1), .i (k), .i (o), .i (ws.getD ((0 + (ChartMath.cellOf T S K k o).toNat * 1)) 0), .i (ws.getD ((0 + (ChartMath.cellOf T S K k o).toNat * 1)) 0), .b true, .i (ws.getD ((0 + (ChartMath.cellOf T S K k o).toNat * 1)) 0), .ws (ws)])) := by kernel_rfl
theorem rload_way_2 (k o T S K G Q : Int) (l c : Nat) (tk ts to told tnew many : Int) (td : Bool) (ws : List Int) : walk (endF (ev sums9 60 73) RLoadF [.i T, .i S, .i K, .i G, .i Q, .n l, .n c, .i many, .i tk, .i ts, .i to, .i told, .i tnew, .b td, .i k, .i o, .ws ws]) [true, false] =
    some ([(right T S K G Q, Value.int IntKind.i64 (ChartMath.cellOf T S K k o)).fst, decide (ChartMath.cellOf T S K k o ≥ 0)], (0, [.i (T), .i (S), .i (K), .i (G), .i (Q), .n (l), .n (c), .i (IntKind.i64.wrap (many + 1)), .i (1), .i (k), .i (o), .i (0), .i (0), .b false, .i (0), .ws (ws)])) := by kernel_rfl
theorem rst_new (k o v T S K G Q : Int) (l : Nat) (tk ts to told tnew many : Int) (td : Bool) (ws : List Int) : walk (endF (ev sums9 60 43) RStoreF [.i T, .i S, .i K, .i G, .i Q, .n l, .n l, .i many, .i tk, .i ts, .i to, .i told, .i tnew, .b td, .i k, .i o, .i v, .ws ws]) [true, true, true, true, true, true, true, true, true, true, true, true, true, true, true, false, true, false, true, true, true, true] =
    some ([(right T S K G Q, Value.int IntKind.i64 (ChartMath.cellOf T S K k o)).fst, decide ((ChartMath.cellOf T S K k o) ≥ 0), decide (0 ≤ (ChartMath.cellOf T S K k o) ∧ (ChartMath.cellOf T S K k o) < ↑l), decide ((0 + (ChartMath.cellOf T S K k o).toNat * 1) < ws.length), true, true, true, true, true, true, true, true, true, true, true, false, v != ws.getD ((0 + (ChartMath.cellOf T S K k o).toNat * 1)) 0, decide (l = 0), decide (cellOff 0 none + l * 1 ≤ ws.length), decide (0 = 0 ∧ 0 = 0 * 1 ∧ (0 + l) * 8 ≤ 140737488355328 ∧ 0 + l ≤ 4611686018427387904), decide (0 ≤ (ChartMath.cellOf T S K k o) ∧ (ChartMath.cellOf T S K k o) < ↑(0 + l)), decide ((0 + (ChartMath.cellOf T S K k o).toNat * 1) < ([] ++ List.take (l * 1) (List.drop (cellOff 0 none) ws)).length)], (1, [.i T, .i S, .i K, .i G, .i Q, .n (0 + l), .n (0 + l), .i (IntKind.i64.wrap (many + 1)), .i 2, .i k, .i o, .i (ws.getD ((0 + (ChartMath.cellOf T S K k o).toNat * 1)) 0), .i v, .b true, .ws ws, .ws (([] ++ List.take (l * 1) (List.drop (cellOff 0 none) ws)).set ((0 + (ChartMath.cellOf T S K k o).toNat * 1)) v)])) := by kernel_rfl
theorem rst_same (k o v T S K G Q : Int) (l : Nat) (tk ts to told tnew many : Int) (td : Bool) (ws : List Int) : walk (endF (ev sums9 60 43) RStoreF [.i T, .i S, .i K, .i G, .i Q, .n l, .n l, .i many, .i tk, .i ts, .i to, .i told, .i tnew, .b td, .i k, .i o, .i v, .ws ws]) [true, true, true, true, true, true, true, true, true, true, true, true, true, true, true, false, false] =
    some ([(right T S K G Q, Value.int IntKind.i64 (ChartMath.cellOf T S K k o)).fst, decide ((ChartMath.cellOf T S K k o) ≥ 0), decide (0 ≤ (ChartMath.cellOf T S K k o) ∧ (ChartMath.cellOf T S K k o) < ↑l), decide ((0 + (ChartMath.cellOf T S K k o).toNat * 1) < ws.length), true, true, true, true, true, true, true, true, true, true, true, false, v != ws.getD ((0 + (ChartMath.cellOf T S K k o).toNat * 1)) 0], (0, [.i T, .i S, .i K, .i G, .i Q, .n l, .n l, .i (IntKind.i64.wrap (many + 1)), .i 2, .i k, .i o, .i (ws.getD ((0 + (ChartMath.cellOf T S K k o).toNat * 1)) 0), .i v, .b true, .ws ws])) := by kernel_rfl
theorem rst_no (k o v T S K G Q : Int) (l : Nat) (tk ts to told tnew many : Int) (td : Bool) (ws : List Int) : walk (endF (ev sums9 60 43) RStoreF [.i T, .i S, .i K, .i G, .i Q, .n l, .n l, .i many, .i tk, .i ts, .i to, .i told, .i tnew, .b td, .i k, .i o, .i v, .ws ws]) [true, false] =
    some ([(right T S K G Q, Value.int IntKind.i64 (ChartMath.cellOf T S K k o)).fst, decide ((ChartMath.cellOf T S K k o) ≥ 0)], (0, [.i T, .i S, .i K, .i G, .i Q, .n l, .n l, .i (IntKind.i64.wrap (many + 1)), .i 2, .i k, .i o, .i 0, .i 0, .b false, .ws ws])) := by kernel_rfl

def rload_I : List Atom → Prop
  | [.i T, .i S, .i K, .i G, .i Q, .n l, .n c, .i many, .i tk, .i ts, .i to, .i told, .i tnew, .b td, .i k, .i o, .ws ws] => Row T S K G Q l ws
  | _ => False
def rload_out : List Atom → Tree (Nat × List Atom)
  | [.i T, .i S, .i K, .i G, .i Q, .n l, .n c, .i many, .i tk, .i ts, .i to, .i told, .i tnew, .b td, .i k, .i o, .ws ws] => .br (decide (0 ≤ cellOf T S K k o))
    (.leaf (0, [.i T, .i S, .i K, .i G, .i Q, .n l, .n c, .i (IntKind.i64.wrap (many + 1)), .i 1, .i k, .i o, .i (ws.getD (cellOf T S K k o).toNat 0), .i (ws.getD (cellOf T S K k o).toNat 0), .b true, .i (ws.getD (cellOf T S K k o).toNat 0), .ws ws]))
    (.leaf (0, [.i T, .i S, .i K, .i G, .i Q, .n l, .n c, .i (IntKind.i64.wrap (many + 1)), .i 1, .i k, .i o, .i 0, .i 0, .b false, .i 0, .ws ws]))
  | _ => .bad
theorem rload_step (x : List Atom) (h : rload_I x) : ∃ r, (endF (ev sums9 60 73) RLoadF x).get = some r ∧ (rload_out x).get = some r := by
  unfold rload_I at h
  split at h
  · rename_i T S K G Q l c many tk ts to told tnew td k o ws
    obtain ⟨e, hc⟩ := row_cell h k o
    obtain ⟨hR, _, _⟩ := h
    by_cases h0 : 0 ≤ cellOf T S K k o
    · obtain ⟨h1, h2⟩ := hc h0
      have h0' : cellOf T S K k o ≥ 0 := h0
      refine ⟨_, get_walk (rload_way_1 k o T S K G Q l c tk ts to told tnew many td ws) ?_, ?_⟩
      · simp only [hR, Nat.zero_add, Nat.mul_one, decide_eq_true h0', decide_eq_true h1, decide_eq_true h2, bne_self_eq_false]
      · simp only [rload_out, Nat.zero_add, Nat.mul_one, decide_eq_true h0, Tree.get_br, if_true, Tree.get_leaf]
    · have h0' : ¬ cellOf T S K k o ≥ 0 := h0
      refine ⟨_, get_walk (rload_way_2 k o T S K G Q l c tk ts to told tnew many td ws) ?_, ?_⟩
      · simp only [hR, decide_eq_false h0']
      · simp only [rload_out, decide_eq_false h0, Tree.get_br, Bool.false_eq_true, if_false, Tree.get_leaf]
  · exact h.elim
def rstore_I : List Atom → Prop
  | [.i T, .i S, .i K, .i G, .i Q, .n l, .n c, .i many, .i tk, .i ts, .i to, .i told, .i tnew, .b td, .i k, .i o, .i v, .ws ws] => Row T S K G Q l ws ∧ c = l
  | _ => False
def rstore_out : List Atom → Tree (Nat × List Atom)
  | [.i T, .i S, .i K, .i G, .i Q, .n l, .n c, .i many, .i tk, .i ts, .i to, .i told, .i tnew, .b td, .i k, .i o, .i v, .ws ws] => .br (decide (0 ≤ cellOf T S K k o))
    (.br (v != ws.getD (cellOf T S K k o).toNat 0)
      (.leaf (1, [.i T, .i S, .i K, .i G, .i Q, .n l, .n l, .i (IntKind.i64.wrap (many + 1)), .i 2, .i k, .i o, .i (ws.getD (cellOf T S K k o).toNat 0), .i v, .b true, .ws ws, .ws (ws.set (cellOf T S K k o).toNat v)]))
      (.leaf (0, [.i T, .i S, .i K, .i G, .i Q, .n l, .n l, .i (IntKind.i64.wrap (many + 1)), .i 2, .i k, .i o, .i (ws.getD (cellOf T S K k o).toNat 0), .i v, .b true, .ws ws])))
    (.leaf (0, [.i T, .i S, .i K, .i G, .i Q, .n l, .n l, .i (IntKind.i64.wrap (many + 1)), .i 2, .i k, .i o, .i 0, .i 0, .b false, .ws ws]))
  | _ => .bad
theorem rstore_step (x : List Atom) (h : rstore_I x) : ∃ r, (endF (ev sums9 60 43) RStoreF x).get = some r ∧ (rstore_out x).get = some r := by
  unfold rstore_I at h
  split at h
  · rename_i T S K G Q l c many tk ts to told tnew td k o v ws
    obtain ⟨h, rfl⟩ := h
    obtain ⟨e, hc⟩ := row_cell h k o
    obtain ⟨hR, hl, hlen⟩ := h
    obtain ⟨t1, t2, s1, s2, k1, k2, _⟩ := right_iff.1 hR
    have hlo : lenOf T S K = 2 + T + 4 * S + K := rfl
    by_cases h0 : 0 ≤ cellOf T S K k o
    · obtain ⟨h1, h2⟩ := hc h0
      have h0' : cellOf T S K k o ≥ 0 := h0
      by_cases hv : v = ws.getD (cellOf T S K k o).toNat 0
      · have hv' : (v != ws.getD (cellOf T S K k o).toNat 0) = false := by rw [bne_eq_false_iff_eq]; exact hv
        refine ⟨_, get_walk (rst_same k o v T S K G Q c tk ts to told tnew many td ws) ?_, ?_⟩
        · simp only [hR, Nat.zero_add, Nat.mul_one, decide_eq_true h0', decide_eq_true h1, decide_eq_true h2, hv']
        · simp only [rstore_out, Nat.zero_add, Nat.mul_one, decide_eq_true h0, hv', Tree.get_br, if_true, Bool.false_eq_true, if_false, Tree.get_leaf]
      · have hv' : (v != ws.getD (cellOf T S K k o).toNat 0) = true := by rw [bne_iff_ne]; exact hv
        have g1 : ¬ c = 0 := by omega
        have g2 : cellOff 0 none + c * 1 ≤ ws.length := by show 0 + c * 1 ≤ _; omega
        have g3 : (0 : Nat) = 0 ∧ 0 = 0 * 1 ∧ (0 + c) * 8 ≤ 140737488355328 ∧ 0 + c ≤ 4611686018427387904 := by omega
        have g4 : ([] ++ List.take (c * 1) (List.drop (cellOff 0 none) ws)) = ws := by
          show List.take (c * 1) ws = ws
          rw [List.take_of_length_le (by omega)]
        refine ⟨_, get_walk (rst_new k o v T S K G Q c tk ts to told tnew many td ws) ?_, ?_⟩
        · rw [decide_eq_true g3, decide_eq_true g2, g4]
          simp only [hR, Nat.zero_add, Nat.mul_one, decide_eq_true h0', decide_eq_true h1, decide_eq_true h2, decide_eq_false g1, hv']
        · rw [g4]
          simp only [rstore_out, Nat.zero_add, Nat.mul_one, decide_eq_true h0, hv', Tree.get_br, if_true, Tree.get_leaf]
    · have h0' : ¬ cellOf T S K k o ≥ 0 := h0
      refine ⟨_, get_walk (rst_no k o v T S K G Q c tk ts to told tnew many td ws) ?_, ?_⟩
      · simp only [hR, decide_eq_false h0']
      · simp only [rstore_out, decide_eq_false h0, Tree.get_br, Bool.false_eq_true, if_false, Tree.get_leaf]
  · exact h.elim
noncomputable def sumsR : Sums := withForm (withForm sumsM 73 RLoadF rload_I rload_out) 43 RStoreF rstore_I rstore_out
theorem sumsR_ok : SumsOk sumsR := withForm_ok (withForm_ok sumsM_ok sums9_ok 60 (by kernel_rfl) rload_step) sums9_ok 60 (by kernel_rfl) rstore_step
end Go.Proofs.YtifojacfedjedaaGreat.Bound
