/- The program's words: loads and stores, by forms. No condition. -/
import Derived.Test.YtifojacfedjedaaGreatBasA
namespace Go.Proofs.YtifojacfedjedaaGreat.Bound
open Go.Proofs.YtifojacfedjedaaGreat.Ev Go.Proofs.YtifojacfedjedaaGreat.ChartMath
set_option linter.unusedVariables false
set_option linter.unusedSimpArgs false
def memC : CPat := .vals [.int .i64, .int .i64, .int .i64, .int .i64, .int .u64, .slice 1 0 none, .int .i64, .int .i64, .int .i64, .int .u64, .int .u64, .bool, .int .i64]
def memB : List (Nat × TypeId × CPat) := [(0, 126, memC), (1, 22, .ints .u64)]
def LoadF : FForm := ⟨[.ptr 0 0 none, .agg [.int .i64, .int .i64]], memB, [⟨[(0, .int .u64)], 1, memB, 2, [0, 1]⟩]⟩
def StoreF : FForm := ⟨[.ptr 0 0 none, .agg [.int .i64, .int .i64], .int .u64], memB, [⟨[(0, .tuple [])], 1, memB, 2, [0, 1]⟩]⟩
theorem mload_way_1 (k o : Int) (T S K G Q : Int) (l c : Nat) (tk ts to told tnew many : Int) (td : Bool) (ws : List Int) : walk (endF (ev sums9 60 15) LoadF [.i k, .i o, .i T, .i S, .i K, .i G, .i Q, .n l, .n c, .i tk, .i ts, .i to, .i told, .i tnew, .b td, .i many, .ws ws]) [true, true, true, true, true] =
    some ([decide (cellA T S K G Q k o ≥ 0), decide (0 ≤ cellA T S K G Q k o ∧ cellA T S K G Q k o < ↑l), decide ((0 + (cellA T S K G Q k o).toNat * 1) < ws.length), decide (0 ≤ cellA T S K G Q k o ∧ cellA T S K G Q k o < ↑l), decide ((0 + (cellA T S K G Q k o).toNat * 1) < ws.length)], (0, [.i (ws.getD ((0 + (cellA T S K G Q k o).toNat * 1)) 0), .i (T), .i (S), .i (K), .i (G), .i (Q), .n (l), .n (c), .i (1), .i (k), .i (o), .i (ws.getD ((0 + (cellA T S K G Q k o).toNat * 1)) 0), .i (ws.getD ((0 + (cellA T S K G Q k o).toNat * 1)) 0), .b true, .i (IntKind.i64.wrap (many + 1)), .ws (ws.set ((0 + (cellA T S K G Q k o).toNat * 1)) (ws.getD ((0 + (cellA T S K G Q k o).toNat * 1)) 0))])) := by kernel_rfl
theorem mload_way_2 (k o : Int) (T S K G Q : Int) (l c : Nat) (tk ts to told tnew many : Int) (td : Bool) (ws : List Int) : walk (endF (ev sums9 60 15) LoadF [.i k, .i o, .i T, .i S, .i K, .i G, .i Q, .n l, .n c, .i tk, .i ts, .i to, .i told, .i tnew, .b td, .i many, .ws ws]) [false] =
    some ([decide (cellA T S K G Q k o ≥ 0)], (0, [.i (0), .i (T), .i (S), .i (K), .i (G), .i (Q), .n (l), .n (c), .i (1), .i (k), .i (o), .i (0), .i (0), .b false, .i (IntKind.i64.wrap (many + 1)), .ws (ws)])) := by kernel_rfl
theorem mstore_way_1 (k o v : Int) (T S K G Q : Int) (l c : Nat) (tk ts to told tnew many : Int) (td : Bool) (ws : List Int) : walk (endF (ev sums9 60 42) StoreF [.i k, .i o, .i v, .i T, .i S, .i K, .i G, .i Q, .n l, .n c, .i tk, .i ts, .i to, .i told, .i tnew, .b td, .i many, .ws ws]) [true, true, true, true, true] =
    some ([decide (cellA T S K G Q k o ≥ 0), decide (0 ≤ cellA T S K G Q k o ∧ cellA T S K G Q k o < ↑l), decide ((0 + (cellA T S K G Q k o).toNat * 1) < ws.length), decide (0 ≤ cellA T S K G Q k o ∧ cellA T S K G Q k o < ↑l), decide ((0 + (cellA T S K G Q k o).toNat * 1) < ws.length)], (0, [.i (T), .i (S), .i (K), .i (G), .i (Q), .n (l), .n (c), .i (2), .i (k), .i (o), .i (ws.getD ((0 + (cellA T S K G Q k o).toNat * 1)) 0), .i (v), .b true, .i (IntKind.i64.wrap (many + 1)), .ws (ws.set ((0 + (cellA T S K G Q k o).toNat * 1)) v)])) := by kernel_rfl
theorem mstore_way_2 (k o v : Int) (T S K G Q : Int) (l c : Nat) (tk ts to told tnew many : Int) (td : Bool) (ws : List Int) : walk (endF (ev sums9 60 42) StoreF [.i k, .i o, .i v, .i T, .i S, .i K, .i G, .i Q, .n l, .n c, .i tk, .i ts, .i to, .i told, .i tnew, .b td, .i many, .ws ws]) [false] =
    some ([decide (cellA T S K G Q k o ≥ 0)], (0, [.i (T), .i (S), .i (K), .i (G), .i (Q), .n (l), .n (c), .i (2), .i (k), .i (o), .i (0), .i (0), .b false, .i (IntKind.i64.wrap (many + 1)), .ws (ws)])) := by kernel_rfl

/-- A world's words: as many as there are cells. -/
def Row (T S K G Q : Int) (l : Nat) (ws : List Int) : Prop := right T S K G Q = true ∧ ws.length = l ∧ (l : Int) = lenOf T S K
theorem row_cell {T S K G Q : Int} {l : Nat} {ws : List Int} (h : Row T S K G Q l ws) (k o : Int) : cellA T S K G Q k o = cellOf T S K k o ∧ (0 ≤ cellOf T S K k o → (0 ≤ cellOf T S K k o ∧ cellOf T S K k o < (l : Int)) ∧ (cellOf T S K k o).toNat < ws.length) := by
  obtain ⟨hR, h1, h2⟩ := h
  obtain ⟨t1, t2, s1, s2, k1, k2, _⟩ := right_iff.1 hR
  refine ⟨by simp [cellA, hR], fun h0 => ?_⟩
  have := (at_cell (by omega) (by omega) (by omega) h0).1
  exact ⟨⟨h0, by omega⟩, by omega⟩
theorem set_same {ws : List Int} {i : Nat} (h : i < ws.length) : ws.set i (ws.getD i 0) = ws := by
  rw [List.getD_eq_getElem?_getD, List.getElem?_eq_getElem h, Option.getD_some, List.set_getElem_self]
def load_I : List Atom → Prop
  | [.i k, .i o, .i T, .i S, .i K, .i G, .i Q, .n l, .n c, .i tk, .i ts, .i to, .i told, .i tnew, .b td, .i many, .ws ws] => Row T S K G Q l ws
  | _ => False
def load_out : List Atom → Tree (Nat × List Atom)
  | [.i k, .i o, .i T, .i S, .i K, .i G, .i Q, .n l, .n c, .i tk, .i ts, .i to, .i told, .i tnew, .b td, .i many, .ws ws] => .br (decide (0 ≤ cellOf T S K k o))
    (.leaf (0, [.i (ws.getD (cellOf T S K k o).toNat 0), .i T, .i S, .i K, .i G, .i Q, .n l, .n c, .i 1, .i k, .i o, .i (ws.getD (cellOf T S K k o).toNat 0), .i (ws.getD (cellOf T S K k o).toNat 0), .b true, .i (IntKind.i64.wrap (many + 1)), .ws ws]))
    (.leaf (0, [.i 0, .i T, .i S, .i K, .i G, .i Q, .n l, .n c, .i 1, .i k, .i o, .i 0, .i 0, .b false, .i (IntKind.i64.wrap (many + 1)), .ws ws]))
  | _ => .bad
theorem load_step (x : List Atom) (h : load_I x) : ∃ r, (endF (ev sums9 60 15) LoadF x).get = some r ∧ (load_out x).get = some r := by
  unfold load_I at h
  split at h
  · rename_i k o T S K G Q l c tk ts to told tnew td many ws
    obtain ⟨e, hc⟩ := row_cell h k o
    by_cases h0 : 0 ≤ cellOf T S K k o
    · obtain ⟨h1, h2⟩ := hc h0
      have h0' : cellOf T S K k o ≥ 0 := h0
      refine ⟨_, get_walk (mload_way_1 k o T S K G Q l c tk ts to told tnew many td ws) ?_, ?_⟩
      · simp only [e, Nat.zero_add, Nat.mul_one, decide_eq_true h0', decide_eq_true h1, decide_eq_true h2]
      · simp only [load_out, e, Nat.zero_add, Nat.mul_one, decide_eq_true h0, Tree.get_br, if_true, Tree.get_leaf, set_same h2]
    · have h0' : ¬ cellOf T S K k o ≥ 0 := h0
      refine ⟨_, get_walk (mload_way_2 k o T S K G Q l c tk ts to told tnew many td ws) ?_, ?_⟩
      · simp only [e, decide_eq_false h0']
      · simp only [load_out, decide_eq_false h0, Tree.get_br, Bool.false_eq_true, if_false, Tree.get_leaf]
  · exact h.elim
def store_I : List Atom → Prop
  | [.i k, .i o, .i v, .i T, .i S, .i K, .i G, .i Q, .n l, .n c, .i tk, .i ts, .i to, .i told, .i tnew, .b td, .i many, .ws ws] => Row T S K G Q l ws
  | _ => False
def store_out : List Atom → Tree (Nat × List Atom)
  | [.i k, .i o, .i v, .i T, .i S, .i K, .i G, .i Q, .n l, .n c, .i tk, .i ts, .i to, .i told, .i tnew, .b td, .i many, .ws ws] => .br (decide (0 ≤ cellOf T S K k o))
    (.leaf (0, [.i T, .i S, .i K, .i G, .i Q, .n l, .n c, .i 2, .i k, .i o, .i (ws.getD (cellOf T S K k o).toNat 0), .i v, .b true, .i (IntKind.i64.wrap (many + 1)), .ws (ws.set (cellOf T S K k o).toNat v)]))
    (.leaf (0, [.i T, .i S, .i K, .i G, .i Q, .n l, .n c, .i 2, .i k, .i o, .i 0, .i 0, .b false, .i (IntKind.i64.wrap (many + 1)), .ws ws]))
  | _ => .bad
theorem store_step (x : List Atom) (h : store_I x) : ∃ r, (endF (ev sums9 60 42) StoreF x).get = some r ∧ (store_out x).get = some r := by
  unfold store_I at h
  split at h
  · rename_i k o v T S K G Q l c tk ts to told tnew td many ws
    obtain ⟨e, hc⟩ := row_cell h k o
    by_cases h0 : 0 ≤ cellOf T S K k o
    · obtain ⟨h1, h2⟩ := hc h0
      have h0' : cellOf T S K k o ≥ 0 := h0
      refine ⟨_, get_walk (mstore_way_1 k o v T S K G Q l c tk ts to told tnew many td ws) ?_, ?_⟩
      · simp only [e, Nat.zero_add, Nat.mul_one, decide_eq_true h0', decide_eq_true h1, decide_eq_true h2]
      · simp only [store_out, e, Nat.zero_add, Nat.mul_one, decide_eq_true h0, Tree.get_br, if_true, Tree.get_leaf]
    · have h0' : ¬ cellOf T S K k o ≥ 0 := h0
      refine ⟨_, get_walk (mstore_way_2 k o v T S K G Q l c tk ts to told tnew many td ws) ?_, ?_⟩
      · simp only [e, decide_eq_false h0']
      · simp only [store_out, decide_eq_false h0, Tree.get_br, Bool.false_eq_true, if_false, Tree.get_leaf]
  · exact h.elim
noncomputable def sumsM : Sums := withForm (withForm sums9 15 LoadF load_I load_out) 42 StoreF store_I store_out
theorem sumsM_ok : SumsOk sumsM := withForm_ok (withForm_ok sums9_ok sums9_ok 60 (by kernel_rfl) load_step) sums9_ok 60 (by kernel_rfl) store_step
end Go.Proofs.YtifojacfedjedaaGreat.Bound
