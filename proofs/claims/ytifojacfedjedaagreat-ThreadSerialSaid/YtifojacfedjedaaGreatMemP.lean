/- The program's words: loads and stores, by forms. No condition. The document's words: loads and stores, by forms. No condition. The program's words, copied: by forms. No condition. Whether two rows of words are the same: by the document. No condition. Whether the program's words, and the last access, are the document's: by form. No condition. The words of a world, laid out of a row: the program's and the document's, by form. No condition. The words of a world as a value; the program's and the document's loads and stores, as trees. No condition. -/
import Derived.Test.YtifojacfedjedaaGreatBasA
section
namespace Go.Proofs.YtifojacfedjedaaGreat.Bound
open Go.Proofs.YtifojacfedjedaaGreat.Ev Go.Proofs.YtifojacfedjedaaGreat.ChartMath
set_option linter.unusedVariables false
set_option linter.unusedSimpArgs false
def memC : CPat := .vals [.int .i64, .int .i64, .int .i64, .int .i64, .int .u64, .slice 1 0 none, .int .i64, .int .i64, .int .i64, .int .u64, .int .u64, .bool, .int .i64]
def memB : List (Nat × TypeId × CPat) := [(0, 126, memC), (1, 22, .ints .u64)]
def LoadF : FForm := ⟨[.ptr 0 0 none, .agg [.int .i64, .int .i64]], memB, [⟨[(0, .int .u64)], 1, memB, 2, [0, 1]⟩]⟩
def StoreF : FForm := ⟨[.ptr 0 0 none, .agg [.int .i64, .int .i64], .int .u64], memB, [⟨[(0, .tuple [])], 1, memB, 2, [0, 1]⟩]⟩
theorem mload_way_1 (k o : Int) (T S K G Q : Int) (l c : Nat) (tk ts to told tnew many : Int) (td : Bool) (ws : List Int) : walk (endF (ev sums9 60 15) LoadF [.i k, .i o, .i T, .i S, .i K, .i G, .i Q, .n l, .n c, .i tk, .i ts, .i to, .i told, .i tnew, .b td, .i many, .ws ws]) [true, true, true, true, true] =
    some ([decide (cellA T S K G Q k o ≥ 0), decide (0 ≤ cellA T S K G Q k o ∧ cellA T S K G Q k o < ↑l), decide ((0 + (cellA T S K G Q k o).toNat * 1) < ws.length), decide (0 ≤ cellA T S K G Q k o ∧ cellA T S K G Q k o < ↑l), decide ((0 + (cellA T S K G Q k o).toNat * 1) < ws.length)], (0, [.i (ws.getD ((0 + (cellA T S K G Q k o).toNat * 1)) 0), .i (T), .i (S), .i (K), .i (G), .i (Q), .n (l), .n (c), .i (1), .i (k), .i (o), .i (ws.getD ((0 + (cellA T S K G Q k o).toNat * 1)) 0), .i (ws.getD ((0 + (cellA T S K G Q k o).toNat * 1)) 0), .b true, .i (IntKind.i64.wrap (many + 1)), .ws (ws.set ((0 + (cellA T S K G Q k o).toNat * 1)) (ws.getD ((0 + (cellA T S K G Q k o).toNat * 1)) 0))])) := by kernel_rfl
theorem mload_way_2 (k o : Int) (T S K G Q : Int) (l c : Nat) (tk ts to told tnew many : Int) (td : Bool) (ws : List Int) : walk (endF (ev sums9 60 15) LoadF [.i k, .i o, .i T, .i S, .i K, .i G, .i Q, .n l, .n c, .i tk, .i ts, .i to, .i told, .i tnew, .b td, .i many, .ws ws]) [false] =
    some ([decide (cellA T S K G Q k o ≥ 0)], (0, [.i (0), .i (T), .i (S), .i (K), .i (G), .i (Q), .n (l), .n (c), .i (1), .i (k), .i (o), .i (0), .i (0), .b false, .i (IntKind.i64.wrap (many + 1)), .ws (ws)])) := by kernel_rfl
theorem mstore_way_1 (k o v : Int) (T S K G Q : Int) (l c : Nat) (tk ts to told tnew many : Int) (td : Bool) (ws : List Int) : walk (endF (ev sums9 60 42) StoreF [.i k, .i o, .i v, .i T, .i S, .i K, .i G, .i Q, .n l, .n c, .i tk, .i ts, .i to, .i told, .i tnew, .b td, .i many, .ws ws]) [true, true, true, true, true] =
    some ([decide (cellA T S K G Q k o ≥ 0), decide (0 ≤ cellA T S K G Q k o ∧ cellA T S K G Q k o < ↑l), decide ((0 + (cellA T S K G Q k o).toNat * 1) < ws.length), decide (0 ≤ cellA T S K G Q k o ∧ cellA T S K G Q k o < ↑l), decide ((0 + (cellA T S K G Q k o).toNat * 1) < ws.length)], (0, [.i (T), .i (S), .i (K), .i (G), .i (Q), .n (l), .n (c), .i (2), .i (k), .i (o), .i (ws.getD ((0 + (cellA T S K G Q k o).toNat * 1)) 0), .i (v), .b true, .i (IntKind.i64.wrap (many + 1)), .ws (ws.set ((0 + (cellA T S K G Q k o).toNat * 1)) v)])) := by kernel_rfl
theorem mstore_way_2 (k o v : Int) (T S K G Q : Int) (l c : Nat) (tk ts to told tnew many : Int) (td : Bool) (ws : List Int) : walk (endF (ev sums9 60 42) StoreF [.i k, .i o, .i v, .i T, .i S, .i K, .i G, .i Q, .n l, .n c, .i tk, .i ts, .i to, .i told, .i tnew, .b td, .i many, .ws ws]) [false] =
    some ([decide (cellA T S K G Q k o ≥ 0)], (0, [.i (T), .i (S), .i (K), .i (G), .i (Q), .n (l), .n (c), .i (2), .i (k), .i (o), .i (0), .i (0), .b false, .i (IntKind.i64.wrap (many + 1)), .ws (ws)])) := by kernel_rfl

/-- A world's words: as many as there are cells. -/
def Row (T S K G Q : Int) (l : Nat) (ws : List Int) : Prop := right T S K G Q = true ∧ ws.length = l ∧ (l : Int) = lenOf T S K
theorem row_cell {T S K G Q : Int} {l : Nat} {ws : List Int} (h : Row T S K G Q l ws) (k o : Int) : cellA T S K G Q k o = cellOf T S K k o ∧ (0 ≤ cellOf T S K k o → (0 ≤ cellOf T S K k o ∧ cellOf T S K k o < (l : Int)) ∧ (cellOf T S K k o).toNat < ws.length) := by
  obtain ⟨hR, h1, h2⟩ := h
  obtain ⟨t1, t2, s1, s2, k1, k2, _⟩ := right_iff.1 hR
  refine ⟨by simp [cellA, hR], fun h0 => ?_⟩
  have := (at_cell (by omega) (by omega) (by omega) h0).1
  exact ⟨⟨h0, by omega⟩, by omega⟩
theorem set_same {ws : List Int} {i : Nat} (h : i < ws.length) : ws.set i (ws.getD i 0) = ws := by
  rw [List.getD_eq_getElem?_getD, List.getElem?_eq_getElem h, Option.getD_some, List.set_getElem_self]
def load_I : List Atom → Prop
  | [.i k, .i o, .i T, .i S, .i K, .i G, .i Q, .n l, .n c, .i tk, .i ts, .i to, .i told, .i tnew, .b td, .i many, .ws ws] => Row T S K G Q l ws
  | _ => False
def load_out : List Atom → Tree (Nat × List Atom)
  | [.i k, .i o, .i T, .i S, .i K, .i G, .i Q, .n l, .n c, .i tk, .i ts, .i to, .i told, .i tnew, .b td, .i many, .ws ws] => .br (decide (0 ≤ cellOf T S K k o))
    (.leaf (0, [.i (ws.getD (cellOf T S K k o).toNat 0), .i T, .i S, .i K, .i G, .i Q, .n l, .n c, .i 1, .i k, .i o, .i (ws.getD (cellOf T S K k o).toNat 0), .i (ws.getD (cellOf T S K k o).toNat 0), .b true, .i (IntKind.i64.wrap (many + 1)), .ws ws]))
    (.leaf (0, [.i 0, .i T, .i S, .i K, .i G, .i Q, .n l, .n c, .i 1, .i k, .i o, .i 0, .i 0, .b false, .i (IntKind.i64.wrap (many + 1)), .ws ws]))
  | _ => .bad
theorem load_step (x : List Atom) (h : load_I x) : ∃ r, (endF (ev sums9 60 15) LoadF x).get = some r ∧ (load_out x).get = some r := by
  unfold load_I at h
  split at h
  · rename_i k o T S K G Q l c tk ts to told tnew td many ws
    obtain ⟨e, hc⟩ := row_cell h k o
    by_cases h0 : 0 ≤ cellOf T S K k o
    · obtain ⟨h1, h2⟩ := hc h0
      have h0' : cellOf T S K k o ≥ 0 := h0
      refine ⟨_, get_walk (mload_way_1 k o T S K G Q l c tk ts to told tnew many td ws) ?_, ?_⟩
      · simp only [e, Nat.zero_add, Nat.mul_one, decide_eq_true h0', decide_eq_true h1, decide_eq_true h2]
      · simp only [load_out, e, Nat.zero_add, Nat.mul_one, decide_eq_true h0, Tree.get_br, if_true, Tree.get_leaf, set_same h2]
    · have h0' : ¬ cellOf T S K k o ≥ 0 := h0
      refine ⟨_, get_walk (mload_way_2 k o T S K G Q l c tk ts to told tnew many td ws) ?_, ?_⟩
      · simp only [e, decide_eq_false h0']
      · simp only [load_out, decide_eq_false h0, Tree.get_br, Bool.false_eq_true, if_false, Tree.get_leaf]
  · exact h.elim
def store_I : List Atom → Prop
  | [.i k, .i o, .i v, .i T, .i S, .i K, .i G, .i Q, .n l, .n c, .i tk, .i ts, .i to, .i told, .i tnew, .b td, .i many, .ws ws] => Row T S K G Q l ws
  | _ => False
def store_out : List Atom → Tree (Nat × List Atom)
  | [.i k, .i o, .i v, .i T, .i S, .i K, .i G, .i Q, .n l, .n c, .i tk, .i ts, .i to, .i told, .i tnew, .b td, .i many, .ws ws] => .br (decide (0 ≤ cellOf T S K k o))
    (.leaf (0, [.i T, .i S, .i K, .i G, .i Q, .n l, .n c, .i 2, .i k, .i o, .i (ws.getD (cellOf T S K k o).toNat 0), .i v, .b true, .i (IntKind.i64.wrap (many + 1)), .ws (ws.set (cellOf T S K k o).toNat v)]))
    (.leaf (0, [.i T, .i S, .i K, .i G, .i Q, .n l, .n c, .i 2, .i k, .i o, .i 0, .i 0, .b false, .i (IntKind.i64.wrap (many + 1)), .ws ws]))
  | _ => .bad
theorem store_step (x : List Atom) (h : store_I x) : ∃ r, (endF (ev sums9 60 42) StoreF x).get = some r ∧ (store_out x).get = some r := by
  unfold store_I at h
  split at h
  · rename_i k o v T S K G Q l c tk ts to told tnew td many ws
    obtain ⟨e, hc⟩ := row_cell h k o
    by_cases h0 : 0 ≤ cellOf T S K k o
    · obtain ⟨h1, h2⟩ := hc h0
      have h0' : cellOf T S K k o ≥ 0 := h0
      refine ⟨_, get_walk (mstore_way_1 k o v T S K G Q l c tk ts to told tnew many td ws) ?_, ?_⟩
      · simp only [e, Nat.zero_add, Nat.mul_one, decide_eq_true h0', decide_eq_true h1, decide_eq_true h2]
      · simp only [store_out, e, Nat.zero_add, Nat.mul_one, decide_eq_true h0, Tree.get_br, if_true, Tree.get_leaf]
    · have h0' : ¬ cellOf T S K k o ≥ 0 := h0
      refine ⟨_, get_walk (mstore_way_2 k o v T S K G Q l c tk ts to told tnew many td ws) ?_, ?_⟩
      · simp only [e, decide_eq_false h0']
      · simp only [store_out, decide_eq_false h0, Tree.get_br, Bool.false_eq_true, if_false, Tree.get_leaf]
  · exact h.elim
noncomputable def sumsM : Sums := withForm (withForm sums9 15 LoadF load_I load_out) 42 StoreF store_I store_out
theorem sumsM_ok : SumsOk sumsM := withForm_ok (withForm_ok sums9_ok sums9_ok 60 (by kernel_rfl) load_step) sums9_ok 60 (by kernel_rfl) store_step
end Go.Proofs.YtifojacfedjedaaGreat.Bound
end

section
namespace Go.Proofs.YtifojacfedjedaaGreat.Bound
open Go.Proofs.YtifojacfedjedaaGreat.Ev Go.Proofs.YtifojacfedjedaaGreat.ChartMath
set_option linter.unusedVariables false
set_option linter.unusedSimpArgs false
def rmem : Pat := .agg [.int .i64, .int .i64, .int .i64, .int .i64, .int .u64, .slice 0 0 none, .int .i64, .int .i64, .int .i64, .int .i64, .int .u64, .int .u64, .bool]
def rmem1 : Pat := .agg [.int .i64, .int .i64, .int .i64, .int .i64, .int .u64, .slice 1 0 none, .int .i64, .int .i64, .int .i64, .int .i64, .int .u64, .int .u64, .bool]
def RB : List (Nat × TypeId × CPat) := [(0, 22, .ints .u64)]
def RLoadF : FForm := ⟨[rmem, .int .i64, .int .i64], RB, [⟨[(0, .tuple [rmem, .int .u64])], 1, RB, 1, []⟩]⟩
def RStoreF : FForm := ⟨[rmem, .int .i64, .int .i64, .int .u64], RB, [⟨[(0, rmem)], 1, RB, 1, []⟩, ⟨[(0, rmem1)], 1, RB ++ [(1, 22, .ints .u64)], 2, []⟩]⟩
theorem rload_way_1 (k o T S K G Q : Int) (l c : Nat) (tk ts to told tnew many : Int) (td : Bool) (ws : List Int) : walk (endF (ev sums9 60 73) RLoadF [.i T, .i S, .i K, .i G, .i Q, .n l, .n c, .i many, .i tk, .i ts, .i to, .i told, .i tnew, .b td, .i k, .i o, .ws ws]) [true, true, true, true, true, true, true, true, true, false, false, false, false, false, false, false, false, false, false] =
    some ([(right T S K G Q, Value.int IntKind.i64 (ChartMath.cellOf T S K k o)).fst, decide (ChartMath.cellOf T S K k o ≥ 0), decide (0 ≤ ChartMath.cellOf T S K k o ∧ ChartMath.cellOf T S K k o < ↑l), decide ((0 + (ChartMath.cellOf T S K k o).toNat * 1) < ws.length), true, true, true, true, true, false, false, false, false, false, false, false, false, false, ws.getD ((0 + (ChartMath.cellOf T S K k o).toNat * 1)) 0 != ws.getD ((0 + (ChartMath.cellOf T S K k o).toNat * 1)) 0], (0, [.i (T), .i (S), .i (K), .i (G), .i (Q), .n (l), .n (c), .i (IntKind.i64.wrap (many + 1)), .i (1), .i (k), .i (o), .i (ws.getD ((0 + (ChartMath.cellOf T S K k o).toNat * 1)) 0), .i (ws.getD ((0 + (ChartMath.cellOf T S K k o).toNat * 1)) 0), .b true, .i (ws.getD ((0 + (ChartMath.cellOf T S K k o).toNat * 1)) 0), .ws (ws)])) := by kernel_rfl
theorem rload_way_2 (k o T S K G Q : Int) (l c : Nat) (tk ts to told tnew many : Int) (td : Bool) (ws : List Int) : walk (endF (ev sums9 60 73) RLoadF [.i T, .i S, .i K, .i G, .i Q, .n l, .n c, .i many, .i tk, .i ts, .i to, .i told, .i tnew, .b td, .i k, .i o, .ws ws]) [true, false] =
    some ([(right T S K G Q, Value.int IntKind.i64 (ChartMath.cellOf T S K k o)).fst, decide (ChartMath.cellOf T S K k o ≥ 0)], (0, [.i (T), .i (S), .i (K), .i (G), .i (Q), .n (l), .n (c), .i (IntKind.i64.wrap (many + 1)), .i (1), .i (k), .i (o), .i (0), .i (0), .b false, .i (0), .ws (ws)])) := by kernel_rfl
theorem rst_new (k o v T S K G Q : Int) (l : Nat) (tk ts to told tnew many : Int) (td : Bool) (ws : List Int) : walk (endF (ev sums9 60 43) RStoreF [.i T, .i S, .i K, .i G, .i Q, .n l, .n l, .i many, .i tk, .i ts, .i to, .i told, .i tnew, .b td, .i k, .i o, .i v, .ws ws]) [true, true, true, true, true, true, true, true, true, true, true, true, true, true, true, false, true, false, true, true, true, true] =
    some ([(right T S K G Q, Value.int IntKind.i64 (ChartMath.cellOf T S K k o)).fst, decide ((ChartMath.cellOf T S K k o) ≥ 0), decide (0 ≤ (ChartMath.cellOf T S K k o) ∧ (ChartMath.cellOf T S K k o) < ↑l), decide ((0 + (ChartMath.cellOf T S K k o).toNat * 1) < ws.length), true, true, true, true, true, true, true, true, true, true, true, false, v != ws.getD ((0 + (ChartMath.cellOf T S K k o).toNat * 1)) 0, decide (l = 0), decide (cellOff 0 none + l * 1 ≤ ws.length), decide (0 = 0 ∧ 0 = 0 * 1 ∧ (0 + l) * 8 ≤ 140737488355328 ∧ 0 + l ≤ 4611686018427387904), decide (0 ≤ (ChartMath.cellOf T S K k o) ∧ (ChartMath.cellOf T S K k o) < ↑(0 + l)), decide ((0 + (ChartMath.cellOf T S K k o).toNat * 1) < ([] ++ List.take (l * 1) (List.drop (cellOff 0 none) ws)).length)], (1, [.i T, .i S, .i K, .i G, .i Q, .n (0 + l), .n (0 + l), .i (IntKind.i64.wrap (many + 1)), .i 2, .i k, .i o, .i (ws.getD ((0 + (ChartMath.cellOf T S K k o).toNat * 1)) 0), .i v, .b true, .ws ws, .ws (([] ++ List.take (l * 1) (List.drop (cellOff 0 none) ws)).set ((0 + (ChartMath.cellOf T S K k o).toNat * 1)) v)])) := by kernel_rfl
theorem rst_same (k o v T S K G Q : Int) (l : Nat) (tk ts to told tnew many : Int) (td : Bool) (ws : List Int) : walk (endF (ev sums9 60 43) RStoreF [.i T, .i S, .i K, .i G, .i Q, .n l, .n l, .i many, .i tk, .i ts, .i to, .i told, .i tnew, .b td, .i k, .i o, .i v, .ws ws]) [true, true, true, true, true, true, true, true, true, true, true, true, true, true, true, false, false] =
    some ([(right T S K G Q, Value.int IntKind.i64 (ChartMath.cellOf T S K k o)).fst, decide ((ChartMath.cellOf T S K k o) ≥ 0), decide (0 ≤ (ChartMath.cellOf T S K k o) ∧ (ChartMath.cellOf T S K k o) < ↑l), decide ((0 + (ChartMath.cellOf T S K k o).toNat * 1) < ws.length), true, true, true, true, true, true, true, true, true, true, true, false, v != ws.getD ((0 + (ChartMath.cellOf T S K k o).toNat * 1)) 0], (0, [.i T, .i S, .i K, .i G, .i Q, .n l, .n l, .i (IntKind.i64.wrap (many + 1)), .i 2, .i k, .i o, .i (ws.getD ((0 + (ChartMath.cellOf T S K k o).toNat * 1)) 0), .i v, .b true, .ws ws])) := by kernel_rfl
theorem rst_no (k o v T S K G Q : Int) (l : Nat) (tk ts to told tnew many : Int) (td : Bool) (ws : List Int) : walk (endF (ev sums9 60 43) RStoreF [.i T, .i S, .i K, .i G, .i Q, .n l, .n l, .i many, .i tk, .i ts, .i to, .i told, .i tnew, .b td, .i k, .i o, .i v, .ws ws]) [true, false] =
    some ([(right T S K G Q, Value.int IntKind.i64 (ChartMath.cellOf T S K k o)).fst, decide ((ChartMath.cellOf T S K k o) ≥ 0)], (0, [.i T, .i S, .i K, .i G, .i Q, .n l, .n l, .i (IntKind.i64.wrap (many + 1)), .i 2, .i k, .i o, .i 0, .i 0, .b false, .ws ws])) := by kernel_rfl

def rload_I : List Atom → Prop
  | [.i T, .i S, .i K, .i G, .i Q, .n l, .n c, .i many, .i tk, .i ts, .i to, .i told, .i tnew, .b td, .i k, .i o, .ws ws] => Row T S K G Q l ws
  | _ => False
def rload_out : List Atom → Tree (Nat × List Atom)
  | [.i T, .i S, .i K, .i G, .i Q, .n l, .n c, .i many, .i tk, .i ts, .i to, .i told, .i tnew, .b td, .i k, .i o, .ws ws] => .br (decide (0 ≤ cellOf T S K k o))
    (.leaf (0, [.i T, .i S, .i K, .i G, .i Q, .n l, .n c, .i (IntKind.i64.wrap (many + 1)), .i 1, .i k, .i o, .i (ws.getD (cellOf T S K k o).toNat 0), .i (ws.getD (cellOf T S K k o).toNat 0), .b true, .i (ws.getD (cellOf T S K k o).toNat 0), .ws ws]))
    (.leaf (0, [.i T, .i S, .i K, .i G, .i Q, .n l, .n c, .i (IntKind.i64.wrap (many + 1)), .i 1, .i k, .i o, .i 0, .i 0, .b false, .i 0, .ws ws]))
  | _ => .bad
theorem rload_step (x : List Atom) (h : rload_I x) : ∃ r, (endF (ev sums9 60 73) RLoadF x).get = some r ∧ (rload_out x).get = some r := by
  unfold rload_I at h
  split at h
  · rename_i T S K G Q l c many tk ts to told tnew td k o ws
    obtain ⟨e, hc⟩ := row_cell h k o
    obtain ⟨hR, _, _⟩ := h
    by_cases h0 : 0 ≤ cellOf T S K k o
    · obtain ⟨h1, h2⟩ := hc h0
      have h0' : cellOf T S K k o ≥ 0 := h0
      refine ⟨_, get_walk (rload_way_1 k o T S K G Q l c tk ts to told tnew many td ws) ?_, ?_⟩
      · simp only [hR, Nat.zero_add, Nat.mul_one, decide_eq_true h0', decide_eq_true h1, decide_eq_true h2, bne_self_eq_false]
      · simp only [rload_out, Nat.zero_add, Nat.mul_one, decide_eq_true h0, Tree.get_br, if_true, Tree.get_leaf]
    · have h0' : ¬ cellOf T S K k o ≥ 0 := h0
      refine ⟨_, get_walk (rload_way_2 k o T S K G Q l c tk ts to told tnew many td ws) ?_, ?_⟩
      · simp only [hR, decide_eq_false h0']
      · simp only [rload_out, decide_eq_false h0, Tree.get_br, Bool.false_eq_true, if_false, Tree.get_leaf]
  · exact h.elim
def rstore_I : List Atom → Prop
  | [.i T, .i S, .i K, .i G, .i Q, .n l, .n c, .i many, .i tk, .i ts, .i to, .i told, .i tnew, .b td, .i k, .i o, .i v, .ws ws] => Row T S K G Q l ws ∧ c = l
  | _ => False
def rstore_out : List Atom → Tree (Nat × List Atom)
  | [.i T, .i S, .i K, .i G, .i Q, .n l, .n c, .i many, .i tk, .i ts, .i to, .i told, .i tnew, .b td, .i k, .i o, .i v, .ws ws] => .br (decide (0 ≤ cellOf T S K k o))
    (.br (v != ws.getD (cellOf T S K k o).toNat 0)
      (.leaf (1, [.i T, .i S, .i K, .i G, .i Q, .n l, .n l, .i (IntKind.i64.wrap (many + 1)), .i 2, .i k, .i o, .i (ws.getD (cellOf T S K k o).toNat 0), .i v, .b true, .ws ws, .ws (ws.set (cellOf T S K k o).toNat v)]))
      (.leaf (0, [.i T, .i S, .i K, .i G, .i Q, .n l, .n l, .i (IntKind.i64.wrap (many + 1)), .i 2, .i k, .i o, .i (ws.getD (cellOf T S K k o).toNat 0), .i v, .b true, .ws ws])))
    (.leaf (0, [.i T, .i S, .i K, .i G, .i Q, .n l, .n l, .i (IntKind.i64.wrap (many + 1)), .i 2, .i k, .i o, .i 0, .i 0, .b false, .ws ws]))
  | _ => .bad
theorem rstore_step (x : List Atom) (h : rstore_I x) : ∃ r, (endF (ev sums9 60 43) RStoreF x).get = some r ∧ (rstore_out x).get = some r := by
  unfold rstore_I at h
  split at h
  · rename_i T S K G Q l c many tk ts to told tnew td k o v ws
    obtain ⟨h, rfl⟩ := h
    obtain ⟨e, hc⟩ := row_cell h k o
    obtain ⟨hR, hl, hlen⟩ := h
    obtain ⟨t1, t2, s1, s2, k1, k2, _⟩ := right_iff.1 hR
    have hlo : lenOf T S K = 2 + T + 4 * S + K := rfl
    by_cases h0 : 0 ≤ cellOf T S K k o
    · obtain ⟨h1, h2⟩ := hc h0
      have h0' : cellOf T S K k o ≥ 0 := h0
      by_cases hv : v = ws.getD (cellOf T S K k o).toNat 0
      · have hv' : (v != ws.getD (cellOf T S K k o).toNat 0) = false := by rw [bne_eq_false_iff_eq]; exact hv
        refine ⟨_, get_walk (rst_same k o v T S K G Q c tk ts to told tnew many td ws) ?_, ?_⟩
        · simp only [hR, Nat.zero_add, Nat.mul_one, decide_eq_true h0', decide_eq_true h1, decide_eq_true h2, hv']
        · simp only [rstore_out, Nat.zero_add, Nat.mul_one, decide_eq_true h0, hv', Tree.get_br, if_true, Bool.false_eq_true, if_false, Tree.get_leaf]
      · have hv' : (v != ws.getD (cellOf T S K k o).toNat 0) = true := by rw [bne_iff_ne]; exact hv
        have g1 : ¬ c = 0 := by omega
        have g2 : cellOff 0 none + c * 1 ≤ ws.length := by show 0 + c * 1 ≤ _; omega
        have g3 : (0 : Nat) = 0 ∧ 0 = 0 * 1 ∧ (0 + c) * 8 ≤ 140737488355328 ∧ 0 + c ≤ 4611686018427387904 := by omega
        have g4 : ([] ++ List.take (c * 1) (List.drop (cellOff 0 none) ws)) = ws := by
          show List.take (c * 1) ws = ws
          rw [List.take_of_length_le (by omega)]
        refine ⟨_, get_walk (rst_new k o v T S K G Q c tk ts to told tnew many td ws) ?_, ?_⟩
        · rw [decide_eq_true g3, decide_eq_true g2, g4]
          simp only [hR, Nat.zero_add, Nat.mul_one, decide_eq_true h0', decide_eq_true h1, decide_eq_true h2, decide_eq_false g1, hv']
        · rw [g4]
          simp only [rstore_out, Nat.zero_add, Nat.mul_one, decide_eq_true h0, hv', Tree.get_br, if_true, Tree.get_leaf]
    · have h0' : ¬ cellOf T S K k o ≥ 0 := h0
      refine ⟨_, get_walk (rst_no k o v T S K G Q c tk ts to told tnew many td ws) ?_, ?_⟩
      · simp only [hR, decide_eq_false h0']
      · simp only [rstore_out, decide_eq_false h0, Tree.get_br, Bool.false_eq_true, if_false, Tree.get_leaf]
  · exact h.elim
noncomputable def sumsR : Sums := withForm (withForm sumsM 73 RLoadF rload_I rload_out) 43 RStoreF rstore_I rstore_out
theorem sumsR_ok : SumsOk sumsR := withForm_ok (withForm_ok sumsM_ok sums9_ok 60 (by kernel_rfl) rload_step) sums9_ok 60 (by kernel_rfl) rstore_step
end Go.Proofs.YtifojacfedjedaaGreat.Bound
end

section
namespace Go.Proofs.YtifojacfedjedaaGreat.Bound
open Go.Proofs.YtifojacfedjedaaGreat.Ev Go.Proofs.YtifojacfedjedaaGreat.ChartMath
set_option linter.unusedVariables false
set_option linter.unusedSimpArgs false
def CellsF : FForm := ⟨[.ptr 0 0 none], memB, [⟨[(0, .slice 2 0 none)], 1, memB ++ [(2, 22, .ints .u64)], 3, []⟩]⟩
theorem cells_way_1 (T S K G Q : Int) (l c : Nat) (tk ts to told tnew many : Int) (td : Bool) (ws : List Int) : walk (endF (ev sums9 60 24) CellsF [.i T, .i S, .i K, .i G, .i Q, .n l, .n c, .i tk, .i ts, .i to, .i told, .i tnew, .b td, .i many, .ws ws]) [true, true, true] =
    some ([decide (0 ≤ (l : Int) ∧ (l : Int) ≤ (l : Int) ∧ ((8 : Nat) : Int) * (l : Int) ≤ 2 ^ 48 ∧ (l : Int) < 2 ^ 62), decide (cellOff 0 none + l.min (l : Int).toNat * 1 ≤ ws.length), decide (cellOff 0 (spotOf (Cells.ints IntKind.u64 (List.replicate (l : Int).toNat (0 : Int)))) + (List.take (l.min (l : Int).toNat * 1) (List.drop (cellOff 0 none) ws)).length ≤ (List.replicate (l : Int).toNat (0 : Int)).length)], (0, [.n ((l : Int).toNat), .n ((l : Int).toNat), .i (T), .i (S), .i (K), .i (G), .i (Q), .n (l), .n (c), .i (tk), .i (ts), .i (to), .i (told), .i (tnew), .b (td), .i (many), .ws (ws), .ws (List.take (cellOff 0 (spotOf (Cells.ints IntKind.u64 (List.replicate (l : Int).toNat (0 : Int))))) (List.replicate (l : Int).toNat (0 : Int)) ++ List.take (l.min (l : Int).toNat * 1) (List.drop (cellOff 0 none) ws) ++ List.drop (cellOff 0 (spotOf (Cells.ints IntKind.u64 (List.replicate (l : Int).toNat (0 : Int)))) + (List.take (l.min (l : Int).toNat * 1) (List.drop (cellOff 0 none) ws)).length) (List.replicate (l : Int).toNat (0 : Int)))])) := by kernel_rfl

def cells_I : List Atom → Prop
  | [.i T, .i S, .i K, .i G, .i Q, .n l, .n c, .i tk, .i ts, .i to, .i told, .i tnew, .b td, .i many, .ws ws] => Row T S K G Q l ws
  | _ => False
def cells_out : List Atom → Tree (Nat × List Atom)
  | [.i T, .i S, .i K, .i G, .i Q, .n l, .n c, .i tk, .i ts, .i to, .i told, .i tnew, .b td, .i many, .ws ws] => .leaf (0, [.n l, .n l, .i T, .i S, .i K, .i G, .i Q, .n l, .n c, .i tk, .i ts, .i to, .i told, .i tnew, .b td, .i many, .ws ws, .ws ws])
  | _ => .bad
theorem cells_step (x : List Atom) (h : cells_I x) : ∃ r, (endF (ev sums9 60 24) CellsF x).get = some r ∧ (cells_out x).get = some r := by
  unfold cells_I at h
  split at h
  · rename_i T S K G Q l c tk ts to told tnew td many ws
    obtain ⟨hR, hl, hlen⟩ := h
    obtain ⟨t1, t2, s1, s2, k1, k2, _⟩ := right_iff.1 hR
    have hlo : lenOf T S K = 2 + T + 4 * S + K := rfl
    have e0 : ((l : Int)).toNat = l := by omega
    have e1 : l.min l * 1 = l := by rw [Nat.mul_one]; exact Nat.min_self l
    have e2 : List.take l (List.drop (cellOff 0 none) ws) = ws := by show List.take l ws = ws; exact List.take_of_length_le (by omega)
    have e3 : cellOff 0 (spotOf (Cells.ints IntKind.u64 (List.replicate l 0))) = 0 := rfl
    have g1 : 0 ≤ (l : Int) ∧ (l : Int) ≤ (l : Int) ∧ ((8 : Nat) : Int) * (l : Int) ≤ 2 ^ 48 ∧ (l : Int) < 2 ^ 62 := by omega
    have g2 : cellOff 0 none + l ≤ ws.length := by show 0 + l ≤ _; omega
    have g3 : 0 + ws.length ≤ (List.replicate l (0 : Int)).length := by simp; omega
    refine ⟨_, get_walk (cells_way_1 T S K G Q l c tk ts to told tnew many td ws) ?_, ?_⟩
    · simp only [e0, e1, e2, e3, decide_eq_true g1, decide_eq_true g2, decide_eq_true g3]
    · simp only [e0, e1, e2, e3, cells_out, Tree.get_leaf]
      have e4 : List.take 0 (List.replicate l (0 : Int)) ++ ws ++ List.drop (0 + ws.length) (List.replicate l (0 : Int)) = ws := by
        rw [List.take_zero, List.nil_append, List.drop_eq_nil_of_le (by simp; omega), List.append_nil]
      rw [e4]
  · exact h.elim
noncomputable def sumsC : Sums := withForm sumsR 24 CellsF cells_I cells_out
theorem sumsC_ok : SumsOk sumsC := withForm_ok sumsR_ok sums9_ok 60 (by kernel_rfl) cells_step
end Go.Proofs.YtifojacfedjedaaGreat.Bound
end

section
namespace Go.Proofs.YtifojacfedjedaaGreat.Bound
open Go.Proofs.YtifojacfedjedaaGreat.Ev
set_option linter.unusedVariables false
set_option linter.unusedSimpArgs false
def sB : List (Nat × TypeId × CPat) := [(0, 22, .ints .u64), (1, 22, .ints .u64)]
def SL : LForm := ⟨[0, 1, 5], ⟨[(0, .slice 0 0 none), (1, .slice 1 0 none), (5, .int .i64)], 26, sB, 2, []⟩, [4], [(0, ⟨[], 26, sB, 2, []⟩)], [⟨[(4, .bool)], 26, sB, 2, []⟩]⟩
theorem same_way_1 (l c l' c' : Nat) (k : Int) (ws vs : List Int) : walk (round sums9 60 23 4 2 SL [.n l, .n c, .n l', .n c', .i k, .ws ws, .ws vs]) [true, true, true, true, true, true] =
    some ([decide (k < ↑l), decide (0 ≤ k ∧ k < ↑l), decide ((0 + k.toNat * 1) < ws.length), decide (0 ≤ k ∧ k < ↑l'), decide ((0 + k.toNat * 1) < vs.length), ws.getD ((0 + k.toNat * 1)) 0 != vs.getD ((0 + k.toNat * 1)) 0], (.ret, [.b false, .ws (ws), .ws (vs)])) := by kernel_rfl
theorem same_way_2 (l c l' c' : Nat) (k : Int) (ws vs : List Int) : walk (round sums9 60 23 4 2 SL [.n l, .n c, .n l', .n c', .i k, .ws ws, .ws vs]) [true, true, true, true, true, false] =
    some ([decide (k < ↑l), decide (0 ≤ k ∧ k < ↑l), decide ((0 + k.toNat * 1) < ws.length), decide (0 ≤ k ∧ k < ↑l'), decide ((0 + k.toNat * 1) < vs.length), ws.getD ((0 + k.toNat * 1)) 0 != vs.getD ((0 + k.toNat * 1)) 0], (.normal, [.n (l), .n (c), .n (l'), .n (c'), .i (IntKind.i64.wrap (k + 1)), .ws (ws), .ws (vs)])) := by kernel_rfl
theorem same_way_3 (l c l' c' : Nat) (k : Int) (ws vs : List Int) : walk (round sums9 60 23 4 2 SL [.n l, .n c, .n l', .n c', .i k, .ws ws, .ws vs]) [false] =
    some ([decide (k < ↑l)], (.exit 0, [.ws (ws), .ws (vs)])) := by kernel_rfl

def sameF (ws vs : List Int) : Nat → Int → Bool
  | 0, _ => true
  | n + 1, k => ws.getD k.toNat 0 == vs.getD k.toNat 0 && sameF ws vs n (k + 1)
def same_I : List Atom → Prop
  | [.n l, .n c, .n l', .n c', .i k, .ws ws, .ws vs] => ws.length = l ∧ vs.length = l' ∧ l = l' ∧ 0 ≤ k ∧ l ≤ 100000
  | _ => False
def same_out : List Atom → Tree (Ex × List Atom)
  | [.n l, .n c, .n l', .n c', .i k, .ws ws, .ws vs] => .br (sameF ws vs ((l : Int) - k).toNat k) (.leaf (.exit 0, [.ws ws, .ws vs])) (.leaf (.ret, [.b false, .ws ws, .ws vs]))
  | _ => .bad
def same_m : List Atom → Nat
  | [.n l, .n c, .n l', .n c', .i k, .ws ws, .ws vs] => ((l : Int) - k).toNat
  | _ => 0
theorem same_step (x : List Atom) (hI : same_I x) : ∃ e y, (round sums9 60 23 4 2 SL x).get = some (e, y) ∧ (e = .normal → same_I y ∧ same_m y < same_m x ∧ (same_out y).get = (same_out x).get) ∧ (e ≠ .normal → (same_out x).get = some (e, y)) := by
  unfold same_I at hI
  split at hI
  · rename_i l c l' c' k ws vs
    obtain ⟨hl, hv, hll, h0, hb⟩ := hI
    by_cases hk : k < (l : Int)
    · have h1 : 0 ≤ k ∧ k < (l : Int) := ⟨h0, hk⟩
      have h1' : 0 ≤ k ∧ k < (l' : Int) := by omega
      have h2 : k.toNat < ws.length := by omega
      have h3 : k.toNat < vs.length := by omega
      have hw : IntKind.i64.wrap (k + 1) = k + 1 := by rw [IntKind.wrap_i64]; omega
      have hn : ((l : Int) - k).toNat = ((l : Int) - (k + 1)).toNat + 1 := by omega
      by_cases he : ws.getD k.toNat 0 = vs.getD k.toNat 0
      · refine ⟨_, _, get_walk (same_way_2 l c l' c' k ws vs) ?_, fun _ => ?_, fun h => absurd rfl h⟩
        · have he' : (ws.getD k.toNat 0 != vs.getD k.toNat 0) = false := by rw [bne_eq_false_iff_eq]; exact he
          simp only [Nat.zero_add, Nat.mul_one, decide_eq_true hk, decide_eq_true h1, decide_eq_true h1', decide_eq_true h2, decide_eq_true h3, he']
        · rw [hw]
          refine ⟨⟨hl, hv, hll, by omega, hb⟩, by show ((l : Int) - (k + 1)).toNat < ((l : Int) - k).toNat; omega, ?_⟩
          simp only [same_out, hn, sameF, he, beq_self_eq_true, Bool.true_and]
      · refine ⟨_, _, get_walk (same_way_1 l c l' c' k ws vs) ?_, fun h => (by cases h), fun _ => ?_⟩
        · have he' : (ws.getD k.toNat 0 != vs.getD k.toNat 0) = true := by rw [bne_iff_ne]; exact he
          simp only [Nat.zero_add, Nat.mul_one, decide_eq_true hk, decide_eq_true h1, decide_eq_true h1', decide_eq_true h2, decide_eq_true h3, he']
        · have he' : (ws.getD k.toNat 0 == vs.getD k.toNat 0) = false := by rw [beq_eq_false_iff_ne]; exact he
          simp only [same_out, hn, sameF, he', Bool.false_and, Tree.get_br, Bool.false_eq_true, if_false, Tree.get_leaf]
    · refine ⟨_, _, get_walk (same_way_3 l c l' c' k ws vs) (by rw [decide_eq_false hk]), fun h => (by cases h), fun _ => ?_⟩
      have hn : ((l : Int) - k).toNat = 0 := by omega
      simp only [same_out, hn, sameF, Tree.get_br, if_true, Tree.get_leaf]
  · exact hI.elim
theorem bodySame_is : bodyOf 23 = some ((bodyOf 23).getD .skip) := by kernel_rfl
noncomputable def same_sums : Sums := withLoop sums9 23 4 (lsum 2 SL same_I same_out)
theorem same_ok : SumsOk same_sums := loop_sum sums9_ok same_m bodySame_is (by kernel_rfl) (by decide) same_step
def SameFm : FForm := ⟨[.slice 0 0 none, .slice 1 0 none], sB, [⟨[(0, .bool)], 1, sB, 2, []⟩]⟩
theorem samef_way_1 (l c l' c' : Nat) (ws vs : List Int) : walk (endF (ev same_sums 60 23) SameFm [.n l, .n c, .n l', .n c', .ws ws, .ws vs]) [true] =
    some ([(l : Int) != (l' : Int)], (0, [.b false, .ws (ws), .ws (vs)])) := by kernel_rfl
theorem samef_way_2 (l c l' c' : Nat) (ws vs : List Int) : walk (endF (ev same_sums 60 23) SameFm [.n l, .n c, .n l', .n c', .ws ws, .ws vs]) [false, true, true] =
    some ([(l : Int) != (l' : Int), cdec (same_I ([Atom.n l, Atom.n c] ++ ([Atom.n l', Atom.n c'] ++ ([Atom.i 0] ++ [])) ++ ([Atom.ws ws] ++ ([Atom.ws vs] ++ [])))), Bound.sameF ws vs ((l : Int) - 0).toNat 0], (0, [.b true, .ws (ws), .ws (vs)])) := by kernel_rfl
theorem samef_way_3 (l c l' c' : Nat) (ws vs : List Int) : walk (endF (ev same_sums 60 23) SameFm [.n l, .n c, .n l', .n c', .ws ws, .ws vs]) [false, true, false] =
    some ([(l : Int) != (l' : Int), cdec (same_I ([Atom.n l, Atom.n c] ++ ([Atom.n l', Atom.n c'] ++ ([Atom.i 0] ++ [])) ++ ([Atom.ws ws] ++ ([Atom.ws vs] ++ [])))), Bound.sameF ws vs ((l : Int) - 0).toNat 0], (0, [.b false, .ws (ws), .ws (vs)])) := by kernel_rfl

theorem sameF_iff (ws vs : List Int) : ∀ (n : Nat) (k : Int), 0 ≤ k → (sameF ws vs n k = true ↔ ∀ j : Nat, k.toNat ≤ j → j < k.toNat + n → ws.getD j 0 = vs.getD j 0)
  | 0, k, h0 => by simp [sameF]; intro j h1 h2; omega
  | n + 1, k, h0 => by
    simp only [sameF, Bool.and_eq_true, beq_iff_eq, sameF_iff ws vs n (k + 1) (by omega)]
    have e : (k + 1).toNat = k.toNat + 1 := by omega
    rw [e]
    constructor
    · rintro ⟨h1, h2⟩ j h3 h4
      by_cases hj : j = k.toNat
      · subst hj; exact h1
      · exact h2 j (by omega) (by omega)
    · intro h
      exact ⟨h _ (Nat.le_refl _) (by omega), fun j h1 h2 => h j (by omega) (by omega)⟩
theorem sameF_eq {ws vs : List Int} (h : ws.length = vs.length) : sameF ws vs ws.length 0 = decide (ws = vs) := by
  rw [Bool.eq_iff_iff, sameF_iff ws vs _ 0 (by omega), decide_eq_true_iff]
  constructor
  · intro hj
    apply List.ext_getElem h
    intro i h1 h2
    have := hj i (by simp) (by simpa using h1)
    simpa [List.getD_eq_getElem?_getD, List.getElem?_eq_getElem h1, List.getElem?_eq_getElem h2] using this
  · rintro rfl j _ _
    rfl
def sameG_I : List Atom → Prop
  | [.n l, .n c, .n l', .n c', .ws ws, .ws vs] => ws.length = l ∧ vs.length = l' ∧ l ≤ 100000
  | _ => False
def sameG_out : List Atom → Tree (Nat × List Atom)
  | [.n l, .n c, .n l', .n c', .ws ws, .ws vs] => .leaf (0, [.b (decide (ws = vs)), .ws ws, .ws vs])
  | _ => .bad
theorem sameG_step (x : List Atom) (h : sameG_I x) : ∃ r, (endF (ev same_sums 60 23) SameFm x).get = some r ∧ (sameG_out x).get = some r := by
  unfold sameG_I at h
  split at h
  · rename_i l c l' c' ws vs
    obtain ⟨hl, hv, hb⟩ := h
    by_cases e : l = l'
    · subst e
      have hI : cdec (same_I ([Atom.n l, Atom.n c] ++ ([Atom.n l, Atom.n c'] ++ ([Atom.i 0] ++ [])) ++ ([Atom.ws ws] ++ ([Atom.ws vs] ++ [])))) = true := cdec_true ⟨hl, hv, rfl, by omega, hb⟩
      have hn : ((l : Int) - 0).toNat = ws.length := by omega
      have hs := sameF_eq (ws := ws) (vs := vs) (by omega)
      by_cases hw : ws = vs
      · refine ⟨_, get_walk (samef_way_2 l c l c' ws vs) ?_, by simp only [sameG_out, decide_eq_true hw, Tree.get_leaf]⟩
        rw [hI, hn, hs, decide_eq_true hw, bne_self_eq_false]
      · refine ⟨_, get_walk (samef_way_3 l c l c' ws vs) ?_, by simp only [sameG_out, decide_eq_false hw, Tree.get_leaf]⟩
        rw [hI, hn, hs, decide_eq_false hw, bne_self_eq_false]
    · have hne : ((l : Int) != (l' : Int)) = true := by rw [bne_iff_ne]; omega
      have hw : ¬ ws = vs := by rintro rfl; omega
      exact ⟨_, get_walk (samef_way_1 l c l' c' ws vs) (by rw [hne]), by simp only [sameG_out, decide_eq_false hw, Tree.get_leaf]⟩
  · exact h.elim
noncomputable def sumsS : Sums := withForm sumsC 23 SameFm sameG_I sameG_out
theorem sumsS_ok : SumsOk sumsS := withForm_ok sumsC_ok same_ok 60 (by kernel_rfl) sameG_step
end Go.Proofs.YtifojacfedjedaaGreat.Bound
end

section
namespace Go.Proofs.YtifojacfedjedaaGreat.Bound
open Go.Proofs.YtifojacfedjedaaGreat.Ev
set_option linter.unusedVariables false
set_option linter.unusedSimpArgs false
def rmem2 : Pat := .agg [.int .i64, .int .i64, .int .i64, .int .i64, .int .u64, .slice 2 0 none, .int .i64, .int .i64, .int .i64, .int .i64, .int .u64, .int .u64, .bool]
def AlikeF : FForm := ⟨[.ptr 0 0 none, rmem2], memB ++ [(2, 22, .ints .u64)], [⟨[(0, .bool)], 1, memB ++ [(2, 22, .ints .u64)], 3, []⟩]⟩
theorem alike_way_1 (T S K G Q : Int) (l c : Nat) (tk ts to told tnew many : Int) (td : Bool) (ws vs : List Int) (T' S' K' G' Q' : Int) (l' c' : Nat) (rk rs ro rold rnew rmany : Int) (rd : Bool) : walk (endF (ev sumsS 60 29) AlikeF [.i T', .i S', .i K', .i G', .i Q', .n l', .n c', .i rmany, .i rk, .i rs, .i ro, .i rold, .i rnew, .b rd, .i T, .i S, .i K, .i G, .i Q, .n l, .n c, .i tk, .i ts, .i to, .i told, .i tnew, .b td, .i many, .ws ws, .ws vs]) [true, true, true, true, true, true, true, true, true, true, true] =
    some ([cdec (cells_I ([] ++ [] ++ ([Atom.i T] ++ ([Atom.i S] ++ ([Atom.i K] ++ ([Atom.i G] ++ ([Atom.i Q] ++ ([Atom.n l, Atom.n c] ++ ([Atom.i tk] ++ ([Atom.i ts] ++ ([Atom.i to] ++ ([Atom.i told] ++ ([Atom.i tnew] ++ ([Atom.b td] ++ ([Atom.i many] ++ [])))))))))))) ++ ([Atom.ws ws] ++ [])))), cdec (sameG_I ([Atom.n l, Atom.n l] ++ ([Atom.n l', Atom.n c'] ++ []) ++ ([Atom.ws ws] ++ ([Atom.ws vs] ++ [])))), decide (ws = vs), true, true, true, true, bif true then many == rmany else false, true, true, true], (0, [.b (bif true then tk == rk && (ts == rs && (to == ro && true) && (told == rold && (tnew == rnew && (td == rd && true)))) else false), .i (T), .i (S), .i (K), .i (G), .i (Q), .n (l), .n (c), .i (tk), .i (ts), .i (to), .i (told), .i (tnew), .b (td), .i (many), .ws (ws), .ws (vs)])) := by kernel_rfl
theorem alike_way_2 (T S K G Q : Int) (l c : Nat) (tk ts to told tnew many : Int) (td : Bool) (ws vs : List Int) (T' S' K' G' Q' : Int) (l' c' : Nat) (rk rs ro rold rnew rmany : Int) (rd : Bool) : walk (endF (ev sumsS 60 29) AlikeF [.i T', .i S', .i K', .i G', .i Q', .n l', .n c', .i rmany, .i rk, .i rs, .i ro, .i rold, .i rnew, .b rd, .i T, .i S, .i K, .i G, .i Q, .n l, .n c, .i tk, .i ts, .i to, .i told, .i tnew, .b td, .i many, .ws ws, .ws vs]) [true, true, true, true, true, true, true, false, false, false, false, false] =
    some ([cdec (cells_I ([] ++ [] ++ ([Atom.i T] ++ ([Atom.i S] ++ ([Atom.i K] ++ ([Atom.i G] ++ ([Atom.i Q] ++ ([Atom.n l, Atom.n c] ++ ([Atom.i tk] ++ ([Atom.i ts] ++ ([Atom.i to] ++ ([Atom.i told] ++ ([Atom.i tnew] ++ ([Atom.b td] ++ ([Atom.i many] ++ [])))))))))))) ++ ([Atom.ws ws] ++ [])))), cdec (sameG_I ([Atom.n l, Atom.n l] ++ ([Atom.n l', Atom.n c'] ++ []) ++ ([Atom.ws ws] ++ ([Atom.ws vs] ++ [])))), decide (ws = vs), true, true, true, true, bif true then many == rmany else false, false, false, false, false], (0, [.b false, .i (T), .i (S), .i (K), .i (G), .i (Q), .n (l), .n (c), .i (tk), .i (ts), .i (to), .i (told), .i (tnew), .b (td), .i (many), .ws (ws), .ws (vs)])) := by kernel_rfl
theorem alike_way_3 (T S K G Q : Int) (l c : Nat) (tk ts to told tnew many : Int) (td : Bool) (ws vs : List Int) (T' S' K' G' Q' : Int) (l' c' : Nat) (rk rs ro rold rnew rmany : Int) (rd : Bool) : walk (endF (ev sumsS 60 29) AlikeF [.i T', .i S', .i K', .i G', .i Q', .n l', .n c', .i rmany, .i rk, .i rs, .i ro, .i rold, .i rnew, .b rd, .i T, .i S, .i K, .i G, .i Q, .n l, .n c, .i tk, .i ts, .i to, .i told, .i tnew, .b td, .i many, .ws ws, .ws vs]) [true, true, false, false, false, false, false, false, false, false, false, false, false] =
    some ([cdec (cells_I ([] ++ [] ++ ([Atom.i T] ++ ([Atom.i S] ++ ([Atom.i K] ++ ([Atom.i G] ++ ([Atom.i Q] ++ ([Atom.n l, Atom.n c] ++ ([Atom.i tk] ++ ([Atom.i ts] ++ ([Atom.i to] ++ ([Atom.i told] ++ ([Atom.i tnew] ++ ([Atom.b td] ++ ([Atom.i many] ++ [])))))))))))) ++ ([Atom.ws ws] ++ [])))), cdec (sameG_I ([Atom.n l, Atom.n l] ++ ([Atom.n l', Atom.n c'] ++ []) ++ ([Atom.ws ws] ++ ([Atom.ws vs] ++ [])))), decide (ws = vs), false, false, false, false, false, false, false, false, false, false], (0, [.b false, .i (T), .i (S), .i (K), .i (G), .i (Q), .n (l), .n (c), .i (tk), .i (ts), .i (to), .i (told), .i (tnew), .b (td), .i (many), .ws (ws), .ws (vs)])) := by kernel_rfl

def alike_I : List Atom → Prop
  | [.i T', .i S', .i K', .i G', .i Q', .n l', .n c', .i rmany, .i rk, .i rs, .i ro, .i rold, .i rnew, .b rd, .i T, .i S, .i K, .i G, .i Q, .n l, .n c, .i tk, .i ts, .i to, .i told, .i tnew, .b td, .i many, .ws ws, .ws vs] => Row T S K G Q l ws ∧ vs.length = l'
  | _ => False
def alike_out : List Atom → Tree (Nat × List Atom)
  | [.i T', .i S', .i K', .i G', .i Q', .n l', .n c', .i rmany, .i rk, .i rs, .i ro, .i rold, .i rnew, .b rd, .i T, .i S, .i K, .i G, .i Q, .n l, .n c, .i tk, .i ts, .i to, .i told, .i tnew, .b td, .i many, .ws ws, .ws vs] =>
    .leaf (0, [.b (decide (ws = vs) && (many == rmany && (tk == rk && (ts == rs && (to == ro && true) && (told == rold && (tnew == rnew && (td == rd && true))))))), .i T, .i S, .i K, .i G, .i Q, .n l, .n c, .i tk, .i ts, .i to, .i told, .i tnew, .b td, .i many, .ws ws, .ws vs])
  | _ => .bad
theorem alike_step (x : List Atom) (h : alike_I x) : ∃ r, (endF (ev sumsS 60 29) AlikeF x).get = some r ∧ (alike_out x).get = some r := by
  unfold alike_I at h
  split at h
  · rename_i T' S' K' G' Q' l' c' rmany rk rs ro rold rnew rd T S K G Q l c tk ts to told tnew td many ws vs
    obtain ⟨hr, hv⟩ := h
    have hb : l ≤ 100000 := by
      obtain ⟨hR, h1, h2⟩ := hr
      obtain ⟨t1, t2, s1, s2, k1, k2, _⟩ := right_iff.1 hR
      have hlo : ChartMath.lenOf T S K = 2 + T + 4 * S + K := rfl
      omega
    have c1 : cdec (cells_I ([] ++ [] ++ ([Atom.i T] ++ ([Atom.i S] ++ ([Atom.i K] ++ ([Atom.i G] ++ ([Atom.i Q] ++ ([Atom.n l, Atom.n c] ++ ([Atom.i tk] ++ ([Atom.i ts] ++ ([Atom.i to] ++ ([Atom.i told] ++ ([Atom.i tnew] ++ ([Atom.b td] ++ ([Atom.i many] ++ [])))))))))))) ++ ([Atom.ws ws] ++ [])))) = true := cdec_true hr
    have c2 : cdec (sameG_I ([Atom.n l, Atom.n l] ++ ([Atom.n l', Atom.n c'] ++ []) ++ ([Atom.ws ws] ++ ([Atom.ws vs] ++ [])))) = true := cdec_true ⟨hr.2.1, hv, hb⟩
    by_cases e : ws = vs
    · by_cases m : many = rmany
      · have m' : (many == rmany) = true := by rw [beq_iff_eq]; exact m
        refine ⟨_, get_walk (alike_way_1 T S K G Q l c tk ts to told tnew many td ws vs T' S' K' G' Q' l' c' rk rs ro rold rnew rmany rd) (by rw [c1, c2, decide_eq_true e, m']; rfl), ?_⟩
        simp only [alike_out, decide_eq_true e, m', Bool.true_and, cond_true, Tree.get_leaf]
      · have m' : (many == rmany) = false := by rw [beq_eq_false_iff_ne]; exact m
        refine ⟨_, get_walk (alike_way_2 T S K G Q l c tk ts to told tnew many td ws vs T' S' K' G' Q' l' c' rk rs ro rold rnew rmany rd) (by rw [c1, c2, decide_eq_true e, m']; rfl), ?_⟩
        simp only [alike_out, decide_eq_true e, m', Bool.true_and, Bool.false_and, Tree.get_leaf]
    · refine ⟨_, get_walk (alike_way_3 T S K G Q l c tk ts to told tnew many td ws vs T' S' K' G' Q' l' c' rk rs ro rold rnew rmany rd) (by rw [c1, c2, decide_eq_false e]), ?_⟩
      simp only [alike_out, decide_eq_false e, Bool.false_and, Tree.get_leaf]
  · exact h.elim
noncomputable def sumsL : Sums := withForm sumsS 29 AlikeF alike_I alike_out
theorem sumsL_ok : SumsOk sumsL := withForm_ok sumsS_ok sumsS_ok 60 (by kernel_rfl) alike_step
end Go.Proofs.YtifojacfedjedaaGreat.Bound
end

section
namespace Go.Proofs.YtifojacfedjedaaGreat.Bound
open Go.Proofs.YtifojacfedjedaaGreat.Ev Go.Proofs.YtifojacfedjedaaGreat.ChartMath
set_option linter.unusedVariables false
set_option linter.unusedSimpArgs false
def rmem3 : Pat := .agg [.int .i64, .int .i64, .int .i64, .int .i64, .int .u64, .slice 3 0 none, .int .i64, .int .i64, .int .i64, .int .i64, .int .u64, .int .u64, .bool]
def rmemN : Pat := .agg [.int .i64, .int .i64, .int .i64, .int .i64, .int .u64, .nilSlice, .int .i64, .int .i64, .int .i64, .int .i64, .int .u64, .int .u64, .bool]
def memC2 : CPat := .vals [.int .i64, .int .i64, .int .i64, .int .i64, .int .u64, .slice 2 0 none, .int .i64, .int .i64, .int .i64, .int .u64, .int .u64, .bool, .int .i64]
def OfF : FForm := ⟨[.agg [.int .i64, .int .i64, .int .i64, .int .i64, .int .u64], .slice 0 0 none], [(0, winT, .ints .u64)], [⟨[(0, .tuple [.ptr 1 0 none, rmem3, .bool])], 1, [(0, winT, .ints .u64), (1, 126, memC2), (2, 22, .ints .u64), (3, 22, .ints .u64)], 4, []⟩, ⟨[(0, .tuple [.nilPtr, rmemN, .bool])], 1, [(0, winT, .ints .u64)], 1, []⟩]⟩
theorem of_way_1 (T S K G Q : Int) (l c : Nat) (ws : List Int) : walk (endF (ev sumsL 60 22) OfF [.i T, .i S, .i K, .i G, .i Q, .n l, .n c, .ws ws]) [true, true, true, true, true, true, true] =
    some ([!right T S K G Q, true, true, true, true, true, true], (1, [.i (0), .i (0), .i (0), .i (0), .i (0), .i (0), .i (0), .i (0), .i (0), .i (0), .i (0), .b false, .b false, .ws (ws)])) := by kernel_rfl
theorem of_way_2 (T S K G Q : Int) (l c : Nat) (ws : List Int) : walk (endF (ev sumsL 60 22) OfF [.i T, .i S, .i K, .i G, .i Q, .n l, .n c, .ws ws]) [false, false, false, false, false, true] =
    some ([!right T S K G Q, false, false, false, false, bif false then true else (l : Int) != lenA T S K G Q], (1, [.i (0), .i (0), .i (0), .i (0), .i (0), .i (0), .i (0), .i (0), .i (0), .i (0), .i (0), .b false, .b false, .ws (ws)])) := by kernel_rfl
theorem of_way_4 (T S K G Q : Int) (l c : Nat) (ws : List Int) : walk (endF (ev sumsL 60 22) OfF [.i T, .i S, .i K, .i G, .i Q, .n l, .n c, .ws ws]) [false, false, false, false, false, false, false, false, false, false, false, true, true, true, false, true, true, true, true] =
    some ([!right T S K G Q, false, false, false, false, bif false then true else (l : Int) != lenA T S K G Q, lenA T S K G Q == 0, false, false, false, bif false then true else (l : Int) != lenA T S K G Q, decide (0 ≤ (l : Int) ∧ (l : Int) ≤ (l : Int) ∧ ((8 : Nat) : Int) * (l : Int) ≤ 2 ^ 48 ∧ (l : Int) < 2 ^ 62), decide (cellOff 0 none + l.min (l : Int).toNat * 1 ≤ ws.length), decide (cellOff 0 (spotOf (Cells.ints IntKind.u64 (List.replicate (l : Int).toNat (0 : Int)))) + (List.take (l.min (l : Int).toNat * 1) (List.drop (cellOff 0 none) ws)).length ≤ (List.replicate (l : Int).toNat (0 : Int)).length), decide (l = 0), decide (cellOff 0 none + l * 1 ≤ ws.length), decide (0 = 0 ∧ 0 = 0 * 1 ∧ (0 + l) * 8 ≤ 140737488355328 ∧ 0 + l ≤ 4611686018427387904), true, true], (0, [.i (T), .i (S), .i (K), .i (G), .i (Q), .n (0 + l), .n (0 + l), .i (0), .i (0), .i (0), .i (0), .i (0), .i (0), .b false, .b true, .ws (ws), .i (T), .i (S), .i (K), .i (G), .i (Q), .n ((l : Int).toNat), .n ((l : Int).toNat), .i (0), .i (0), .i (0), .i (0), .i (0), .b false, .i (0), .ws (List.take (cellOff 0 (spotOf (Cells.ints IntKind.u64 (List.replicate (l : Int).toNat (0 : Int))))) (List.replicate (l : Int).toNat (0 : Int)) ++ List.take (l.min (l : Int).toNat * 1) (List.drop (cellOff 0 none) ws) ++ List.drop (cellOff 0 (spotOf (Cells.ints IntKind.u64 (List.replicate (l : Int).toNat (0 : Int)))) + (List.take (l.min (l : Int).toNat * 1) (List.drop (cellOff 0 none) ws)).length) (List.replicate (l : Int).toNat (0 : Int))), .ws ([] ++ List.take (l * 1) (List.drop (cellOff 0 none) ws))])) := by kernel_rfl

def isRow (T S K G Q : Int) (l : Nat) : Bool := right T S K G Q && decide ((l : Int) = lenOf T S K)
def of_I : List Atom → Prop
  | [.i T, .i S, .i K, .i G, .i Q, .n l, .n c, .ws ws] => ws.length = l
  | _ => False
def of_out : List Atom → Tree (Nat × List Atom)
  | [.i T, .i S, .i K, .i G, .i Q, .n l, .n c, .ws ws] => .br (isRow T S K G Q l)
    (.leaf (0, [.i T, .i S, .i K, .i G, .i Q, .n l, .n l, .i 0, .i 0, .i 0, .i 0, .i 0, .i 0, .b false, .b true, .ws ws, .i T, .i S, .i K, .i G, .i Q, .n l, .n l, .i 0, .i 0, .i 0, .i 0, .i 0, .b false, .i 0, .ws ws, .ws ws]))
    (.leaf (1, [.i 0, .i 0, .i 0, .i 0, .i 0, .i 0, .i 0, .i 0, .i 0, .i 0, .i 0, .b false, .b false, .ws ws]))
  | _ => .bad
theorem of_step (x : List Atom) (h : of_I x) : ∃ r, (endF (ev sumsL 60 22) OfF x).get = some r ∧ (of_out x).get = some r := by
  unfold of_I at h
  split at h
  · rename_i T S K G Q l c ws
    cases hR : right T S K G Q with
    | false =>
      refine ⟨_, get_walk (of_way_1 T S K G Q l c ws) (by rw [hR]; rfl), ?_⟩
      simp only [of_out, isRow, hR, Bool.false_and, Tree.get_br, Bool.false_eq_true, if_false, Tree.get_leaf]
    | true =>
      have hA : lenA T S K G Q = lenOf T S K := by simp [lenA, hR]
      obtain ⟨t1, t2, s1, s2, k1, k2, _⟩ := right_iff.1 hR
      have hlo : lenOf T S K = 2 + T + 4 * S + K := rfl
      by_cases hl : (l : Int) = lenOf T S K
      · have e0 : ((l : Int)).toNat = l := by omega
        have e1 : l.min l * 1 = l := by rw [Nat.mul_one]; exact Nat.min_self l
        have e2 : List.take l (List.drop (cellOff 0 none) ws) = ws := by show List.take l ws = ws; exact List.take_of_length_le (by omega)
        have e3 : cellOff 0 (spotOf (Cells.ints IntKind.u64 (List.replicate l 0))) = 0 := rfl
        have g1 : 0 ≤ (l : Int) ∧ (l : Int) ≤ (l : Int) ∧ ((8 : Nat) : Int) * (l : Int) ≤ 2 ^ 48 ∧ (l : Int) < 2 ^ 62 := by omega
        have g2 : cellOff 0 none + l ≤ ws.length := by show 0 + l ≤ _; omega
        have g3 : 0 + ws.length ≤ (List.replicate l (0 : Int)).length := by simp; omega
        have g4 : ¬ l = 0 := by omega
        have g5 : (0 : Nat) = 0 ∧ 0 = 0 * 1 ∧ (0 + l) * 8 ≤ 140737488355328 ∧ 0 + l ≤ 4611686018427387904 := by omega
        have g6 : (lenA T S K G Q == 0) = false := by rw [hA, beq_eq_false_iff_ne]; omega
        have g7 : ((l : Int) != lenA T S K G Q) = false := by rw [hA, hl]; exact bne_self_eq_false _
        have e4 : List.take 0 (List.replicate l (0 : Int)) ++ ws ++ List.drop (0 + ws.length) (List.replicate l (0 : Int)) = ws := by
          rw [List.take_zero, List.nil_append, List.drop_eq_nil_of_le (by simp; omega), List.append_nil]
        refine ⟨_, get_walk (of_way_4 T S K G Q l c ws) ?_, ?_⟩
        · rw [decide_eq_true g5]
          simp only [e0, e1, e2, e3, Nat.mul_one, decide_eq_true g1, decide_eq_true g2, decide_eq_true g3, decide_eq_false g4, g6, g7, hR, cond_false, Bool.not_true]
        · simp only [of_out, isRow, hR, Bool.true_and, decide_eq_true hl, Tree.get_br, if_true, Tree.get_leaf, e0, e1, e2, e3, e4, Nat.mul_one, Nat.zero_add, List.nil_append]
          rw [show List.take 0 (List.replicate l (0 : Int)) ++ ws ++ List.drop ws.length (List.replicate l (0 : Int)) = ws from by rw [← e4]; simp [e4]; omega]
      · have g7 : ((l : Int) != lenA T S K G Q) = true := by rw [hA, bne_iff_ne]; exact hl
        refine ⟨_, get_walk (of_way_2 T S K G Q l c ws) (by simp only [hR, g7, cond_false, Bool.not_true]), ?_⟩
        simp only [of_out, isRow, hR, decide_eq_false hl, Bool.and_false, Tree.get_br, Bool.false_eq_true, if_false, Tree.get_leaf]
  · exact h.elim
noncomputable def sumsO : Sums := withForm sumsL 22 OfF of_I of_out
theorem sumsO_ok : SumsOk sumsO := withForm_ok sumsL_ok sumsL_ok 60 (by kernel_rfl) of_step
end Go.Proofs.YtifojacfedjedaaGreat.Bound
end

section
namespace Go.Proofs.YtifojacfedjedaaGreat.Bound
open Go.Proofs.YtifojacfedjedaaGreat.Ev Go.Proofs.YtifojacfedjedaaGreat.ChartMath
set_option linter.unusedVariables false
set_option linter.unusedSimpArgs false
/-- The words, how many accesses there were, and the last one. -/
structure MS where
  ws : List Int
  many : Int
  tk : Int
  ts : Int
  to : Int
  told : Int
  tnew : Int
  td : Bool
/-- Whether there are as many words as there are cells. -/
def rowB (T S K G Q : Int) (l : Nat) (s : MS) : Bool := right T S K G Q && (Nat.beq s.ws.length l && decide ((l : Int) = lenOf T S K))
/-- A spot's word. -/
def mat (T S K : Int) (s : MS) (k o : Int) : Int := if 0 ≤ cellOf T S K k o then s.ws.getD (cellOf T S K k o).toNat 0 else 0
def mload (T S K : Int) (s : MS) (k o : Int) : MS := ⟨s.ws, IntKind.i64.wrap (s.many + 1), 1, k, o, mat T S K s k o, mat T S K s k o, decide (0 ≤ cellOf T S K k o)⟩
/-- The words with another one somewhere. -/
def mset (T S K : Int) (s : MS) (k o v : Int) : List Int := if 0 ≤ cellOf T S K k o then s.ws.set (cellOf T S K k o).toNat v else s.ws
def mstore (T S K : Int) (s : MS) (k o v : Int) : MS := ⟨mset T S K s k o v, IntKind.i64.wrap (s.many + 1), 2, k, o, mat T S K s k o, if 0 ≤ cellOf T S K k o then v else 0, decide (0 ≤ cellOf T S K k o)⟩
theorem rowB_row {T S K G Q : Int} {l : Nat} {s : MS} (h : rowB T S K G Q l s = true) : Row T S K G Q l s.ws := by
  simp only [rowB, Bool.and_eq_true, decide_eq_true_eq] at h
  exact ⟨h.1, Nat.eq_of_beq_eq_true h.2.1, h.2.2⟩
theorem row_rowB {T S K G Q : Int} {l : Nat} {s : MS} (h : Row T S K G Q l s.ws) : rowB T S K G Q l s = true := by
  obtain ⟨h1, h2, h3⟩ := h
  simp only [rowB, Bool.and_eq_true, decide_eq_true_eq]
  exact ⟨h1, by rw [h2]; exact Nat.beq_refl _, h3⟩
theorem mset_length (T S K : Int) (s : MS) (k o v : Int) : (mset T S K s k o v).length = s.ws.length := by
  unfold mset
  split <;> simp
theorem rowB_load {T S K G Q : Int} {l : Nat} {s : MS} {k o : Int} : rowB T S K G Q l (mload T S K s k o) = rowB T S K G Q l s := rfl
theorem rowB_store {T S K G Q : Int} {l : Nat} {s : MS} {k o v : Int} : rowB T S K G Q l (mstore T S K s k o v) = rowB T S K G Q l s := by
  simp only [rowB, mstore, mset_length]
def load_t : List Atom → Tree (Nat × List Atom)
  | [.i k, .i o, .i T, .i S, .i K, .i G, .i Q, .n l, .n c, .i tk, .i ts, .i to, .i told, .i tnew, .b td, .i many, .ws ws] => .br (rowB T S K G Q l ⟨ws, many, tk, ts, to, told, tnew, td⟩)
    (.leaf (0, [.i (mat T S K ⟨ws, many, tk, ts, to, told, tnew, td⟩ k o), .i T, .i S, .i K, .i G, .i Q, .n l, .n c, .i (mload T S K ⟨ws, many, tk, ts, to, told, tnew, td⟩ k o).tk, .i (mload T S K ⟨ws, many, tk, ts, to, told, tnew, td⟩ k o).ts, .i (mload T S K ⟨ws, many, tk, ts, to, told, tnew, td⟩ k o).to, .i (mload T S K ⟨ws, many, tk, ts, to, told, tnew, td⟩ k o).told, .i (mload T S K ⟨ws, many, tk, ts, to, told, tnew, td⟩ k o).tnew, .b (mload T S K ⟨ws, many, tk, ts, to, told, tnew, td⟩ k o).td, .i (mload T S K ⟨ws, many, tk, ts, to, told, tnew, td⟩ k o).many, .ws (mload T S K ⟨ws, many, tk, ts, to, told, tnew, td⟩ k o).ws])) .bad
  | _ => .bad
theorem load_st (x : List Atom) (r : Nat × List Atom) (h : (load_t x).get = some r) : (endF (ev sums9 60 15) LoadF x).get = some r := by
  unfold load_t at h
  split at h
  · rename_i k o T S K G Q l c tk ts to told tnew td many ws
    rw [Tree.get_br] at h
    split at h
    case isFalse => cases h
    case isTrue hR =>
    simp only [Tree.get_leaf, Option.some.injEq] at h
    subst h
    obtain ⟨e, hc⟩ := row_cell (rowB_row hR) k o
    by_cases h0 : 0 ≤ cellOf T S K k o
    · obtain ⟨h1, h2⟩ := hc h0
      have h0' : cellOf T S K k o ≥ 0 := h0
      have g := get_walk (mload_way_1 k o T S K G Q l c tk ts to told tnew many td ws) (by simp only [e, Nat.zero_add, Nat.mul_one, decide_eq_true h0', decide_eq_true h1, decide_eq_true h2])
      rw [g]
      simp only [mload, mat, if_pos h0, e, Nat.zero_add, Nat.mul_one, decide_eq_true h0, set_same h2]
    · have h0' : ¬ cellOf T S K k o ≥ 0 := h0
      have g := get_walk (mload_way_2 k o T S K G Q l c tk ts to told tnew many td ws) (by simp only [e, decide_eq_false h0'])
      rw [g]
      simp only [mload, mat, if_neg h0, decide_eq_false h0]
  · cases h
def store_t : List Atom → Tree (Nat × List Atom)
  | [.i k, .i o, .i v, .i T, .i S, .i K, .i G, .i Q, .n l, .n c, .i tk, .i ts, .i to, .i told, .i tnew, .b td, .i many, .ws ws] => .br (rowB T S K G Q l ⟨ws, many, tk, ts, to, told, tnew, td⟩)
    (.leaf (0, [.i T, .i S, .i K, .i G, .i Q, .n l, .n c, .i (mstore T S K ⟨ws, many, tk, ts, to, told, tnew, td⟩ k o v).tk, .i (mstore T S K ⟨ws, many, tk, ts, to, told, tnew, td⟩ k o v).ts, .i (mstore T S K ⟨ws, many, tk, ts, to, told, tnew, td⟩ k o v).to, .i (mstore T S K ⟨ws, many, tk, ts, to, told, tnew, td⟩ k o v).told, .i (mstore T S K ⟨ws, many, tk, ts, to, told, tnew, td⟩ k o v).tnew, .b (mstore T S K ⟨ws, many, tk, ts, to, told, tnew, td⟩ k o v).td, .i (mstore T S K ⟨ws, many, tk, ts, to, told, tnew, td⟩ k o v).many, .ws (mstore T S K ⟨ws, many, tk, ts, to, told, tnew, td⟩ k o v).ws])) .bad
  | _ => .bad
theorem store_st (x : List Atom) (r : Nat × List Atom) (h : (store_t x).get = some r) : (endF (ev sums9 60 42) StoreF x).get = some r := by
  unfold store_t at h
  split at h
  · rename_i k o v T S K G Q l c tk ts to told tnew td many ws
    rw [Tree.get_br] at h
    split at h
    case isFalse => cases h
    case isTrue hR =>
    simp only [Tree.get_leaf, Option.some.injEq] at h
    subst h
    obtain ⟨e, hc⟩ := row_cell (rowB_row hR) k o
    by_cases h0 : 0 ≤ cellOf T S K k o
    · obtain ⟨h1, h2⟩ := hc h0
      have h0' : cellOf T S K k o ≥ 0 := h0
      have g := get_walk (mstore_way_1 k o v T S K G Q l c tk ts to told tnew many td ws) (by simp only [e, Nat.zero_add, Nat.mul_one, decide_eq_true h0', decide_eq_true h1, decide_eq_true h2])
      rw [g]
      simp only [mstore, mset, mat, if_pos h0, e, Nat.zero_add, Nat.mul_one, decide_eq_true h0]
    · have h0' : ¬ cellOf T S K k o ≥ 0 := h0
      have g := get_walk (mstore_way_2 k o v T S K G Q l c tk ts to told tnew many td ws) (by simp only [e, decide_eq_false h0'])
      rw [g]
      simp only [mstore, mset, mat, if_neg h0, decide_eq_false h0]
  · cases h
def rload_t : List Atom → Tree (Nat × List Atom)
  | [.i T, .i S, .i K, .i G, .i Q, .n l, .n c, .i many, .i tk, .i ts, .i to, .i told, .i tnew, .b td, .i k, .i o, .ws ws] => .br (rowB T S K G Q l ⟨ws, many, tk, ts, to, told, tnew, td⟩)
    (.leaf (0, [.i T, .i S, .i K, .i G, .i Q, .n l, .n c, .i (mload T S K ⟨ws, many, tk, ts, to, told, tnew, td⟩ k o).many, .i (mload T S K ⟨ws, many, tk, ts, to, told, tnew, td⟩ k o).tk, .i (mload T S K ⟨ws, many, tk, ts, to, told, tnew, td⟩ k o).ts, .i (mload T S K ⟨ws, many, tk, ts, to, told, tnew, td⟩ k o).to, .i (mload T S K ⟨ws, many, tk, ts, to, told, tnew, td⟩ k o).told, .i (mload T S K ⟨ws, many, tk, ts, to, told, tnew, td⟩ k o).tnew, .b (mload T S K ⟨ws, many, tk, ts, to, told, tnew, td⟩ k o).td, .i (mat T S K ⟨ws, many, tk, ts, to, told, tnew, td⟩ k o), .ws (mload T S K ⟨ws, many, tk, ts, to, told, tnew, td⟩ k o).ws])) .bad
  | _ => .bad
theorem rload_st (x : List Atom) (r : Nat × List Atom) (h : (rload_t x).get = some r) : (endF (ev sums9 60 73) RLoadF x).get = some r := by
  unfold rload_t at h
  split at h
  · rename_i T S K G Q l c many tk ts to told tnew td k o ws
    rw [Tree.get_br] at h
    split at h
    case isFalse => cases h
    case isTrue hR =>
    simp only [Tree.get_leaf, Option.some.injEq] at h
    subst h
    have hrow := rowB_row hR
    obtain ⟨e, hc⟩ := row_cell hrow k o
    have hRR := hrow.1
    by_cases h0 : 0 ≤ cellOf T S K k o
    · obtain ⟨h1, h2⟩ := hc h0
      have h0' : cellOf T S K k o ≥ 0 := h0
      have g := get_walk (rload_way_1 k o T S K G Q l c tk ts to told tnew many td ws) (by simp only [hRR, Nat.zero_add, Nat.mul_one, decide_eq_true h0', decide_eq_true h1, decide_eq_true h2, bne_self_eq_false])
      rw [g]
      simp only [mload, mat, if_pos h0, Nat.zero_add, Nat.mul_one, decide_eq_true h0]
    · have h0' : ¬ cellOf T S K k o ≥ 0 := h0
      have g := get_walk (rload_way_2 k o T S K G Q l c tk ts to told tnew many td ws) (by simp only [hRR, decide_eq_false h0'])
      rw [g]
      simp only [mload, mat, if_neg h0, decide_eq_false h0]
  · cases h
/-- What is stored: the row of words is a new one, whether it is another one or not. -/
def RStoreT : FForm := ⟨[rmem, .int .i64, .int .i64, .int .u64], RB, [⟨[(0, rmem1)], 1, [(1, 22, .ints .u64)], 2, [0]⟩]⟩
theorem rstT_new (k o v T S K G Q : Int) (l : Nat) (tk ts to told tnew many : Int) (td : Bool) (ws : List Int) : walk (endF (ev sums9 60 43) RStoreT [.i T, .i S, .i K, .i G, .i Q, .n l, .n l, .i many, .i tk, .i ts, .i to, .i told, .i tnew, .b td, .i k, .i o, .i v, .ws ws]) [true, true, true, true, true, true, true, true, true, true, true, true, true, true, true, false, true, false, true, true, true, true] =
    some ([(right T S K G Q, Value.int IntKind.i64 (ChartMath.cellOf T S K k o)).fst, decide ((ChartMath.cellOf T S K k o) ≥ 0), decide (0 ≤ (ChartMath.cellOf T S K k o) ∧ (ChartMath.cellOf T S K k o) < ↑l), decide ((0 + (ChartMath.cellOf T S K k o).toNat * 1) < ws.length), true, true, true, true, true, true, true, true, true, true, true, false, v != ws.getD ((0 + (ChartMath.cellOf T S K k o).toNat * 1)) 0, decide (l = 0), decide (cellOff 0 none + l * 1 ≤ ws.length), decide (0 = 0 ∧ 0 = 0 * 1 ∧ (0 + l) * 8 ≤ 140737488355328 ∧ 0 + l ≤ 4611686018427387904), decide (0 ≤ (ChartMath.cellOf T S K k o) ∧ (ChartMath.cellOf T S K k o) < ↑(0 + l)), decide ((0 + (ChartMath.cellOf T S K k o).toNat * 1) < ([] ++ List.take (l * 1) (List.drop (cellOff 0 none) ws)).length)], (0, [.i T, .i S, .i K, .i G, .i Q, .n (0 + l), .n (0 + l), .i (IntKind.i64.wrap (many + 1)), .i 2, .i k, .i o, .i (ws.getD ((0 + (ChartMath.cellOf T S K k o).toNat * 1)) 0), .i v, .b true, .ws (([] ++ List.take (l * 1) (List.drop (cellOff 0 none) ws)).set ((0 + (ChartMath.cellOf T S K k o).toNat * 1)) v)])) := by kernel_rfl
theorem rstT_same (k o v T S K G Q : Int) (l : Nat) (tk ts to told tnew many : Int) (td : Bool) (ws : List Int) : walk (endF (ev sums9 60 43) RStoreT [.i T, .i S, .i K, .i G, .i Q, .n l, .n l, .i many, .i tk, .i ts, .i to, .i told, .i tnew, .b td, .i k, .i o, .i v, .ws ws]) [true, true, true, true, true, true, true, true, true, true, true, true, true, true, true, false, false] =
    some ([(right T S K G Q, Value.int IntKind.i64 (ChartMath.cellOf T S K k o)).fst, decide ((ChartMath.cellOf T S K k o) ≥ 0), decide (0 ≤ (ChartMath.cellOf T S K k o) ∧ (ChartMath.cellOf T S K k o) < ↑l), decide ((0 + (ChartMath.cellOf T S K k o).toNat * 1) < ws.length), true, true, true, true, true, true, true, true, true, true, true, false, v != ws.getD ((0 + (ChartMath.cellOf T S K k o).toNat * 1)) 0], (0, [.i T, .i S, .i K, .i G, .i Q, .n l, .n l, .i (IntKind.i64.wrap (many + 1)), .i 2, .i k, .i o, .i (ws.getD ((0 + (ChartMath.cellOf T S K k o).toNat * 1)) 0), .i v, .b true, .ws ws])) := by kernel_rfl
theorem rstT_no (k o v T S K G Q : Int) (l : Nat) (tk ts to told tnew many : Int) (td : Bool) (ws : List Int) : walk (endF (ev sums9 60 43) RStoreT [.i T, .i S, .i K, .i G, .i Q, .n l, .n l, .i many, .i tk, .i ts, .i to, .i told, .i tnew, .b td, .i k, .i o, .i v, .ws ws]) [true, false] =
    some ([(right T S K G Q, Value.int IntKind.i64 (ChartMath.cellOf T S K k o)).fst, decide ((ChartMath.cellOf T S K k o) ≥ 0)], (0, [.i T, .i S, .i K, .i G, .i Q, .n l, .n l, .i (IntKind.i64.wrap (many + 1)), .i 2, .i k, .i o, .i 0, .i 0, .b false, .ws ws])) := by kernel_rfl
def rstore_t : List Atom → Tree (Nat × List Atom)
  | [.i T, .i S, .i K, .i G, .i Q, .n l, .n c, .i many, .i tk, .i ts, .i to, .i told, .i tnew, .b td, .i k, .i o, .i v, .ws ws] => .br (rowB T S K G Q l ⟨ws, many, tk, ts, to, told, tnew, td⟩ && Nat.beq c l)
    (.leaf (0, [.i T, .i S, .i K, .i G, .i Q, .n l, .n l, .i (mstore T S K ⟨ws, many, tk, ts, to, told, tnew, td⟩ k o v).many, .i (mstore T S K ⟨ws, many, tk, ts, to, told, tnew, td⟩ k o v).tk, .i (mstore T S K ⟨ws, many, tk, ts, to, told, tnew, td⟩ k o v).ts, .i (mstore T S K ⟨ws, many, tk, ts, to, told, tnew, td⟩ k o v).to, .i (mstore T S K ⟨ws, many, tk, ts, to, told, tnew, td⟩ k o v).told, .i (mstore T S K ⟨ws, many, tk, ts, to, told, tnew, td⟩ k o v).tnew, .b (mstore T S K ⟨ws, many, tk, ts, to, told, tnew, td⟩ k o v).td, .ws (mstore T S K ⟨ws, many, tk, ts, to, told, tnew, td⟩ k o v).ws])) .bad
  | _ => .bad
theorem rstore_st (x : List Atom) (r : Nat × List Atom) (h : (rstore_t x).get = some r) : (endF (ev sums9 60 43) RStoreT x).get = some r := by
  unfold rstore_t at h
  split at h
  · rename_i T S K G Q l c many tk ts to told tnew td k o v ws
    rw [Tree.get_br] at h
    split at h
    case isFalse => cases h
    case isTrue hR =>
    simp only [Tree.get_leaf, Option.some.injEq] at h
    subst h
    simp only [Bool.and_eq_true] at hR
    obtain ⟨hR, hcl⟩ := hR
    obtain rfl := Nat.eq_of_beq_eq_true hcl
    have hrow := rowB_row hR
    obtain ⟨e, hc⟩ := row_cell hrow k o
    obtain ⟨hRR, hl, hlen⟩ := hrow
    obtain ⟨t1, t2, s1, s2, k1, k2, _⟩ := right_iff.1 hRR
    have hlo : lenOf T S K = 2 + T + 4 * S + K := rfl
    simp only at hl
    by_cases h0 : 0 ≤ cellOf T S K k o
    · obtain ⟨h1, h2⟩ := hc h0
      have h0' : cellOf T S K k o ≥ 0 := h0
      by_cases hv : v = ws.getD (cellOf T S K k o).toNat 0
      · have hv' : (v != ws.getD (cellOf T S K k o).toNat 0) = false := by rw [bne_eq_false_iff_eq]; exact hv
        have g := get_walk (rstT_same k o v T S K G Q c tk ts to told tnew many td ws) (by simp only [hRR, Nat.zero_add, Nat.mul_one, decide_eq_true h0', decide_eq_true h1, decide_eq_true h2, hv'])
        rw [g]
        have h3 : ws.set (cellOf T S K k o).toNat v = ws := by rw [hv]; exact set_same h2
        simp only [mstore, mset, mat, if_pos h0, Nat.zero_add, Nat.mul_one, decide_eq_true h0, h3]
      · have hv' : (v != ws.getD (cellOf T S K k o).toNat 0) = true := by rw [bne_iff_ne]; exact hv
        have g1 : ¬ c = 0 := by omega
        have g2 : cellOff 0 none + c * 1 ≤ ws.length := by show 0 + c * 1 ≤ _; omega
        have g3 : (0 : Nat) = 0 ∧ 0 = 0 * 1 ∧ (0 + c) * 8 ≤ 140737488355328 ∧ 0 + c ≤ 4611686018427387904 := by omega
        have g4 : ([] ++ List.take (c * 1) (List.drop (cellOff 0 none) ws)) = ws := by
          show List.take (c * 1) ws = ws
          rw [List.take_of_length_le (by omega)]
        have g := get_walk (rstT_new k o v T S K G Q c tk ts to told tnew many td ws) (by
          rw [decide_eq_true g3, decide_eq_true g2, g4]
          simp only [hRR, Nat.zero_add, Nat.mul_one, decide_eq_true h0', decide_eq_true h1, decide_eq_true h2, decide_eq_false g1, hv'])
        rw [g, g4]
        simp only [mstore, mset, mat, if_pos h0, Nat.zero_add, Nat.mul_one, decide_eq_true h0]
    · have h0' : ¬ cellOf T S K k o ≥ 0 := h0
      have g := get_walk (rstT_no k o v T S K G Q c tk ts to told tnew many td ws) (by simp only [hRR, decide_eq_false h0'])
      rw [g]
      simp only [mstore, mset, mat, if_neg h0, decide_eq_false h0]
  · cases h
noncomputable def sumsT1 : Sums := withT (withT (withT (withT sumsO 15 [(LoadF, load_t)]) 42 [(StoreF, store_t)]) 73 [(RLoadF, rload_t)]) 43 [(RStoreT, rstore_t)]
theorem one_t {F' : FForm} {o' : List Atom → Tree (Nat × List Atom)} {s : Sum} (h : ∀ x r, (o' x).get = some r → (endF s F' x).get = some r) : ∀ a ∈ [(F', o')], ∀ x r, (a.2 x).get = some r → (endF s a.1 x).get = some r := by
  intro a ha
  simp only [List.mem_singleton] at ha
  subst ha
  exact h
theorem sumsT1_ok : SumsOk sumsT1 := by
  refine withT_ok (withT_ok (withT_ok (withT_ok sumsO_ok sums9_ok 60 (by kernel_rfl) ?_) sums9_ok 60 (by kernel_rfl) ?_) sums9_ok 60 (by kernel_rfl) ?_) sums9_ok 60 (by kernel_rfl) ?_
  · exact one_t load_st
  · exact one_t store_st
  · exact one_t rload_st
  · exact one_t rstore_st
end Go.Proofs.YtifojacfedjedaaGreat.Bound
end
