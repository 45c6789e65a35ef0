/- The words of a world as a value; the program's and the document's loads and stores, as trees. No condition. -/
import Derived.Test.YtifojacfedjedaaGreatOfWQ
namespace Go.Proofs.YtifojacfedjedaaGreat.Bound
open Go.Proofs.YtifojacfedjedaaGreat.Ev Go.Proofs.YtifojacfedjedaaGreat.ChartMath
set_option linter.unusedVariables false
set_option linter.unusedSimpArgs false
/-- The words, how many accesses there were, and the last one. -/
structure MS where
  ws : List Int
  many : Int
  tk : Int
  ts : Int
  to : Int
  told : Int
  tnew : Int
  td : Bool
/-- Whether there are as many words as there are cells. -/
def rowB (T S K G Q : Int) (l : Nat) (s : MS) : Bool := right T S K G Q && (Nat.beq s.ws.length l && decide ((l : Int) = lenOf T S K))
/-- A spot's word. -/
def mat (T S K : Int) (s : MS) (k o : Int) : Int := if 0 ≤ cellOf T S K k o then s.ws.getD (cellOf T S K k o).toNat 0 else 0
def mload (T S K : Int) (s : MS) (k o : Int) : MS := ⟨s.ws, IntKind.i64.wrap (s.many + 1), 1, k, o, mat T S K s k o, mat T S K s k o, decide (0 ≤ cellOf T S K k o)⟩
/-- The words with another one somewhere. -/
def mset (T S K : Int) (s : MS) (k o v : Int) : List Int := if 0 ≤ cellOf T S K k o then s.ws.set (cellOf T S K k o).toNat v else s.ws
def mstore (T S K : Int) (s : MS) (k o v : Int) : MS := ⟨mset T S K s k o v, IntKind.i64.wrap (s.many + 1), 2, k, o, mat T S K s k o, if 0 ≤ cellOf T S K k o then v else 0, decide (0 ≤ cellOf T S K k o)⟩
theorem rowB_row {T S K G Q : Int} {l : Nat} {s : MS} (h : rowB T S K G Q l s = true) : Row T S K G Q l s.ws := by
  simp only [rowB, Bool.and_eq_true, decide_eq_true_eq] at h
  exact ⟨h.1, Nat.eq_of_beq_eq_true h.2.1, h.2.2⟩
theorem row_rowB {T S K G Q : Int} {l : Nat} {s : MS} (h : Row T S K G Q l s.ws) : rowB T S K G Q l s = true := by
  obtain ⟨h1, h2, h3⟩ := h
  simp only [rowB, Bool.and_eq_true, decide_eq_true_eq]
  exact ⟨h1, by rw [h2]; exact Nat.beq_refl _, h3⟩
theorem mset_length (T S K : Int) (s : MS) (k o v : Int) : (mset T S K s k o v).length = s.ws.length := by
  unfold mset
  split <;> simp
theorem rowB_load {T S K G Q : Int} {l : Nat} {s : MS} {k o : Int} : rowB T S K G Q l (mload T S K s k o) = rowB T S K G Q l s := rfl
theorem rowB_store {T S K G Q : Int} {l : Nat} {s : MS} {k o v : Int} : rowB T S K G Q l (mstore T S K s k o v) = rowB T S K G Q l s := by
  simp only [rowB, mstore, mset_length]
def load_t : List Atom → Tree (Nat × List Atom)
  | [.i k, .i o, .i T, .i S, .i K, .i G, .i Q, .n l, .n c, .i tk, .i ts, .i to, .i told, .i tnew, .b td, .i many, .ws ws] => .br (rowB T S K G Q l ⟨ws, many, tk, ts, to, told, tnew, td⟩)
    (.leaf (0, [.i (mat T S K ⟨ws, many, tk, ts, to, told, tnew, td⟩ k o), .i T, .i S, .i K, .i G, .i Q, .n l, .n c, .i (mload T S K ⟨ws, many, tk, ts, to, told, tnew, td⟩ k o).tk, .i (mload T S K ⟨ws, many, tk, ts, to, told, tnew, td⟩ k o).ts, .i (mload T S K ⟨ws, many, tk, ts, to, told, tnew, td⟩ k o).to, .i (mload T S K ⟨ws, many, tk, ts, to, told, tnew, td⟩ k o).told, .i (mload T S K ⟨ws, many, tk, ts, to, told, tnew, td⟩ k o).tnew, .b (mload T S K ⟨ws, many, tk, ts, to, told, tnew, td⟩ k o).td, .i (mload T S K ⟨ws, many, tk, ts, to, told, tnew, td⟩ k o).many, .ws (mload T S K ⟨ws, many, tk, ts, to, told, tnew, td⟩ k o).ws])) .bad
  | _ => .bad
theorem load_st (x : List Atom) (r : Nat × List Atom) (h : (load_t x).get = some r) : (endF (ev sums9 60 15) LoadF x).get = some r := by
  unfold load_t at h
  split at h
  · rename_i k o T S K G Q l c tk ts to told tnew td many ws
    rw [Tree.get_br] at h
    split at h
    case isFalse => cases h
    case isTrue hR =>
    simp only [Tree.get_leaf, Option.some.injEq] at h
    subst h
    obtain ⟨e, hc⟩ := row_cell (rowB_row hR) k o
    by_cases h0 : 0 ≤ cellOf T S K k o
    · obtain ⟨h1, h2⟩ := hc h0
      have h0' : cellOf T S K k o ≥ 0 := h0
      have g := get_walk (mload_way_1 k o T S K G Q l c tk ts to told tnew many td ws) (by simp only [e, Nat.zero_add, Nat.mul_one, decide_eq_true h0', decide_eq_true h1, decide_eq_true h2])
      rw [g]
      simp only [mload, mat, if_pos h0, e, Nat.zero_add, Nat.mul_one, decide_eq_true h0, set_same h2]
    · have h0' : ¬ cellOf T S K k o ≥ 0 := h0
      have g := get_walk (mload_way_2 k o T S K G Q l c tk ts to told tnew many td ws) (by simp only [e, decide_eq_false h0'])
      rw [g]
      simp only [mload, mat, if_neg h0, decide_eq_false h0]
  · cases h
def store_t : List Atom → Tree (Nat × List Atom)
  | [.i k, .i o, .i v, .i T, .i S, .i K, .i G, .i Q, .n l, .n c, .i tk, .i ts, .i to, .i told, .i tnew, .b td, .i many, .ws ws] => .br (rowB T S K G Q l ⟨ws, many, tk, ts, to, told, tnew, td⟩)
    (.leaf (0, [.i T, .i S, .i K, .i G, .i Q, .n l, .n c, .i (mstore T S K ⟨ws, many, tk, ts, to, told, tnew, td⟩ k o v).tk, .i (mstore T S K ⟨ws, many, tk, ts, to, told, tnew, td⟩ k o v).ts, .i (mstore T S K ⟨ws, many, tk, ts, to, told, tnew, td⟩ k o v).to, .i (mstore T S K ⟨ws, many, tk, ts, to, told, tnew, td⟩ k o v).told, .i (mstore T S K ⟨ws, many, tk, ts, to, told, tnew, td⟩ k o v).tnew, .b (mstore T S K ⟨ws, many, tk, ts, to, told, tnew, td⟩ k o v).td, .i (mstore T S K ⟨ws, many, tk, ts, to, told, tnew, td⟩ k o v).many, .ws (mstore T S K ⟨ws, many, tk, ts, to, told, tnew, td⟩ k o v).ws])) .bad
  | _ => .bad
theorem store_st (x : List Atom) (r : Nat × List Atom) (h : (store_t x).get = some r) : (endF (ev sums9 60 42) StoreF x).get = some r := by
  unfold store_t at h
  split at h
  · rename_i k o v T S K G Q l c tk ts to told tnew td many ws
    rw [Tree.get_br] at h
    split at h
    case isFalse => cases h
    case isTrue hR =>
    simp only [Tree.get_leaf, Option.some.injEq] at h
    subst h
    obtain ⟨e, hc⟩ := row_cell (rowB_row hR) k o
    by_cases h0 : 0 ≤ cellOf T S K k o
    · obtain ⟨h1, h2⟩ := hc h0
      have h0' : cellOf T S K k o ≥ 0 := h0
      have g := get_walk (mstore_way_1 k o v T S K G Q l c tk ts to told tnew many td ws) (by simp only [e, Nat.zero_add, Nat.mul_one, decide_eq_true h0', decide_eq_true h1, decide_eq_true h2])
      rw [g]
      simp only [mstore, mset, mat, if_pos h0, e, Nat.zero_add, Nat.mul_one, decide_eq_true h0]
    · have h0' : ¬ cellOf T S K k o ≥ 0 := h0
      have g := get_walk (mstore_way_2 k o v T S K G Q l c tk ts to told tnew many td ws) (by simp only [e, decide_eq_false h0'])
      rw [g]
      simp only [mstore, mset, mat, if_neg h0, decide_eq_false h0]
  · cases h
def rload_t : List Atom → Tree (Nat × List Atom)
  | [.i T, .i S, .i K, .i G, .i Q, .n l, .n c, .i many, .i tk, .i ts, .i to, .i told, .i tnew, .b td, .i k, .i o, .ws ws] => .br (rowB T S K G Q l ⟨ws, many, tk, ts, to, told, tnew, td⟩)
    (.leaf (0, [.i T, .i S, .i K, .i G, .i Q, .n l, .n c, .i (mload T S K ⟨ws, many, tk, ts, to, told, tnew, td⟩ k o).many, .i (mload T S K ⟨ws, many, tk, ts, to, told, tnew, td⟩ k o).tk, .i (mload T S K ⟨ws, many, tk, ts, to, told, tnew, td⟩ k o).ts, .i (mload T S K ⟨ws, many, tk, ts, to, told, tnew, td⟩ k o).to, .i (mload T S K ⟨ws, many, tk, ts, to, told, tnew, td⟩ k o).told, .i (mload T S K ⟨ws, many, tk, ts, to, told, tnew, td⟩ k o).tnew, .b (mload T S K ⟨ws, many, tk, ts, to, told, tnew, td⟩ k o).td, .i (mat T S K ⟨ws, many, tk, ts, to, told, tnew, td⟩ k o), .ws (mload T S K ⟨ws, many, tk, ts, to, told, tnew, td⟩ k o).ws])) .bad
  | _ => .bad
theorem rload_st (x : List Atom) (r : Nat × List Atom) (h : (rload_t x).get = some r) : (endF (ev sums9 60 73) RLoadF x).get = some r := by
  unfold rload_t at h
  split at h
  · rename_i T S K G Q l c many tk ts to told tnew td k o ws
    rw [Tree.get_br] at h
    split at h
    case isFalse => cases h
    case isTrue hR =>
    simp only [Tree.get_leaf, Option.some.injEq] at h
    subst h
    have hrow := rowB_row hR
    obtain ⟨e, hc⟩ := row_cell hrow k o
    have hRR := hrow.1
    by_cases h0 : 0 ≤ cellOf T S K k o
    · obtain ⟨h1, h2⟩ := hc h0
      have h0' : cellOf T S K k o ≥ 0 := h0
      have g := get_walk (rload_way_1 k o T S K G Q l c tk ts to told tnew many td ws) (by simp only [hRR, Nat.zero_add, Nat.mul_one, decide_eq_true h0', decide_eq_true h1, decide_eq_true h2, bne_self_eq_false])
      rw [g]
      simp only [mload, mat, if_pos h0, Nat.zero_add, Nat.mul_one, decide_eq_true h0]
    · have h0' : ¬ cellOf T S K k o ≥ 0 := h0
      have g := get_walk (rload_way_2 k o T S K G Q l c tk ts to told tnew many td ws) (by simp only [hRR, decide_eq_false h0'])
      rw [g]
      simp only [mload, mat, if_neg h0, decide_eq_false h0]
  · cases h
/-- What is stored: the row of words is a new one, whether it is another one or not. -/
def RStoreT : FForm := ⟨[rmem, .int .i64, .int .i64, .int .u64], RB, [⟨[(0, rmem1)], 1, [(1, 22, .ints .u64)], 2, [0]⟩]⟩
theorem rstT_new (k o v T S K G Q : Int) (l : Nat) (tk ts to told tnew many : Int) (td : Bool) (ws : List Int) : walk (endF (ev sums9 60 43) RStoreT [.i T, .i S, .i K, .i G, .i Q, .n l, .n l, .i many, .i tk, .i ts, .i to, .i told, .i tnew, .b td, .i k, .i o, .i v, .ws ws]) [true, true, true, true, true, true, true, true, true, true, true, true, true, true, true, false, true, false, true, true, true, true] =
    some ([(right T S K G Q, Value.int IntKind.i64 (ChartMath.cellOf T S K k o)).fst, decide ((ChartMath.cellOf T S K k o) ≥ 0), decide (0 ≤ (ChartMath.cellOf T S K k o) ∧ (ChartMath.cellOf T S K k o) < ↑l), decide ((0 + (ChartMath.cellOf T S K k o).toNat * 1) < ws.length), true, true, true, true, true, true, true, true, true, true, true, false, v != ws.getD ((0 + (ChartMath.cellOf T S K k o).toNat * 1)) 0, decide (l = 0), decide (cellOff 0 none + l * 1 ≤ ws.length), decide (0 = 0 ∧ 0 = 0 * 1 ∧ (0 + l) * 8 ≤ 140737488355328 ∧ 0 + l ≤ 4611686018427387904), decide (0 ≤ (ChartMath.cellOf T S K k o) ∧ (ChartMath.cellOf T S K k o) < ↑(0 + l)), decide ((0 + (ChartMath.cellOf T S K k o).toNat * 1) < ([] ++ List.take (l * 1) (List.drop (cellOff 0 none) ws)).length)], (0, [.i T, .i S, .i K, .i G, .i Q, .n (0 + l), .n (0 + l), .i (IntKind.i64.wrap (many + 1)), .i 2, .i k, .i o, .i (ws.getD ((0 + (ChartMath.cellOf T S K k o).toNat * 1)) 0), .i v, .b true, .ws (([] ++ List.take (l * 1) (List.drop (cellOff 0 none) ws)).set ((0 + (ChartMath.cellOf T S K k o).toNat * 1)) v)])) := by kernel_rfl
theorem rstT_same (k o v T S K G Q : Int) (l : Nat) (tk ts to told tnew many : Int) (td : Bool) (ws : List Int) : walk (endF (ev sums9 60 43) RStoreT [.i T, .i S, .i K, .i G, .i Q, .n l, .n l, .i many, .i tk, .i ts, .i to, .i told, .i tnew, .b td, .i k, .i o, .i v, .ws ws]) [true, true, true, true, true, true, true, true, true, true, true, true, true, true, true, false, false] =
    some ([(right T S K G Q, Value.int IntKind.i64 (ChartMath.cellOf T S K k o)).fst, decide ((ChartMath.cellOf T S K k o) ≥ 0), decide (0 ≤ (ChartMath.cellOf T S K k o) ∧ (ChartMath.cellOf T S K k o) < ↑l), decide ((0 + (ChartMath.cellOf T S K k o).toNat * 1) < ws.length), true, true, true, true, true, true, true, true, true, true, true, false, v != ws.getD ((0 + (ChartMath.cellOf T S K k o).toNat * 1)) 0], (0, [.i T, .i S, .i K, .i G, .i Q, .n l, .n l, .i (IntKind.i64.wrap (many + 1)), .i 2, .i k, .i o, .i (ws.getD ((0 + (ChartMath.cellOf T S K k o).toNat * 1)) 0), .i v, .b true, .ws ws])) := by kernel_rfl
theorem rstT_no (k o v T S K G Q : Int) (l : Nat) (tk ts to told tnew many : Int) (td : Bool) (ws : List Int) : walk (endF (ev sums9 60 43) RStoreT [.i T, .i S, .i K, .i G, .i Q, .n l, .n l, .i many, .i tk, .i ts, .i to, .i told, .i tnew, .b td, .i k, .i o, .i v, .ws ws]) [true, false] =
    some ([(right T S K G Q, Value.int IntKind.i64 (ChartMath.cellOf T S K k o)).fst, decide ((ChartMath.cellOf T S K k o) ≥ 0)], (0, [.i T, .i S, .i K, .i G, .i Q, .n l, .n l, .i (IntKind.i64.wrap (many + 1)), .i 2, .i k, .i o, .i 0, .i 0, .b false, .ws ws])) := by kernel_rfl
def rstore_t : List Atom → Tree (Nat × List Atom)
  | [.i T, .i S, .i K, .i G, .i Q, .n l, .n c, .i many, .i tk, .i ts, .i to, .i told, .i tnew, .b td, .i k, .i o, .i v, .ws ws] => .br (rowB T S K G Q l ⟨ws, many, tk, ts, to, told, tnew, td⟩ && Nat.beq c l)
    (.leaf (0, [.i T, .i S, .i K, .i G, .i Q, .n l, .n l, .i (mstore T S K ⟨ws, many, tk, ts, to, told, tnew, td⟩ k o v).many, .i (mstore T S K ⟨ws, many, tk, ts, to, told, tnew, td⟩ k o v).tk, .i (mstore T S K ⟨ws, many, tk, ts, to, told, tnew, td⟩ k o v).ts, .i (mstore T S K ⟨ws, many, tk, ts, to, told, tnew, td⟩ k o v).to, .i (mstore T S K ⟨ws, many, tk, ts, to, told, tnew, td⟩ k o v).told, .i (mstore T S K ⟨ws, many, tk, ts, to, told, tnew, td⟩ k o v).tnew, .b (mstore T S K ⟨ws, many, tk, ts, to, told, tnew, td⟩ k o v).td, .ws (mstore T S K ⟨ws, many, tk, ts, to, told, tnew, td⟩ k o v).ws])) .bad
  | _ => .bad
theorem rstore_st (x : List Atom) (r : Nat × List Atom) (h : (rstore_t x).get = some r) : (endF (ev sums9 60 43) RStoreT x).get = some r := by
  unfold rstore_t at h
  split at h
  · rename_i T S K G Q l c many tk ts to told tnew td k o v ws
    rw [Tree.get_br] at h
    split at h
    case isFalse => cases h
    case isTrue hR =>
    simp only [Tree.get_leaf, Option.some.injEq] at h
    subst h
    simp only [Bool.and_eq_true] at hR
    obtain ⟨hR, hcl⟩ := hR
    obtain rfl := Nat.eq_of_beq_eq_true hcl
    have hrow := rowB_row hR
    obtain ⟨e, hc⟩ := row_cell hrow k o
    obtain ⟨hRR, hl, hlen⟩ := hrow
    obtain ⟨t1, t2, s1, s2, k1, k2, _⟩ := right_iff.1 hRR
    have hlo : lenOf T S K = 2 + T + 4 * S + K := rfl
    simp only at hl
    by_cases h0 : 0 ≤ cellOf T S K k o
    · obtain ⟨h1, h2⟩ := hc h0
      have h0' : cellOf T S K k o ≥ 0 := h0
      by_cases hv : v = ws.getD (cellOf T S K k o).toNat 0
      · have hv' : (v != ws.getD (cellOf T S K k o).toNat 0) = false := by rw [bne_eq_false_iff_eq]; exact hv
        have g := get_walk (rstT_same k o v T S K G Q c tk ts to told tnew many td ws) (by simp only [hRR, Nat.zero_add, Nat.mul_one, decide_eq_true h0', decide_eq_true h1, decide_eq_true h2, hv'])
        rw [g]
        have h3 : ws.set (cellOf T S K k o).toNat v = ws := by rw [hv]; exact set_same h2
        simp only [mstore, mset, mat, if_pos h0, Nat.zero_add, Nat.mul_one, decide_eq_true h0, h3]
      · have hv' : (v != ws.getD (cellOf T S K k o).toNat 0) = true := by rw [bne_iff_ne]; exact hv
        have g1 : ¬ c = 0 := by omega
        have g2 : cellOff 0 none + c * 1 ≤ ws.length := by show 0 + c * 1 ≤ _; omega
        have g3 : (0 : Nat) = 0 ∧ 0 = 0 * 1 ∧ (0 + c) * 8 ≤ 140737488355328 ∧ 0 + c ≤ 4611686018427387904 := by omega
        have g4 : ([] ++ List.take (c * 1) (List.drop (cellOff 0 none) ws)) = ws := by
          show List.take (c * 1) ws = ws
          rw [List.take_of_length_le (by omega)]
        have g := get_walk (rstT_new k o v T S K G Q c tk ts to told tnew many td ws) (by
          rw [decide_eq_true g3, decide_eq_true g2, g4]
          simp only [hRR, Nat.zero_add, Nat.mul_one, decide_eq_true h0', decide_eq_true h1, decide_eq_true h2, decide_eq_false g1, hv'])
        rw [g, g4]
        simp only [mstore, mset, mat, if_pos h0, Nat.zero_add, Nat.mul_one, decide_eq_true h0]
    · have h0' : ¬ cellOf T S K k o ≥ 0 := h0
      have g := get_walk (rstT_no k o v T S K G Q c tk ts to told tnew many td ws) (by simp only [hRR, decide_eq_false h0'])
      rw [g]
      simp only [mstore, mset, mat, if_neg h0, decide_eq_false h0]
  · cases h
noncomputable def sumsT1 : Sums := withT (withT (withT (withT sumsO 15 [(LoadF, load_t)]) 42 [(StoreF, store_t)]) 73 [(RLoadF, rload_t)]) 43 [(RStoreT, rstore_t)]
theorem one_t {F' : FForm} {o' : List Atom → Tree (Nat × List Atom)} {s : Sum} (h : ∀ x r, (o' x).get = some r → (endF s F' x).get = some r) : ∀ a ∈ [(F', o')], ∀ x r, (a.2 x).get = some r → (endF s a.1 x).get = some r := by
  intro a ha
  simp only [List.mem_singleton] at ha
  subst ha
  exact h
theorem sumsT1_ok : SumsOk sumsT1 := by
  refine withT_ok (withT_ok (withT_ok (withT_ok sumsO_ok sums9_ok 60 (by kernel_rfl) ?_) sums9_ok 60 (by kernel_rfl) ?_) sums9_ok 60 (by kernel_rfl) ?_) sums9_ok 60 (by kernel_rfl) ?_
  · exact one_t load_st
  · exact one_t store_st
  · exact one_t rload_st
  · exact one_t rstore_st
end Go.Proofs.YtifojacfedjedaaGreat.Bound
