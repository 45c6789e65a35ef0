/- The words of a world as a value: swaps and adds, by the program and by the document. No condition. -/
import Derived.Test.YtifojacfedjedaaGreatPokedNQ
namespace Go.Proofs.YtifojacfedjedaaGreat.Bound
open Go.Proofs.YtifojacfedjedaaGreat.Ev Go.Proofs.YtifojacfedjedaaGreat.ChartMath
set_option linter.unusedVariables false
set_option linter.unusedSimpArgs false
/-- Whether a word is what was asked for. -/
def mok (T S K : Int) (s : MS) (k o old : Int) : Bool := decide (0 ≤ cellOf T S K k o) && (mat T S K s k o == old)
def mswap (T S K : Int) (s : MS) (k o old v : Int) : MS := ⟨if mok T S K s k o old = true then mset T S K s k o v else s.ws, IntKind.i64.wrap (s.many + 1), 3, k, o, mat T S K s k o, if mok T S K s k o old = true then v else mat T S K s k o, mok T S K s k o old⟩
def madd (T S K : Int) (s : MS) (k o by_ : Int) : MS := ⟨mset T S K s k o (IntKind.u64.wrap (mat T S K s k o + by_)), IntKind.i64.wrap (s.many + 1), 4, k, o, mat T S K s k o, if 0 ≤ cellOf T S K k o then IntKind.u64.wrap (mat T S K s k o + by_) else 0, decide (0 ≤ cellOf T S K k o)⟩
theorem rowB_swap {T S K G Q : Int} {l : Nat} {s : MS} {k o old v : Int} : rowB T S K G Q l (mswap T S K s k o old v) = rowB T S K G Q l s := by
  simp only [rowB, mswap]
  split
  · rw [mset_length]
  · rfl
theorem rowB_add {T S K G Q : Int} {l : Nat} {s : MS} {k o v : Int} : rowB T S K G Q l (madd T S K s k o v) = rowB T S K G Q l s := by
  simp only [rowB, madd, mset_length]
def SwapF : FForm := ⟨[.ptr 0 0 none, .agg [.int .i64, .int .i64], .int .u64, .int .u64], memB, [⟨[(0, .bool)], 1, memB, 2, [0, 1]⟩]⟩
def AddF : FForm := ⟨[.ptr 0 0 none, .agg [.int .i64, .int .i64], .int .u64], memB, [⟨[(0, .int .u64)], 1, memB, 2, [0, 1]⟩]⟩
theorem mswap_way_0 (k o old v : Int) (T S K G Q : Int) (l c : Nat) (tk ts to told tnew many : Int) (td : Bool) (ws : List Int) : walk (endF (ev sums9 60 187) SwapF [.i k, .i o, .i old, .i v, .i T, .i S, .i K, .i G, .i Q, .n l, .n c, .i tk, .i ts, .i to, .i told, .i tnew, .b td, .i many, .ws ws]) [true, true, true, true, true, true] =
    some ([decide (cellA T S K G Q k o ≥ (0 : Int)), decide ((0 : Int) ≤ cellA T S K G Q k o ∧ cellA T S K G Q k o < (↑l : Int)), decide (((0 : Nat) + (cellA T S K G Q k o).toNat * (1 : Nat)) < ws.length), ws.getD (((0 : Nat) + (cellA T S K G Q k o).toNat * (1 : Nat))) (0 : Int) != old, decide ((0 : Int) ≤ cellA T S K G Q k o ∧ cellA T S K G Q k o < (↑l : Int)), decide (((0 : Nat) + (cellA T S K G Q k o).toNat * (1 : Nat)) < ws.length)], (0, [.b false, .i (T), .i (S), .i (K), .i (G), .i (Q), .n (l), .n (c), .i ((3 : Int)), .i (k), .i (o), .i (ws.getD (((0 : Nat) + (cellA T S K G Q k o).toNat * (1 : Nat))) (0 : Int)), .i (ws.getD (((0 : Nat) + (cellA T S K G Q k o).toNat * (1 : Nat))) (0 : Int)), .b false, .i (IntKind.i64.wrap (many + (1 : Int))), .ws (ws.set (((0 : Nat) + (cellA T S K G Q k o).toNat * (1 : Nat))) (ws.getD (((0 : Nat) + (cellA T S K G Q k o).toNat * (1 : Nat))) (0 : Int)))])) := by kernel_rfl
theorem mswap_way_1 (k o old v : Int) (T S K G Q : Int) (l c : Nat) (tk ts to told tnew many : Int) (td : Bool) (ws : List Int) : walk (endF (ev sums9 60 187) SwapF [.i k, .i o, .i old, .i v, .i T, .i S, .i K, .i G, .i Q, .n l, .n c, .i tk, .i ts, .i to, .i told, .i tnew, .b td, .i many, .ws ws]) [true, true, true, false, true, true] =
    some ([decide (cellA T S K G Q k o ≥ (0 : Int)), decide ((0 : Int) ≤ cellA T S K G Q k o ∧ cellA T S K G Q k o < (↑l : Int)), decide (((0 : Nat) + (cellA T S K G Q k o).toNat * (1 : Nat)) < ws.length), ws.getD (((0 : Nat) + (cellA T S K G Q k o).toNat * (1 : Nat))) (0 : Int) != old, decide ((0 : Int) ≤ cellA T S K G Q k o ∧ cellA T S K G Q k o < (↑l : Int)), decide (((0 : Nat) + (cellA T S K G Q k o).toNat * (1 : Nat)) < ws.length)], (0, [.b true, .i (T), .i (S), .i (K), .i (G), .i (Q), .n (l), .n (c), .i ((3 : Int)), .i (k), .i (o), .i (ws.getD (((0 : Nat) + (cellA T S K G Q k o).toNat * (1 : Nat))) (0 : Int)), .i (v), .b true, .i (IntKind.i64.wrap (many + (1 : Int))), .ws (ws.set (((0 : Nat) + (cellA T S K G Q k o).toNat * (1 : Nat))) v)])) := by kernel_rfl
theorem mswap_way_4 (k o old v : Int) (T S K G Q : Int) (l c : Nat) (tk ts to told tnew many : Int) (td : Bool) (ws : List Int) : walk (endF (ev sums9 60 187) SwapF [.i k, .i o, .i old, .i v, .i T, .i S, .i K, .i G, .i Q, .n l, .n c, .i tk, .i ts, .i to, .i told, .i tnew, .b td, .i many, .ws ws]) [false] =
    some ([decide (cellA T S K G Q k o ≥ (0 : Int))], (0, [.b false, .i (T), .i (S), .i (K), .i (G), .i (Q), .n (l), .n (c), .i ((3 : Int)), .i (k), .i (o), .i ((0 : Int)), .i ((0 : Int)), .b false, .i (IntKind.i64.wrap (many + (1 : Int))), .ws (ws)])) := by kernel_rfl
theorem madd_way_0 (k o v : Int) (T S K G Q : Int) (l c : Nat) (tk ts to told tnew many : Int) (td : Bool) (ws : List Int) : walk (endF (ev sums9 60 263) AddF [.i k, .i o, .i v, .i T, .i S, .i K, .i G, .i Q, .n l, .n c, .i tk, .i ts, .i to, .i told, .i tnew, .b td, .i many, .ws ws]) [true, true, true, true, true] =
    some ([decide (cellA T S K G Q k o ≥ (0 : Int)), decide ((0 : Int) ≤ cellA T S K G Q k o ∧ cellA T S K G Q k o < (↑l : Int)), decide (((0 : Nat) + (cellA T S K G Q k o).toNat * (1 : Nat)) < ws.length), decide ((0 : Int) ≤ cellA T S K G Q k o ∧ cellA T S K G Q k o < (↑l : Int)), decide (((0 : Nat) + (cellA T S K G Q k o).toNat * (1 : Nat)) < ws.length)], (0, [.i (ws.getD (((0 : Nat) + (cellA T S K G Q k o).toNat * (1 : Nat))) (0 : Int)), .i (T), .i (S), .i (K), .i (G), .i (Q), .n (l), .n (c), .i ((4 : Int)), .i (k), .i (o), .i (ws.getD (((0 : Nat) + (cellA T S K G Q k o).toNat * (1 : Nat))) (0 : Int)), .i (IntKind.u64.wrap (ws.getD (((0 : Nat) + (cellA T S K G Q k o).toNat * (1 : Nat))) (0 : Int) + v)), .b true, .i (IntKind.i64.wrap (many + (1 : Int))), .ws (ws.set (((0 : Nat) + (cellA T S K G Q k o).toNat * (1 : Nat))) (IntKind.u64.wrap (ws.getD (((0 : Nat) + (cellA T S K G Q k o).toNat * (1 : Nat))) (0 : Int) + v)))])) := by kernel_rfl
theorem madd_way_3 (k o v : Int) (T S K G Q : Int) (l c : Nat) (tk ts to told tnew many : Int) (td : Bool) (ws : List Int) : walk (endF (ev sums9 60 263) AddF [.i k, .i o, .i v, .i T, .i S, .i K, .i G, .i Q, .n l, .n c, .i tk, .i ts, .i to, .i told, .i tnew, .b td, .i many, .ws ws]) [false] =
    some ([decide (cellA T S K G Q k o ≥ (0 : Int))], (0, [.i ((0 : Int)), .i (T), .i (S), .i (K), .i (G), .i (Q), .n (l), .n (c), .i ((4 : Int)), .i (k), .i (o), .i ((0 : Int)), .i ((0 : Int)), .b false, .i (IntKind.i64.wrap (many + (1 : Int))), .ws (ws)])) := by kernel_rfl
def swap_t : List Atom → Tree (Nat × List Atom)
  | .i k :: .i o :: .i old :: .i v :: .i T :: .i S :: .i K :: .i G :: .i Q :: .n l :: .n c :: .i tk :: .i ts :: .i to :: .i told :: .i tnew :: .b td :: .i many :: .ws ws :: [] => .br (rowB T S K G Q l ⟨ws, many, tk, ts, to, told, tnew, td⟩) (.leaf (0, [.b (mok T S K ⟨ws, many, tk, ts, to, told, tnew, td⟩ k o old), .i T, .i S, .i K, .i G, .i Q, .n l, .n c, .i ((mswap T S K ⟨ws, many, tk, ts, to, told, tnew, td⟩ k o old v).tk), .i ((mswap T S K ⟨ws, many, tk, ts, to, told, tnew, td⟩ k o old v).ts), .i ((mswap T S K ⟨ws, many, tk, ts, to, told, tnew, td⟩ k o old v).to), .i ((mswap T S K ⟨ws, many, tk, ts, to, told, tnew, td⟩ k o old v).told), .i ((mswap T S K ⟨ws, many, tk, ts, to, told, tnew, td⟩ k o old v).tnew), .b ((mswap T S K ⟨ws, many, tk, ts, to, told, tnew, td⟩ k o old v).td), .i ((mswap T S K ⟨ws, many, tk, ts, to, told, tnew, td⟩ k o old v).many), .ws ((mswap T S K ⟨ws, many, tk, ts, to, told, tnew, td⟩ k o old v).ws)])) .bad
  | _ => .bad
theorem swap_st (x : List Atom) (r : Nat × List Atom) (h : (swap_t x).get = some r) : (endF (ev sums9 60 187) SwapF x).get = some r := by
  unfold swap_t at h
  split at h
  · rename_i k o old v T S K G Q l c tk ts to told tnew td many ws
    rw [Tree.get_br] at h
    split at h
    case isFalse => cases h
    case isTrue hR =>
    simp only [Tree.get_leaf, Option.some.injEq] at h
    subst h
    obtain ⟨e, hc⟩ := row_cell (rowB_row hR) k o
    by_cases h0 : 0 ≤ cellOf T S K k o
    · obtain ⟨h1, h2⟩ := hc h0
      have h0' : cellOf T S K k o ≥ 0 := h0
      by_cases ho : ws.getD (cellOf T S K k o).toNat 0 = old
      · have ho' : (ws.getD (cellOf T S K k o).toNat 0 != old) = false := by rw [bne_eq_false_iff_eq]; exact ho
        have ho2 : (ws.getD (cellOf T S K k o).toNat 0 == old) = true := by rw [beq_iff_eq]; exact ho
        have g := get_walk (mswap_way_1 k o old v T S K G Q l c tk ts to told tnew many td ws) (by simp only [e, Nat.zero_add, Nat.mul_one, decide_eq_true h0', decide_eq_true h1, decide_eq_true h2, ho'])
        rw [g]
        simp only [mswap, mok, mset, mat, if_pos h0, e, Nat.zero_add, Nat.mul_one, decide_eq_true h0, ho2, Bool.and_self, if_true]
      · have ho' : (ws.getD (cellOf T S K k o).toNat 0 != old) = true := by rw [bne_iff_ne]; exact ho
        have ho2 : (ws.getD (cellOf T S K k o).toNat 0 == old) = false := by rw [beq_eq_false_iff_ne]; exact ho
        have g := get_walk (mswap_way_0 k o old v T S K G Q l c tk ts to told tnew many td ws) (by simp only [e, Nat.zero_add, Nat.mul_one, decide_eq_true h0', decide_eq_true h1, decide_eq_true h2, ho'])
        rw [g]
        simp only [mswap, mok, mset, mat, if_pos h0, e, Nat.zero_add, Nat.mul_one, decide_eq_true h0, ho2, Bool.and_false, Bool.false_eq_true, if_false, set_same h2]
    · have h0' : ¬ cellOf T S K k o ≥ 0 := h0
      have g := get_walk (mswap_way_4 k o old v T S K G Q l c tk ts to told tnew many td ws) (by simp only [e, decide_eq_false h0'])
      rw [g]
      simp only [mswap, mok, mset, mat, if_neg h0, decide_eq_false h0, Bool.false_and, Bool.false_eq_true, if_false]
  · cases h
def add_t : List Atom → Tree (Nat × List Atom)
  | .i k :: .i o :: .i v :: .i T :: .i S :: .i K :: .i G :: .i Q :: .n l :: .n c :: .i tk :: .i ts :: .i to :: .i told :: .i tnew :: .b td :: .i many :: .ws ws :: [] => .br (rowB T S K G Q l ⟨ws, many, tk, ts, to, told, tnew, td⟩) (.leaf (0, [.i (mat T S K ⟨ws, many, tk, ts, to, told, tnew, td⟩ k o), .i T, .i S, .i K, .i G, .i Q, .n l, .n c, .i ((madd T S K ⟨ws, many, tk, ts, to, told, tnew, td⟩ k o v).tk), .i ((madd T S K ⟨ws, many, tk, ts, to, told, tnew, td⟩ k o v).ts), .i ((madd T S K ⟨ws, many, tk, ts, to, told, tnew, td⟩ k o v).to), .i ((madd T S K ⟨ws, many, tk, ts, to, told, tnew, td⟩ k o v).told), .i ((madd T S K ⟨ws, many, tk, ts, to, told, tnew, td⟩ k o v).tnew), .b ((madd T S K ⟨ws, many, tk, ts, to, told, tnew, td⟩ k o v).td), .i ((madd T S K ⟨ws, many, tk, ts, to, told, tnew, td⟩ k o v).many), .ws ((madd T S K ⟨ws, many, tk, ts, to, told, tnew, td⟩ k o v).ws)])) .bad
  | _ => .bad
theorem add_st (x : List Atom) (r : Nat × List Atom) (h : (add_t x).get = some r) : (endF (ev sums9 60 263) AddF x).get = some r := by
  unfold add_t at h
  split at h
  · rename_i k o v T S K G Q l c tk ts to told tnew td many ws
    rw [Tree.get_br] at h
    split at h
    case isFalse => cases h
    case isTrue hR =>
    simp only [Tree.get_leaf, Option.some.injEq] at h
    subst h
    obtain ⟨e, hc⟩ := row_cell (rowB_row hR) k o
    by_cases h0 : 0 ≤ cellOf T S K k o
    · obtain ⟨h1, h2⟩ := hc h0
      have h0' : cellOf T S K k o ≥ 0 := h0
      have g := get_walk (madd_way_0 k o v T S K G Q l c tk ts to told tnew many td ws) (by simp only [e, Nat.zero_add, Nat.mul_one, decide_eq_true h0', decide_eq_true h1, decide_eq_true h2])
      rw [g]
      simp only [madd, mset, mat, if_pos h0, e, Nat.zero_add, Nat.mul_one, decide_eq_true h0]
    · have h0' : ¬ cellOf T S K k o ≥ 0 := h0
      have g := get_walk (madd_way_3 k o v T S K G Q l c tk ts to told tnew many td ws) (by simp only [e, decide_eq_false h0'])
      rw [g]
      simp only [madd, mset, mat, if_neg h0, decide_eq_false h0]
  · cases h

def RSwapT : FForm := ⟨[rmem, .int .i64, .int .i64, .int .u64, .int .u64], RB, [⟨[(0, .tuple [rmem1, .bool])], 1, [(1, 22, .ints .u64)], 2, [0]⟩]⟩
def RAddT : FForm := ⟨[rmem, .int .i64, .int .i64, .int .u64], RB, [⟨[(0, .tuple [rmem1, .int .u64])], 1, [(1, 22, .ints .u64)], 2, [0]⟩]⟩
theorem rswap_way_0 (k o old v : Int) (T S K G Q : Int) (l : Nat) (tk ts to told tnew many : Int) (td : Bool) (ws : List Int) : walk (endF (ev sums9 60 100) RSwapT [.i T, .i S, .i K, .i G, .i Q, .n l, .n l, .i many, .i tk, .i ts, .i to, .i told, .i tnew, .b td, .i k, .i o, .i old, .i v, .ws ws]) [true, true, true, true, false, false, false, false, false, false, false, true, true, false, true, false, true, false, true, true, true, true] =
    some ([(right T S K G Q, Value.int IntKind.i64 (cellOf T S K k o)).fst, decide (cellOf T S K k o ≥ (0 : Int)), decide ((0 : Int) ≤ cellOf T S K k o ∧ cellOf T S K k o < (↑l : Int)), decide (((0 : Nat) + (cellOf T S K k o).toNat * (1 : Nat)) < ws.length), false, false, false, false, false, false, false, true, true, false, bif false then true else bif true then bif false then true else ws.getD (((0 : Nat) + (cellOf T S K k o).toNat * (1 : Nat))) (0 : Int) == old else false, false, v != ws.getD (((0 : Nat) + (cellOf T S K k o).toNat * (1 : Nat))) (0 : Int), decide (l = (0 : Nat)), decide ((0 : Nat) + l * (1 : Nat) ≤ ws.length), decide (0 = 0 ∧ 0 = 0 * 1 ∧ (0 + l) * 8 ≤ 140737488355328 ∧ 0 + l ≤ 4611686018427387904), decide ((0 : Int) ≤ cellOf T S K k o ∧ cellOf T S K k o < (↑((0 : Nat) + l) : Int)), decide (((0 : Nat) + (cellOf T S K k o).toNat * (1 : Nat)) < ([] ++ List.take (l * (1 : Nat)) (List.drop ((0 : Nat)) ws)).length)], (0, [.i (T), .i (S), .i (K), .i (G), .i (Q), .n ((0 : Nat) + l), .n ((0 : Nat) + l), .i (IntKind.i64.wrap (many + (1 : Int))), .i ((3 : Int)), .i (k), .i (o), .i (ws.getD (((0 : Nat) + (cellOf T S K k o).toNat * (1 : Nat))) (0 : Int)), .i (v), .b (bif false then true else ws.getD (((0 : Nat) + (cellOf T S K k o).toNat * (1 : Nat))) (0 : Int) == old), .b (bif false then true else ws.getD (((0 : Nat) + (cellOf T S K k o).toNat * (1 : Nat))) (0 : Int) == old), .ws (([] ++ List.take (l * (1 : Nat)) (List.drop ((0 : Nat)) ws)).set (((0 : Nat) + (cellOf T S K k o).toNat * (1 : Nat))) v)])) := by kernel_rfl
theorem rswap_way_3 (k o old v : Int) (T S K G Q : Int) (l : Nat) (tk ts to told tnew many : Int) (td : Bool) (ws : List Int) : walk (endF (ev sums9 60 100) RSwapT [.i T, .i S, .i K, .i G, .i Q, .n l, .n l, .i many, .i tk, .i ts, .i to, .i told, .i tnew, .b td, .i k, .i o, .i old, .i v, .ws ws]) [true, true, true, true, false, false, false, false, false, false, false, true, true, false, true, false, false] =
    some ([(right T S K G Q, Value.int IntKind.i64 (cellOf T S K k o)).fst, decide (cellOf T S K k o ≥ (0 : Int)), decide ((0 : Int) ≤ cellOf T S K k o ∧ cellOf T S K k o < (↑l : Int)), decide (((0 : Nat) + (cellOf T S K k o).toNat * (1 : Nat)) < ws.length), false, false, false, false, false, false, false, true, true, false, bif false then true else bif true then bif false then true else ws.getD (((0 : Nat) + (cellOf T S K k o).toNat * (1 : Nat))) (0 : Int) == old else false, false, v != ws.getD (((0 : Nat) + (cellOf T S K k o).toNat * (1 : Nat))) (0 : Int)], (0, [.i (T), .i (S), .i (K), .i (G), .i (Q), .n (l), .n (l), .i (IntKind.i64.wrap (many + (1 : Int))), .i ((3 : Int)), .i (k), .i (o), .i (ws.getD (((0 : Nat) + (cellOf T S K k o).toNat * (1 : Nat))) (0 : Int)), .i (v), .b (bif false then true else ws.getD (((0 : Nat) + (cellOf T S K k o).toNat * (1 : Nat))) (0 : Int) == old), .b (bif false then true else ws.getD (((0 : Nat) + (cellOf T S K k o).toNat * (1 : Nat))) (0 : Int) == old), .ws (ws)])) := by kernel_rfl
theorem rswap_way_4 (k o old v : Int) (T S K G Q : Int) (l : Nat) (tk ts to told tnew many : Int) (td : Bool) (ws : List Int) : walk (endF (ev sums9 60 100) RSwapT [.i T, .i S, .i K, .i G, .i Q, .n l, .n l, .i many, .i tk, .i ts, .i to, .i told, .i tnew, .b td, .i k, .i o, .i old, .i v, .ws ws]) [true, true, true, true, false, false, false, false, false, false, false, true, true, false, false, false, false] =
    some ([(right T S K G Q, Value.int IntKind.i64 (cellOf T S K k o)).fst, decide (cellOf T S K k o ≥ (0 : Int)), decide ((0 : Int) ≤ cellOf T S K k o ∧ cellOf T S K k o < (↑l : Int)), decide (((0 : Nat) + (cellOf T S K k o).toNat * (1 : Nat)) < ws.length), false, false, false, false, false, false, false, true, true, false, bif false then true else bif true then bif false then true else ws.getD (((0 : Nat) + (cellOf T S K k o).toNat * (1 : Nat))) (0 : Int) == old else false, false, ws.getD (((0 : Nat) + (cellOf T S K k o).toNat * (1 : Nat))) (0 : Int) != ws.getD (((0 : Nat) + (cellOf T S K k o).toNat * (1 : Nat))) (0 : Int)], (0, [.i (T), .i (S), .i (K), .i (G), .i (Q), .n (l), .n (l), .i (IntKind.i64.wrap (many + (1 : Int))), .i ((3 : Int)), .i (k), .i (o), .i (ws.getD (((0 : Nat) + (cellOf T S K k o).toNat * (1 : Nat))) (0 : Int)), .i (ws.getD (((0 : Nat) + (cellOf T S K k o).toNat * (1 : Nat))) (0 : Int)), .b (bif false then true else ws.getD (((0 : Nat) + (cellOf T S K k o).toNat * (1 : Nat))) (0 : Int) == old), .b (bif false then true else ws.getD (((0 : Nat) + (cellOf T S K k o).toNat * (1 : Nat))) (0 : Int) == old), .ws (ws)])) := by kernel_rfl
theorem rswap_way_5 (k o old v : Int) (T S K G Q : Int) (l : Nat) (tk ts to told tnew many : Int) (td : Bool) (ws : List Int) : walk (endF (ev sums9 60 100) RSwapT [.i T, .i S, .i K, .i G, .i Q, .n l, .n l, .i many, .i tk, .i ts, .i to, .i told, .i tnew, .b td, .i k, .i o, .i old, .i v, .ws ws]) [true, false] =
    some ([(right T S K G Q, Value.int IntKind.i64 (cellOf T S K k o)).fst, decide (cellOf T S K k o ≥ (0 : Int))], (0, [.i (T), .i (S), .i (K), .i (G), .i (Q), .n (l), .n (l), .i (IntKind.i64.wrap (many + (1 : Int))), .i ((3 : Int)), .i (k), .i (o), .i ((0 : Int)), .i ((0 : Int)), .b false, .b false, .ws (ws)])) := by kernel_rfl
theorem radd_way_0 (k o v : Int) (T S K G Q : Int) (l : Nat) (tk ts to told tnew many : Int) (td : Bool) (ws : List Int) : walk (endF (ev sums9 60 179) RAddT [.i T, .i S, .i K, .i G, .i Q, .n l, .n l, .i many, .i tk, .i ts, .i to, .i told, .i tnew, .b td, .i k, .i o, .i v, .ws ws]) [true, true, true, true, true, true, true, true, true, false, false, false, false, false, false, false, false, true, true, false, true, true, true, true] =
    some ([(right T S K G Q, Value.int IntKind.i64 (cellOf T S K k o)).fst, decide (cellOf T S K k o ≥ (0 : Int)), decide ((0 : Int) ≤ cellOf T S K k o ∧ cellOf T S K k o < (↑l : Int)), decide (((0 : Nat) + (cellOf T S K k o).toNat * (1 : Nat)) < ws.length), true, true, true, true, true, false, false, false, false, false, false, false, false, true, IntKind.u64.wrap (ws.getD (((0 : Nat) + (cellOf T S K k o).toNat * (1 : Nat))) (0 : Int) + v) != ws.getD (((0 : Nat) + (cellOf T S K k o).toNat * (1 : Nat))) (0 : Int), decide (l = (0 : Nat)), decide ((0 : Nat) + l * (1 : Nat) ≤ ws.length), decide (0 = 0 ∧ 0 = 0 * 1 ∧ (0 + l) * 8 ≤ 140737488355328 ∧ 0 + l ≤ 4611686018427387904), decide ((0 : Int) ≤ cellOf T S K k o ∧ cellOf T S K k o < (↑((0 : Nat) + l) : Int)), decide (((0 : Nat) + (cellOf T S K k o).toNat * (1 : Nat)) < ([] ++ List.take (l * (1 : Nat)) (List.drop ((0 : Nat)) ws)).length)], (0, [.i (T), .i (S), .i (K), .i (G), .i (Q), .n ((0 : Nat) + l), .n ((0 : Nat) + l), .i (IntKind.i64.wrap (many + (1 : Int))), .i ((4 : Int)), .i (k), .i (o), .i (ws.getD (((0 : Nat) + (cellOf T S K k o).toNat * (1 : Nat))) (0 : Int)), .i (IntKind.u64.wrap (ws.getD (((0 : Nat) + (cellOf T S K k o).toNat * (1 : Nat))) (0 : Int) + v)), .b true, .i (ws.getD (((0 : Nat) + (cellOf T S K k o).toNat * (1 : Nat))) (0 : Int)), .ws (([] ++ List.take (l * (1 : Nat)) (List.drop ((0 : Nat)) ws)).set (((0 : Nat) + (cellOf T S K k o).toNat * (1 : Nat))) (IntKind.u64.wrap (ws.getD (((0 : Nat) + (cellOf T S K k o).toNat * (1 : Nat))) (0 : Int) + v)))])) := by kernel_rfl
theorem radd_way_3 (k o v : Int) (T S K G Q : Int) (l : Nat) (tk ts to told tnew many : Int) (td : Bool) (ws : List Int) : walk (endF (ev sums9 60 179) RAddT [.i T, .i S, .i K, .i G, .i Q, .n l, .n l, .i many, .i tk, .i ts, .i to, .i told, .i tnew, .b td, .i k, .i o, .i v, .ws ws]) [true, true, true, true, true, true, true, true, true, false, false, false, false, false, false, false, false, true, false] =
    some ([(right T S K G Q, Value.int IntKind.i64 (cellOf T S K k o)).fst, decide (cellOf T S K k o ≥ (0 : Int)), decide ((0 : Int) ≤ cellOf T S K k o ∧ cellOf T S K k o < (↑l : Int)), decide (((0 : Nat) + (cellOf T S K k o).toNat * (1 : Nat)) < ws.length), true, true, true, true, true, false, false, false, false, false, false, false, false, true, IntKind.u64.wrap (ws.getD (((0 : Nat) + (cellOf T S K k o).toNat * (1 : Nat))) (0 : Int) + v) != ws.getD (((0 : Nat) + (cellOf T S K k o).toNat * (1 : Nat))) (0 : Int)], (0, [.i (T), .i (S), .i (K), .i (G), .i (Q), .n (l), .n (l), .i (IntKind.i64.wrap (many + (1 : Int))), .i ((4 : Int)), .i (k), .i (o), .i (ws.getD (((0 : Nat) + (cellOf T S K k o).toNat * (1 : Nat))) (0 : Int)), .i (IntKind.u64.wrap (ws.getD (((0 : Nat) + (cellOf T S K k o).toNat * (1 : Nat))) (0 : Int) + v)), .b true, .i (ws.getD (((0 : Nat) + (cellOf T S K k o).toNat * (1 : Nat))) (0 : Int)), .ws (ws)])) := by kernel_rfl
theorem radd_way_4 (k o v : Int) (T S K G Q : Int) (l : Nat) (tk ts to told tnew many : Int) (td : Bool) (ws : List Int) : walk (endF (ev sums9 60 179) RAddT [.i T, .i S, .i K, .i G, .i Q, .n l, .n l, .i many, .i tk, .i ts, .i to, .i told, .i tnew, .b td, .i k, .i o, .i v, .ws ws]) [true, false] =
    some ([(right T S K G Q, Value.int IntKind.i64 (cellOf T S K k o)).fst, decide (cellOf T S K k o ≥ (0 : Int))], (0, [.i (T), .i (S), .i (K), .i (G), .i (Q), .n (l), .n (l), .i (IntKind.i64.wrap (many + (1 : Int))), .i ((4 : Int)), .i (k), .i (o), .i ((0 : Int)), .i ((0 : Int)), .b false, .i ((0 : Int)), .ws (ws)])) := by kernel_rfl
def rswap_t : List Atom → Tree (Nat × List Atom)
  | .i T :: .i S :: .i K :: .i G :: .i Q :: .n l :: .n c :: .i many :: .i tk :: .i ts :: .i to :: .i told :: .i tnew :: .b td :: .i k :: .i o :: .i old :: .i v :: .ws ws :: [] => .br (rowB T S K G Q l ⟨ws, many, tk, ts, to, told, tnew, td⟩ && Nat.beq c l) (.leaf (0, [.i T, .i S, .i K, .i G, .i Q, .n l, .n l, .i ((mswap T S K ⟨ws, many, tk, ts, to, told, tnew, td⟩ k o old v).many), .i ((mswap T S K ⟨ws, many, tk, ts, to, told, tnew, td⟩ k o old v).tk), .i ((mswap T S K ⟨ws, many, tk, ts, to, told, tnew, td⟩ k o old v).ts), .i ((mswap T S K ⟨ws, many, tk, ts, to, told, tnew, td⟩ k o old v).to), .i ((mswap T S K ⟨ws, many, tk, ts, to, told, tnew, td⟩ k o old v).told), .i ((mswap T S K ⟨ws, many, tk, ts, to, told, tnew, td⟩ k o old v).tnew), .b ((mswap T S K ⟨ws, many, tk, ts, to, told, tnew, td⟩ k o old v).td), .b (mok T S K ⟨ws, many, tk, ts, to, told, tnew, td⟩ k o old), .ws ((mswap T S K ⟨ws, many, tk, ts, to, told, tnew, td⟩ k o old v).ws)])) .bad
  | _ => .bad
theorem rswap_st (x : List Atom) (r : Nat × List Atom) (h : (rswap_t x).get = some r) : (endF (ev sums9 60 100) RSwapT x).get = some r := by
  unfold rswap_t at h
  split at h
  · rename_i T S K G Q l c many tk ts to told tnew td k o old v ws
    rw [Tree.get_br] at h
    split at h
    case isFalse => cases h
    case isTrue hR =>
    simp only [Tree.get_leaf, Option.some.injEq] at h
    subst h
    simp only [Bool.and_eq_true] at hR
    obtain ⟨hR, hcl⟩ := hR
    obtain rfl := Nat.eq_of_beq_eq_true hcl
    have hrow := rowB_row hR
    obtain ⟨e, hc⟩ := row_cell hrow k o
    obtain ⟨hRR, hl, hlen⟩ := hrow
    obtain ⟨t1, t2, s1, s2, k1, k2, _⟩ := right_iff.1 hRR
    have hlo : lenOf T S K = 2 + T + 4 * S + K := rfl
    simp only at hl
    have g1 : ¬ c = 0 := by omega
    have g2 : 0 + c * 1 ≤ ws.length := by omega
    have g3 : (0 : Nat) = 0 ∧ 0 = 0 * 1 ∧ (0 + c) * 8 ≤ 140737488355328 ∧ 0 + c ≤ 4611686018427387904 := by omega
    have g4 : ([] ++ List.take (c * 1) (List.drop (0 : Nat) ws)) = ws := by
      show List.take (c * 1) ws = ws
      rw [List.take_of_length_le (by omega)]
    by_cases h0 : 0 ≤ cellOf T S K k o
    · obtain ⟨h1, h2⟩ := hc h0
      have h0' : cellOf T S K k o ≥ 0 := h0
      by_cases ho : ws.getD (cellOf T S K k o).toNat 0 = old
      · have ho2 : (ws.getD (cellOf T S K k o).toNat 0 == old) = true := by rw [beq_iff_eq]; exact ho
        by_cases hv : v = ws.getD (cellOf T S K k o).toNat 0
        · have hv' : (v != ws.getD (cellOf T S K k o).toNat 0) = false := by rw [bne_eq_false_iff_eq]; exact hv
          have g := get_walk (rswap_way_3 k o old v T S K G Q c tk ts to told tnew many td ws) (by simp only [hRR, Nat.zero_add, Nat.mul_one, cond_true, cond_false, decide_eq_true h0', decide_eq_true h1, decide_eq_true h2, ho2, hv'])
          rw [g]
          have h3 : ws.set (cellOf T S K k o).toNat v = ws := by rw [hv]; exact set_same h2
          have ho3 : ∀ x : List Int, (if (decide (0 ≤ cellOf T S K k o) && (ws.getD (cellOf T S K k o).toNat 0 == old)) = true then x else ws) = x := fun x => by rw [ho2, decide_eq_true h0]; rfl
          simp only [mswap, mok, mset, mat, if_pos h0, Nat.zero_add, Nat.mul_one, cond_true, cond_false, decide_eq_true h0, ho2, Bool.and_self, if_true, h3]
        · have hv' : (v != ws.getD (cellOf T S K k o).toNat 0) = true := by rw [bne_iff_ne]; exact hv
          have g := get_walk (rswap_way_0 k o old v T S K G Q c tk ts to told tnew many td ws) (by
            rw [decide_eq_true g3, g4]
            simp only [hRR, Nat.zero_add, Nat.mul_one, cond_true, cond_false, decide_eq_true h0', decide_eq_true h1, decide_eq_true h2, decide_eq_false g1, ho2, hv', decide_eq_true (show c ≤ ws.length by omega)])
          rw [g, g4]
          simp only [mswap, mok, mset, mat, if_pos h0, Nat.zero_add, Nat.mul_one, cond_true, cond_false, decide_eq_true h0, ho2, Bool.and_self, if_true]
      · have ho2 : (ws.getD (cellOf T S K k o).toNat 0 == old) = false := by rw [beq_eq_false_iff_ne]; exact ho
        have g := get_walk (rswap_way_4 k o old v T S K G Q c tk ts to told tnew many td ws) (by simp only [hRR, Nat.zero_add, Nat.mul_one, cond_true, cond_false, decide_eq_true h0', decide_eq_true h1, decide_eq_true h2, ho2, bne_self_eq_false])
        rw [g]
        simp only [mswap, mok, mset, mat, if_pos h0, Nat.zero_add, Nat.mul_one, cond_true, cond_false, decide_eq_true h0, ho2, Bool.and_false, Bool.false_eq_true, if_false]
    · have h0' : ¬ cellOf T S K k o ≥ 0 := h0
      have g := get_walk (rswap_way_5 k o old v T S K G Q c tk ts to told tnew many td ws) (by simp only [hRR, decide_eq_false h0'])
      rw [g]
      simp only [mswap, mok, mset, mat, if_neg h0, decide_eq_false h0, Bool.false_and, Bool.false_eq_true, if_false]
  · cases h
def radd_t : List Atom → Tree (Nat × List Atom)
  | .i T :: .i S :: .i K :: .i G :: .i Q :: .n l :: .n c :: .i many :: .i tk :: .i ts :: .i to :: .i told :: .i tnew :: .b td :: .i k :: .i o :: .i v :: .ws ws :: [] => .br (rowB T S K G Q l ⟨ws, many, tk, ts, to, told, tnew, td⟩ && Nat.beq c l) (.leaf (0, [.i T, .i S, .i K, .i G, .i Q, .n l, .n l, .i ((madd T S K ⟨ws, many, tk, ts, to, told, tnew, td⟩ k o v).many), .i ((madd T S K ⟨ws, many, tk, ts, to, told, tnew, td⟩ k o v).tk), .i ((madd T S K ⟨ws, many, tk, ts, to, told, tnew, td⟩ k o v).ts), .i ((madd T S K ⟨ws, many, tk, ts, to, told, tnew, td⟩ k o v).to), .i ((madd T S K ⟨ws, many, tk, ts, to, told, tnew, td⟩ k o v).told), .i ((madd T S K ⟨ws, many, tk, ts, to, told, tnew, td⟩ k o v).tnew), .b ((madd T S K ⟨ws, many, tk, ts, to, told, tnew, td⟩ k o v).td), .i (mat T S K ⟨ws, many, tk, ts, to, told, tnew, td⟩ k o), .ws ((madd T S K ⟨ws, many, tk, ts, to, told, tnew, td⟩ k o v).ws)])) .bad
  | _ => .bad
theorem radd_st (x : List Atom) (r : Nat × List Atom) (h : (radd_t x).get = some r) : (endF (ev sums9 60 179) RAddT x).get = some r := by
  unfold radd_t at h
  split at h
  · rename_i T S K G Q l c many tk ts to told tnew td k o v ws
    rw [Tree.get_br] at h
    split at h
    case isFalse => cases h
    case isTrue hR =>
    simp only [Tree.get_leaf, Option.some.injEq] at h
    subst h
    simp only [Bool.and_eq_true] at hR
    obtain ⟨hR, hcl⟩ := hR
    obtain rfl := Nat.eq_of_beq_eq_true hcl
    have hrow := rowB_row hR
    obtain ⟨e, hc⟩ := row_cell hrow k o
    obtain ⟨hRR, hl, hlen⟩ := hrow
    obtain ⟨t1, t2, s1, s2, k1, k2, _⟩ := right_iff.1 hRR
    have hlo : lenOf T S K = 2 + T + 4 * S + K := rfl
    simp only at hl
    have g1 : ¬ c = 0 := by omega
    have g2 : 0 + c * 1 ≤ ws.length := by omega
    have g3 : (0 : Nat) = 0 ∧ 0 = 0 * 1 ∧ (0 + c) * 8 ≤ 140737488355328 ∧ 0 + c ≤ 4611686018427387904 := by omega
    have g4 : ([] ++ List.take (c * 1) (List.drop (0 : Nat) ws)) = ws := by
      show List.take (c * 1) ws = ws
      rw [List.take_of_length_le (by omega)]
    by_cases h0 : 0 ≤ cellOf T S K k o
    · obtain ⟨h1, h2⟩ := hc h0
      have h0' : cellOf T S K k o ≥ 0 := h0
      by_cases hv : IntKind.u64.wrap (ws.getD (cellOf T S K k o).toNat 0 + v) = ws.getD (cellOf T S K k o).toNat 0
      · have hv' : (IntKind.u64.wrap (ws.getD (cellOf T S K k o).toNat 0 + v) != ws.getD (cellOf T S K k o).toNat 0) = false := by rw [bne_eq_false_iff_eq]; exact hv
        have g := get_walk (radd_way_3 k o v T S K G Q c tk ts to told tnew many td ws) (by simp only [hRR, Nat.zero_add, Nat.mul_one, cond_true, cond_false, decide_eq_true h0', decide_eq_true h1, decide_eq_true h2, hv'])
        rw [g]
        have h3 : ws.set (cellOf T S K k o).toNat (IntKind.u64.wrap (ws.getD (cellOf T S K k o).toNat 0 + v)) = ws := by rw [hv]; exact set_same h2
        simp only [madd, mset, mat, if_pos h0, Nat.zero_add, Nat.mul_one, cond_true, cond_false, decide_eq_true h0, h3]
      · have hv' : (IntKind.u64.wrap (ws.getD (cellOf T S K k o).toNat 0 + v) != ws.getD (cellOf T S K k o).toNat 0) = true := by rw [bne_iff_ne]; exact hv
        have g := get_walk (radd_way_0 k o v T S K G Q c tk ts to told tnew many td ws) (by
          rw [decide_eq_true g3, g4]
          simp only [hRR, Nat.zero_add, Nat.mul_one, cond_true, cond_false, decide_eq_true h0', decide_eq_true h1, decide_eq_true h2, decide_eq_false g1, hv', decide_eq_true (show c ≤ ws.length by omega)])
        rw [g, g4]
        simp only [madd, mset, mat, if_pos h0, Nat.zero_add, Nat.mul_one, cond_true, cond_false, decide_eq_true h0]
    · have h0' : ¬ cellOf T S K k o ≥ 0 := h0
      have g := get_walk (radd_way_4 k o v T S K G Q c tk ts to told tnew many td ws) (by simp only [hRR, decide_eq_false h0'])
      rw [g]
      simp only [madd, mset, mat, if_neg h0, decide_eq_false h0]
  · cases h
noncomputable def sumsW : Sums := withT (withT (withT (withT sumsA2 187 [(SwapF, swap_t)]) 263 [(AddF, add_t)]) 100 [(RSwapT, rswap_t)]) 179 [(RAddT, radd_t)]
theorem sumsW_ok : SumsOk sumsW := by
  refine withT_ok (withT_ok (withT_ok (withT_ok sumsA2_ok sums9_ok 60 (by kernel_rfl) ?_) sums9_ok 60 (by kernel_rfl) ?_) sums9_ok 60 (by kernel_rfl) ?_) sums9_ok 60 (by kernel_rfl) ?_
  · exact one_t swap_st
  · exact one_t add_st
  · exact one_t rswap_st
  · exact one_t radd_st
end Go.Proofs.YtifojacfedjedaaGreat.Bound
