/- How many slots are of each kind: the loops of the program and of the document. No condition. -/
import Derived.Test.YtkgofabpmppglaaGreatWords
namespace Go.Proofs.YtkgofabpmppglaaGreat.Bound
open Go.Proofs.YtkgofabpmppglaaGreat.Ev Go.Proofs.YtkgofabpmppglaaGreat.ChartMath
set_option linter.unusedVariables false
set_option linter.unusedSimpArgs false
def cfB : CPat := .vals [.int .i64, .int .i64, .int .i64, .int .i64, .int .u64]
def rmB : CPat := .vals [.int .i64, .int .i64, .int .i64, .int .i64]
def FB : LForm := ⟨[1, 2, 4, 5, 7, 8, 24, 25], ⟨[(1, .slice 0 0 none), (2, .ptr 1 0 none), (4, .ptr 2 0 none), (5, .bool), (7, .ptr 3 0 none), (8, .int .i64), (24, .int .i64), (25, .int .i64)], 77,
  [(0, winT, .ints .u64), (1, 24, cfB), (2, 30, rmB), (3, 47, .ints .i64)], 4, []⟩,
  [1, 2, 4, 5, 7, 8], [(0, ⟨[(1, .slice 0 0 none), (2, .ptr 1 0 none), (4, .ptr 2 0 none), (5, .bool), (7, .ptr 3 0 none), (8, .int .i64)], 77,
  [(0, winT, .ints .u64), (1, 24, cfB), (2, 30, rmB), (3, 47, .ints .i64)], 4, []⟩)], []⟩
def FR : LForm := ⟨[1, 2, 4, 5, 6, 7], ⟨[(1, .slice 0 0 none), (2, .ptr 1 0 none), (4, .ptr 2 0 none), (5, .bool), (6, .ptr 3 0 none), (7, .int .i64)], 62,
  [(0, winT, .ints .u64), (1, 24, cfB), (2, 33, rmB), (3, 33, rmB)], 4, []⟩,
  [1, 2, 4, 5, 6], [(0, ⟨[(1, .slice 0 0 none), (2, .ptr 1 0 none), (4, .ptr 2 0 none), (5, .bool), (6, .ptr 3 0 none)], 62,
  [(0, winT, .ints .u64), (1, 24, cfB), (2, 33, rmB), (3, 33, rmB)], 4, []⟩)], []⟩
theorem b_way_1 (l c : Nat) (d out S k T S' K G Q a1 a2 a3 a4 : Int) (db : Bool) (ws st : List Int) : walk (round sums9 60 13 7 1 FB [.n l, .n c, .b db, .i out, .i S, .i k, .ws ws, .i T, .i S', .i K, .i G, .i Q, .i a1, .i a2, .i a3, .i a4, .ws st]) [true, true, true, true, true, true, true, true, true] =
    some ([decide (k < S), decide (0 ≤ cellA T S' K G Q 4 k ∧ cellA T S' K G Q 4 k < ↑l), decide ((0 + (cellA T S' K G Q 4 k).toNat * 1) < ws.length), partP (ws.getD ((0 + (cellA T S' K G Q 4 k).toNat * 1)) 0) 27 3 == 0, true, true, true, true, bif true then decide (partP (ws.getD ((0 + (cellA T S' K G Q 4 k).toNat * 1)) 0) 30 32 > G) else false], (.normal, [.n (l), .n (c), .b (db), .i (IntKind.i64.wrap (out + 1)), .i (S), .i (IntKind.i64.wrap (k + 1)), .ws (ws), .i (T), .i (S'), .i (K), .i (G), .i (Q), .i (a1), .i (a2), .i (a3), .i (a4), .ws (st)])) := by kernel_rfl
theorem b_way_2 (l c : Nat) (d out S k T S' K G Q a1 a2 a3 a4 : Int) (db : Bool) (ws st : List Int) : walk (round sums9 60 13 7 1 FB [.n l, .n c, .b db, .i out, .i S, .i k, .ws ws, .i T, .i S', .i K, .i G, .i Q, .i a1, .i a2, .i a3, .i a4, .ws st]) [true, true, true, true, true, true, true, true, false, true, true, true, true] =
    some ([decide (k < S), decide (0 ≤ cellA T S' K G Q 4 k ∧ cellA T S' K G Q 4 k < ↑l), decide ((0 + (cellA T S' K G Q 4 k).toNat * 1) < ws.length), partP (ws.getD ((0 + (cellA T S' K G Q 4 k).toNat * 1)) 0) 27 3 == 0, true, true, true, true, bif true then decide (partP (ws.getD ((0 + (cellA T S' K G Q 4 k).toNat * 1)) 0) 30 32 > G) else false, decide (0 ≤ partP (ws.getD ((0 + (cellA T S' K G Q 4 k).toNat * 1)) 0) 27 3 ∧ partP (ws.getD ((0 + (cellA T S' K G Q 4 k).toNat * 1)) 0) 27 3 < ↑8), decide ((0 + (partP (ws.getD ((0 + (cellA T S' K G Q 4 k).toNat * 1)) 0) 27 3).toNat * 1) < st.length), decide (0 ≤ partP (ws.getD ((0 + (cellA T S' K G Q 4 k).toNat * 1)) 0) 27 3 ∧ partP (ws.getD ((0 + (cellA T S' K G Q 4 k).toNat * 1)) 0) 27 3 < ↑8), decide ((0 + (partP (ws.getD ((0 + (cellA T S' K G Q 4 k).toNat * 1)) 0) 27 3).toNat * 1) < st.length)], (.normal, [.n (l), .n (c), .b (db), .i (out), .i (S), .i (IntKind.i64.wrap (k + 1)), .ws (ws), .i (T), .i (S'), .i (K), .i (G), .i (Q), .i (a1), .i (a2), .i (a3), .i (a4), .ws (st.set ((0 + (partP (ws.getD ((0 + (cellA T S' K G Q 4 k).toNat * 1)) 0) 27 3).toNat * 1)) (IntKind.i64.wrap (st.getD ((0 + (partP (ws.getD ((0 + (cellA T S' K G Q 4 k).toNat * 1)) 0) 27 3).toNat * 1)) 0 + 1)))])) := by kernel_rfl
theorem b_way_3 (l c : Nat) (d out S k T S' K G Q a1 a2 a3 a4 : Int) (db : Bool) (ws st : List Int) : walk (round sums9 60 13 7 1 FB [.n l, .n c, .b db, .i out, .i S, .i k, .ws ws, .i T, .i S', .i K, .i G, .i Q, .i a1, .i a2, .i a3, .i a4, .ws st]) [true, true, true, false, false, false, false, false, false, false, true, true, true, true] =
    some ([decide (k < S), decide (0 ≤ cellA T S' K G Q 4 k ∧ cellA T S' K G Q 4 k < ↑l), decide ((0 + (cellA T S' K G Q 4 k).toNat * 1) < ws.length), partP (ws.getD ((0 + (cellA T S' K G Q 4 k).toNat * 1)) 0) 27 3 == 0, false, false, false, false, false, false, decide (0 ≤ partP (ws.getD ((0 + (cellA T S' K G Q 4 k).toNat * 1)) 0) 27 3 ∧ partP (ws.getD ((0 + (cellA T S' K G Q 4 k).toNat * 1)) 0) 27 3 < ↑8), decide ((0 + (partP (ws.getD ((0 + (cellA T S' K G Q 4 k).toNat * 1)) 0) 27 3).toNat * 1) < st.length), decide (0 ≤ partP (ws.getD ((0 + (cellA T S' K G Q 4 k).toNat * 1)) 0) 27 3 ∧ partP (ws.getD ((0 + (cellA T S' K G Q 4 k).toNat * 1)) 0) 27 3 < ↑8), decide ((0 + (partP (ws.getD ((0 + (cellA T S' K G Q 4 k).toNat * 1)) 0) 27 3).toNat * 1) < st.length)], (.normal, [.n (l), .n (c), .b (db), .i (out), .i (S), .i (IntKind.i64.wrap (k + 1)), .ws (ws), .i (T), .i (S'), .i (K), .i (G), .i (Q), .i (a1), .i (a2), .i (a3), .i (a4), .ws (st.set ((0 + (partP (ws.getD ((0 + (cellA T S' K G Q 4 k).toNat * 1)) 0) 27 3).toNat * 1)) (IntKind.i64.wrap (st.getD ((0 + (partP (ws.getD ((0 + (cellA T S' K G Q 4 k).toNat * 1)) 0) 27 3).toNat * 1)) 0 + 1)))])) := by kernel_rfl
theorem b_way_4 (l c : Nat) (d out S k T S' K G Q a1 a2 a3 a4 : Int) (db : Bool) (ws st : List Int) : walk (round sums9 60 13 7 1 FB [.n l, .n c, .b db, .i out, .i S, .i k, .ws ws, .i T, .i S', .i K, .i G, .i Q, .i a1, .i a2, .i a3, .i a4, .ws st]) [false] =
    some ([decide (k < S)], (.exit 0, [.n (l), .n (c), .b (db), .i (out), .ws (ws), .i (T), .i (S'), .i (K), .i (G), .i (Q), .i (a1), .i (a2), .i (a3), .i (a4), .ws (st)])) := by kernel_rfl
def words (ws : List Int) : Prop := ∀ n ∈ ws, 0 ≤ n ∧ n < 18446744073709551616
theorem words_get {ws : List Int} (h : words ws) {j : Nat} (hj : j < ws.length) : 0 ≤ ws.getD j 0 ∧ ws.getD j 0 < 18446744073709551616 := by
  rw [List.getD_eq_getElem?_getD, List.getElem?_eq_getElem hj]
  exact h _ (List.getElem_mem hj)
theorem cell4 {T S K : Int} (hT : 1 ≤ T) (hS : 1 ≤ S) (hK : 1 ≤ K) {k : Int} (h0 : 0 ≤ k) (h1 : k < S) : cellOf T S K 4 k = 2 + T + 4 * k := by
  unfold cellOf
  repeat' split
  all_goals omega
/-- What the program's loop has counted. -/
def bRun (T S K G Q : Int) (ws : List Int) : Nat → Int → Int → List Int → Int × List Int
  | 0, k, out, st => (out, st)
  | n + 1, k, out, st => if partP (ws.getD (cellOf T S K 4 k).toNat 0) 27 3 = 0 ∧ partP (ws.getD (cellOf T S K 4 k).toNat 0) 30 32 > G then bRun T S K G Q ws n (k + 1) (IntKind.i64.wrap (out + 1)) st
    else bRun T S K G Q ws n (k + 1) out (st.set (partP (ws.getD (cellOf T S K 4 k).toNat 0) 27 3).toNat (IntKind.i64.wrap (st.getD (partP (ws.getD (cellOf T S K 4 k).toNat 0) 27 3).toNat 0 + 1)))
def rRun (T S K G Q : Int) (ws : List Int) : Nat → Int → Int × Int × Int × Int → Int × Int × Int × Int
  | 0, k, b => b
  | n + 1, k, (b1, b2, b3, b4) => rRun T S K G Q ws n (k + 1) (if partR (ws.getD (cellOf T S K 4 k).toNat 0) 27 3 = 0 then (if partR (ws.getD (cellOf T S K 4 k).toNat 0) 30 32 ≤ G then (IntKind.i64.wrap (b1 + 1), b2, b3, b4) else (b1, b2, b3, IntKind.i64.wrap (b4 + 1)))
    else if partR (ws.getD (cellOf T S K 4 k).toNat 0) 27 3 = 1 ∨ partR (ws.getD (cellOf T S K 4 k).toNat 0) 27 3 = 2 ∨ partR (ws.getD (cellOf T S K 4 k).toNat 0) 27 3 = 3 then (b1, IntKind.i64.wrap (b2 + 1), b3, b4) else (b1, b2, IntKind.i64.wrap (b3 + 1), b4))
def b_I : List Atom → Prop
  | [.n l, .n c, .b db, .i out, .i S, .i k, .ws ws, .i T, .i S', .i K, .i G, .i Q, .i a1, .i a2, .i a3, .i a4, .ws st] => S' = S ∧ right T S K G Q = true ∧ ws.length = l ∧ (l : Int) = lenOf T S K ∧ 0 ≤ k ∧ st.length = 8 ∧ words ws
  | _ => False
def b_out : List Atom → Tree (Ex × List Atom)
  | [.n l, .n c, .b db, .i out, .i S, .i k, .ws ws, .i T, .i S', .i K, .i G, .i Q, .i a1, .i a2, .i a3, .i a4, .ws st] => .leaf (.exit 0, [.n l, .n c, .b db, .i (bRun T S' K G Q ws (S - k).toNat k out st).1, .ws ws, .i T, .i S', .i K, .i G, .i Q, .i a1, .i a2, .i a3, .i a4, .ws (bRun T S' K G Q ws (S - k).toNat k out st).2])
  | _ => .bad
def b_m : List Atom → Nat
  | [.n l, .n c, .b db, .i out, .i S, .i k, .ws ws, .i T, .i S', .i K, .i G, .i Q, .i a1, .i a2, .i a3, .i a4, .ws st] => (S - k).toNat
  | _ => 0
theorem b_step (x : List Atom) (hI : b_I x) : ∃ e y, (round sums9 60 13 7 1 FB x).get = some (e, y) ∧ (e = .normal → b_I y ∧ b_m y < b_m x ∧ (b_out y).get = (b_out x).get) ∧ (e ≠ .normal → (b_out x).get = some (e, y)) := by
  unfold b_I at hI
  split at hI
  · rename_i l c db out S k ws T S' K G Q a1 a2 a3 a4 st
    obtain ⟨rfl, hR, hl, hlen, h0, hst, hws⟩ := hI
    obtain ⟨t1, t2, s1, s2, k1, k2, _⟩ := right_iff.1 hR
    by_cases hk : k < S'
    · have hc := cell4 (T := T) (K := K) t1 s1 k1 h0 hk
      have hlo : lenOf T S' K = 2 + T + 4 * S' + K := rfl
      have hA : cellA T S' K G Q 4 k = cellOf T S' K 4 k := by unfold cellA; rw [hR]; rfl
      have h1 : 0 ≤ cellOf T S' K 4 k ∧ cellOf T S' K 4 k < (l : Int) := by rw [hc]; omega
      have h2 : (cellOf T S' K 4 k).toNat < ws.length := by omega
      obtain ⟨w0, w1⟩ := words_get hws h2
      have hw : IntKind.i64.wrap (k + 1) = k + 1 := by rw [IntKind.wrap_i64]; omega
      have hn : (S' - k).toNat = (S' - (k + 1)).toNat + 1 := by omega
      have hp := partP_is (fr := 27) (many := 3) w0 w1 (by omega)
      have p1 : 0 ≤ partP (ws.getD (cellOf T S' K 4 k).toNat 0) 27 3 ∧ partP (ws.getD (cellOf T S' K 4 k).toNat 0) 27 3 < ((8 : Nat) : Int) := by rw [hp]; omega
      have p1' : 0 ≤ partP (ws.getD (cellOf T S' K 4 k).toNat 0) 27 3 ∧ partP (ws.getD (cellOf T S' K 4 k).toNat 0) 27 3 < 8 := p1
      have p2 : (partP (ws.getD (cellOf T S' K 4 k).toNat 0) 27 3).toNat < st.length := by omega
      by_cases hf : partP (ws.getD (cellOf T S' K 4 k).toNat 0) 27 3 = 0
      · by_cases hg : partP (ws.getD (cellOf T S' K 4 k).toNat 0) 30 32 > G
        · refine ⟨_, _, get_walk (b_way_1 l c 0 out S' k T S' K G Q a1 a2 a3 a4 db ws st) ?_, fun _ => ?_, fun h => absurd rfl h⟩
          · simp only [Nat.zero_add, Nat.mul_one, hA, hf, decide_eq_true hk, decide_eq_true h1, decide_eq_true h2, decide_eq_true hg, beq_self_eq_true, cond_true]
          · rw [hw]
            refine ⟨⟨rfl, hR, hl, hlen, by omega, hst, hws⟩, by show (S' - (k + 1)).toNat < (S' - k).toNat; omega, ?_⟩
            simp only [b_out, hn, bRun, if_pos (show _ ∧ _ from ⟨hf, hg⟩)]
        · refine ⟨_, _, get_walk (b_way_2 l c 0 out S' k T S' K G Q a1 a2 a3 a4 db ws st) ?_, fun _ => ?_, fun h => absurd rfl h⟩
          · rw [hf] at p1 p1' p2
            simp only [Nat.zero_add, Nat.mul_one, hA, hf, decide_eq_true hk, decide_eq_true h1, decide_eq_true h2, decide_eq_false hg, beq_self_eq_true, cond_true, decide_eq_true p1, decide_eq_true p1', decide_eq_true p2]
          · rw [hw]
            simp only [Nat.zero_add, Nat.mul_one, hA]
            refine ⟨⟨rfl, hR, hl, hlen, by omega, by rw [List.length_set]; exact hst, hws⟩, by show (S' - (k + 1)).toNat < (S' - k).toNat; omega, ?_⟩
            simp only [b_out, hn, bRun, if_neg (show ¬ (_ ∧ _) from fun h => hg h.2)]
      · refine ⟨_, _, get_walk (b_way_3 l c 0 out S' k T S' K G Q a1 a2 a3 a4 db ws st) ?_, fun _ => ?_, fun h => absurd rfl h⟩
        · have hf' : (partP (ws.getD (cellOf T S' K 4 k).toNat 0) 27 3 == 0) = false := by simpa using hf
          simp only [Nat.zero_add, Nat.mul_one, hA, hf', decide_eq_true hk, decide_eq_true h1, decide_eq_true h2, decide_eq_true p1, decide_eq_true p1', decide_eq_true p2]
        · rw [hw]
          simp only [Nat.zero_add, Nat.mul_one, hA]
          refine ⟨⟨rfl, hR, hl, hlen, by omega, by rw [List.length_set]; exact hst, hws⟩, by show (S' - (k + 1)).toNat < (S' - k).toNat; omega, ?_⟩
          simp only [b_out, hn, bRun, if_neg (show ¬ (_ ∧ _) from fun h => hf h.1)]
    · refine ⟨_, _, get_walk (b_way_4 l c 0 out S' k T S' K G Q a1 a2 a3 a4 db ws st) (by rw [decide_eq_false hk]), fun h => (by cases h), fun _ => ?_⟩
      have hn : (S' - k).toNat = 0 := by omega
      simp only [b_out, hn, bRun, Tree.get_leaf]
  · exact hI.elim
theorem bodyB_is : bodyOf 13 = some ((bodyOf 13).getD .skip) := by kernel_rfl
noncomputable def sums10 : Sums := withLoop sums9 13 7 (lsum 1 FB b_I b_out)
theorem sums10_ok : SumsOk sums10 := loop_sum sums9_ok b_m bodyB_is (by kernel_rfl) (by decide) b_step
def r_I : List Atom → Prop
  | [.n l, .n c, .b db, .i k, .ws ws, .i T, .i S, .i K, .i G, .i Q, .i a1, .i a2, .i a3, .i a4, .i b1, .i b2, .i b3, .i b4] => right T S K G Q = true ∧ ws.length = l ∧ (l : Int) = lenOf T S K ∧ 0 ≤ k
  | _ => False
def r_out : List Atom → Tree (Ex × List Atom)
  | [.n l, .n c, .b db, .i k, .ws ws, .i T, .i S, .i K, .i G, .i Q, .i a1, .i a2, .i a3, .i a4, .i b1, .i b2, .i b3, .i b4] => .leaf (.exit 0, [.n l, .n c, .b db, .ws ws, .i T, .i S, .i K, .i G, .i Q, .i a1, .i a2, .i a3, .i a4, .i (rRun T S K G Q ws (S - k).toNat k (b1, b2, b3, b4)).1, .i (rRun T S K G Q ws (S - k).toNat k (b1, b2, b3, b4)).2.1, .i (rRun T S K G Q ws (S - k).toNat k (b1, b2, b3, b4)).2.2.1, .i (rRun T S K G Q ws (S - k).toNat k (b1, b2, b3, b4)).2.2.2])
  | _ => .bad
def r_m : List Atom → Nat
  | [.n l, .n c, .b db, .i k, .ws ws, .i T, .i S, .i K, .i G, .i Q, .i a1, .i a2, .i a3, .i a4, .i b1, .i b2, .i b3, .i b4] => (S - k).toNat
  | _ => 0
theorem r_way_1 (l c : Nat) (k T S K G Q a1 a2 a3 a4 b1 b2 b3 b4 : Int) (db : Bool) (ws : List Int) : walk (round sums10 60 14 5 1 FR [.n l, .n c, .b db, .i k, .ws ws, .i T, .i S, .i K, .i G, .i Q, .i a1, .i a2, .i a3, .i a4, .i b1, .i b2, .i b3, .i b4]) [true, true, true, true, true, true] =
    some ([decide (k < S), (right T S K G Q, Value.int IntKind.i64 (ChartMath.cellOf T S K 4 k)).fst, decide (0 ≤ ChartMath.cellOf T S K 4 k ∧ ChartMath.cellOf T S K 4 k < ↑l), decide ((0 + (ChartMath.cellOf T S K 4 k).toNat * 1) < ws.length), partR (ws.getD ((0 + (ChartMath.cellOf T S K 4 k).toNat * 1)) 0) 27 3 == 0, decide (partR (ws.getD ((0 + (ChartMath.cellOf T S K 4 k).toNat * 1)) 0) 30 32 ≤ G)], (.normal, [.n (l), .n (c), .b (db), .i (IntKind.i64.wrap (k + 1)), .ws (ws), .i (T), .i (S), .i (K), .i (G), .i (Q), .i (a1), .i (a2), .i (a3), .i (a4), .i (IntKind.i64.wrap (b1 + 1)), .i (b2), .i (b3), .i (b4)])) := by kernel_rfl
theorem r_way_2 (l c : Nat) (k T S K G Q a1 a2 a3 a4 b1 b2 b3 b4 : Int) (db : Bool) (ws : List Int) : walk (round sums10 60 14 5 1 FR [.n l, .n c, .b db, .i k, .ws ws, .i T, .i S, .i K, .i G, .i Q, .i a1, .i a2, .i a3, .i a4, .i b1, .i b2, .i b3, .i b4]) [true, true, true, true, true, false] =
    some ([decide (k < S), (right T S K G Q, Value.int IntKind.i64 (ChartMath.cellOf T S K 4 k)).fst, decide (0 ≤ ChartMath.cellOf T S K 4 k ∧ ChartMath.cellOf T S K 4 k < ↑l), decide ((0 + (ChartMath.cellOf T S K 4 k).toNat * 1) < ws.length), partR (ws.getD ((0 + (ChartMath.cellOf T S K 4 k).toNat * 1)) 0) 27 3 == 0, decide (partR (ws.getD ((0 + (ChartMath.cellOf T S K 4 k).toNat * 1)) 0) 30 32 ≤ G)], (.normal, [.n (l), .n (c), .b (db), .i (IntKind.i64.wrap (k + 1)), .ws (ws), .i (T), .i (S), .i (K), .i (G), .i (Q), .i (a1), .i (a2), .i (a3), .i (a4), .i (b1), .i (b2), .i (b3), .i (IntKind.i64.wrap (b4 + 1))])) := by kernel_rfl
theorem r_way_3 (l c : Nat) (k T S K G Q a1 a2 a3 a4 b1 b2 b3 b4 : Int) (db : Bool) (ws : List Int) : walk (round sums10 60 14 5 1 FR [.n l, .n c, .b db, .i k, .ws ws, .i T, .i S, .i K, .i G, .i Q, .i a1, .i a2, .i a3, .i a4, .i b1, .i b2, .i b3, .i b4]) [true, true, true, true, false, true, true] =
    some ([decide (k < S), (right T S K G Q, Value.int IntKind.i64 (ChartMath.cellOf T S K 4 k)).fst, decide (0 ≤ ChartMath.cellOf T S K 4 k ∧ ChartMath.cellOf T S K 4 k < ↑l), decide ((0 + (ChartMath.cellOf T S K 4 k).toNat * 1) < ws.length), partR (ws.getD ((0 + (ChartMath.cellOf T S K 4 k).toNat * 1)) 0) 27 3 == 0, partR (ws.getD ((0 + (ChartMath.cellOf T S K 4 k).toNat * 1)) 0) 27 3 == 1, true], (.normal, [.n (l), .n (c), .b (db), .i (IntKind.i64.wrap (k + 1)), .ws (ws), .i (T), .i (S), .i (K), .i (G), .i (Q), .i (a1), .i (a2), .i (a3), .i (a4), .i (b1), .i (IntKind.i64.wrap (b2 + 1)), .i (b3), .i (b4)])) := by kernel_rfl
theorem r_way_4 (l c : Nat) (k T S K G Q a1 a2 a3 a4 b1 b2 b3 b4 : Int) (db : Bool) (ws : List Int) : walk (round sums10 60 14 5 1 FR [.n l, .n c, .b db, .i k, .ws ws, .i T, .i S, .i K, .i G, .i Q, .i a1, .i a2, .i a3, .i a4, .i b1, .i b2, .i b3, .i b4]) [true, true, true, true, false, false, true, true] =
    some ([decide (k < S), (right T S K G Q, Value.int IntKind.i64 (ChartMath.cellOf T S K 4 k)).fst, decide (0 ≤ ChartMath.cellOf T S K 4 k ∧ ChartMath.cellOf T S K 4 k < ↑l), decide ((0 + (ChartMath.cellOf T S K 4 k).toNat * 1) < ws.length), partR (ws.getD ((0 + (ChartMath.cellOf T S K 4 k).toNat * 1)) 0) 27 3 == 0, partR (ws.getD ((0 + (ChartMath.cellOf T S K 4 k).toNat * 1)) 0) 27 3 == 1, partR (ws.getD ((0 + (ChartMath.cellOf T S K 4 k).toNat * 1)) 0) 27 3 == 2, true], (.normal, [.n (l), .n (c), .b (db), .i (IntKind.i64.wrap (k + 1)), .ws (ws), .i (T), .i (S), .i (K), .i (G), .i (Q), .i (a1), .i (a2), .i (a3), .i (a4), .i (b1), .i (IntKind.i64.wrap (b2 + 1)), .i (b3), .i (b4)])) := by kernel_rfl
theorem r_way_5 (l c : Nat) (k T S K G Q a1 a2 a3 a4 b1 b2 b3 b4 : Int) (db : Bool) (ws : List Int) : walk (round sums10 60 14 5 1 FR [.n l, .n c, .b db, .i k, .ws ws, .i T, .i S, .i K, .i G, .i Q, .i a1, .i a2, .i a3, .i a4, .i b1, .i b2, .i b3, .i b4]) [true, true, true, true, false, false, false, true] =
    some ([decide (k < S), (right T S K G Q, Value.int IntKind.i64 (ChartMath.cellOf T S K 4 k)).fst, decide (0 ≤ ChartMath.cellOf T S K 4 k ∧ ChartMath.cellOf T S K 4 k < ↑l), decide ((0 + (ChartMath.cellOf T S K 4 k).toNat * 1) < ws.length), partR (ws.getD ((0 + (ChartMath.cellOf T S K 4 k).toNat * 1)) 0) 27 3 == 0, partR (ws.getD ((0 + (ChartMath.cellOf T S K 4 k).toNat * 1)) 0) 27 3 == 1, partR (ws.getD ((0 + (ChartMath.cellOf T S K 4 k).toNat * 1)) 0) 27 3 == 2, partR (ws.getD ((0 + (ChartMath.cellOf T S K 4 k).toNat * 1)) 0) 27 3 == 3], (.normal, [.n (l), .n (c), .b (db), .i (IntKind.i64.wrap (k + 1)), .ws (ws), .i (T), .i (S), .i (K), .i (G), .i (Q), .i (a1), .i (a2), .i (a3), .i (a4), .i (b1), .i (IntKind.i64.wrap (b2 + 1)), .i (b3), .i (b4)])) := by kernel_rfl
theorem r_way_6 (l c : Nat) (k T S K G Q a1 a2 a3 a4 b1 b2 b3 b4 : Int) (db : Bool) (ws : List Int) : walk (round sums10 60 14 5 1 FR [.n l, .n c, .b db, .i k, .ws ws, .i T, .i S, .i K, .i G, .i Q, .i a1, .i a2, .i a3, .i a4, .i b1, .i b2, .i b3, .i b4]) [true, true, true, true, false, false, false, false] =
    some ([decide (k < S), (right T S K G Q, Value.int IntKind.i64 (ChartMath.cellOf T S K 4 k)).fst, decide (0 ≤ ChartMath.cellOf T S K 4 k ∧ ChartMath.cellOf T S K 4 k < ↑l), decide ((0 + (ChartMath.cellOf T S K 4 k).toNat * 1) < ws.length), partR (ws.getD ((0 + (ChartMath.cellOf T S K 4 k).toNat * 1)) 0) 27 3 == 0, partR (ws.getD ((0 + (ChartMath.cellOf T S K 4 k).toNat * 1)) 0) 27 3 == 1, partR (ws.getD ((0 + (ChartMath.cellOf T S K 4 k).toNat * 1)) 0) 27 3 == 2, partR (ws.getD ((0 + (ChartMath.cellOf T S K 4 k).toNat * 1)) 0) 27 3 == 3], (.normal, [.n (l), .n (c), .b (db), .i (IntKind.i64.wrap (k + 1)), .ws (ws), .i (T), .i (S), .i (K), .i (G), .i (Q), .i (a1), .i (a2), .i (a3), .i (a4), .i (b1), .i (b2), .i (IntKind.i64.wrap (b3 + 1)), .i (b4)])) := by kernel_rfl
theorem r_way_7 (l c : Nat) (k T S K G Q a1 a2 a3 a4 b1 b2 b3 b4 : Int) (db : Bool) (ws : List Int) : walk (round sums10 60 14 5 1 FR [.n l, .n c, .b db, .i k, .ws ws, .i T, .i S, .i K, .i G, .i Q, .i a1, .i a2, .i a3, .i a4, .i b1, .i b2, .i b3, .i b4]) [false] =
    some ([decide (k < S)], (.exit 0, [.n (l), .n (c), .b (db), .ws (ws), .i (T), .i (S), .i (K), .i (G), .i (Q), .i (a1), .i (a2), .i (a3), .i (a4), .i (b1), .i (b2), .i (b3), .i (b4)])) := by kernel_rfl

theorem r_step (x : List Atom) (hI : r_I x) : ∃ e y, (round sums10 60 14 5 1 FR x).get = some (e, y) ∧ (e = .normal → r_I y ∧ r_m y < r_m x ∧ (r_out y).get = (r_out x).get) ∧ (e ≠ .normal → (r_out x).get = some (e, y)) := by
  unfold r_I at hI
  split at hI
  · rename_i l c db k ws T S K G Q a1 a2 a3 a4 b1 b2 b3 b4
    obtain ⟨hR, hl, hlen, h0⟩ := hI
    obtain ⟨t1, t2, s1, s2, k1, k2, _⟩ := right_iff.1 hR
    by_cases hk : k < S
    · have hc := cell4 (T := T) (K := K) t1 s1 k1 h0 hk
      have hlo : lenOf T S K = 2 + T + 4 * S + K := rfl
      have h1 : 0 ≤ cellOf T S K 4 k ∧ cellOf T S K 4 k < (l : Int) := by rw [hc]; omega
      have h2 : (cellOf T S K 4 k).toNat < ws.length := by omega
      have hw : IntKind.i64.wrap (k + 1) = k + 1 := by rw [IntKind.wrap_i64]; omega
      have hn : (S - k).toNat = (S - (k + 1)).toNat + 1 := by omega
      have next : ∀ b1' b2' b3' b4' : Int, (b1', b2', b3', b4') = (if partR (ws.getD (cellOf T S K 4 k).toNat 0) 27 3 = 0 then (if partR (ws.getD (cellOf T S K 4 k).toNat 0) 30 32 ≤ G then (IntKind.i64.wrap (b1 + 1), b2, b3, b4) else (b1, b2, b3, IntKind.i64.wrap (b4 + 1)))
          else if partR (ws.getD (cellOf T S K 4 k).toNat 0) 27 3 = 1 ∨ partR (ws.getD (cellOf T S K 4 k).toNat 0) 27 3 = 2 ∨ partR (ws.getD (cellOf T S K 4 k).toNat 0) 27 3 = 3 then (b1, IntKind.i64.wrap (b2 + 1), b3, b4) else (b1, b2, IntKind.i64.wrap (b3 + 1), b4)) →
          r_I [.n l, .n c, .b db, .i (IntKind.i64.wrap (k + 1)), .ws ws, .i T, .i S, .i K, .i G, .i Q, .i a1, .i a2, .i a3, .i a4, .i b1', .i b2', .i b3', .i b4'] ∧ r_m [.n l, .n c, .b db, .i (IntKind.i64.wrap (k + 1)), .ws ws, .i T, .i S, .i K, .i G, .i Q, .i a1, .i a2, .i a3, .i a4, .i b1', .i b2', .i b3', .i b4'] < r_m [.n l, .n c, .b db, .i k, .ws ws, .i T, .i S, .i K, .i G, .i Q, .i a1, .i a2, .i a3, .i a4, .i b1, .i b2, .i b3, .i b4] ∧
          (r_out [.n l, .n c, .b db, .i (IntKind.i64.wrap (k + 1)), .ws ws, .i T, .i S, .i K, .i G, .i Q, .i a1, .i a2, .i a3, .i a4, .i b1', .i b2', .i b3', .i b4']).get = (r_out [.n l, .n c, .b db, .i k, .ws ws, .i T, .i S, .i K, .i G, .i Q, .i a1, .i a2, .i a3, .i a4, .i b1, .i b2, .i b3, .i b4]).get := by
        intro b1' b2' b3' b4' e
        rw [hw]
        refine ⟨⟨hR, hl, hlen, by omega⟩, by show (S - (k + 1)).toNat < (S - k).toNat; omega, ?_⟩
        simp only [r_out, hn, rRun, ← e]
      by_cases f0 : partR (ws.getD (cellOf T S K 4 k).toNat 0) 27 3 = 0
      · by_cases hg : partR (ws.getD (cellOf T S K 4 k).toNat 0) 30 32 ≤ G
        · refine ⟨_, _, get_walk (r_way_1 l c k T S K G Q a1 a2 a3 a4 b1 b2 b3 b4 db ws) ?_, fun _ => next _ _ _ _ ?_, fun h => absurd rfl h⟩
          · simp only [Nat.zero_add, Nat.mul_one, hR, f0, decide_eq_true hk, decide_eq_true h1, decide_eq_true h2, decide_eq_true hg, beq_self_eq_true]
          · rw [if_pos f0, if_pos hg]
        · refine ⟨_, _, get_walk (r_way_2 l c k T S K G Q a1 a2 a3 a4 b1 b2 b3 b4 db ws) ?_, fun _ => next _ _ _ _ ?_, fun h => absurd rfl h⟩
          · simp only [Nat.zero_add, Nat.mul_one, hR, f0, decide_eq_true hk, decide_eq_true h1, decide_eq_true h2, decide_eq_false hg, beq_self_eq_true]
          · rw [if_pos f0, if_neg hg]
      · have e0 : (partR (ws.getD (cellOf T S K 4 k).toNat 0) 27 3 == 0) = false := by simpa using f0
        by_cases f1 : partR (ws.getD (cellOf T S K 4 k).toNat 0) 27 3 = 1
        · refine ⟨_, _, get_walk (r_way_3 l c k T S K G Q a1 a2 a3 a4 b1 b2 b3 b4 db ws) ?_, fun _ => next _ _ _ _ ?_, fun h => absurd rfl h⟩
          · simp only [Nat.zero_add, Nat.mul_one, hR, e0, show (partR (ws.getD (cellOf T S K 4 k).toNat 0) 27 3 == 1) = true by rw [f1]; rfl, decide_eq_true hk, decide_eq_true h1, decide_eq_true h2]
          · rw [if_neg f0, if_pos (.inl f1)]
        · have e1 : (partR (ws.getD (cellOf T S K 4 k).toNat 0) 27 3 == 1) = false := by simpa using f1
          by_cases f2 : partR (ws.getD (cellOf T S K 4 k).toNat 0) 27 3 = 2
          · refine ⟨_, _, get_walk (r_way_4 l c k T S K G Q a1 a2 a3 a4 b1 b2 b3 b4 db ws) ?_, fun _ => next _ _ _ _ ?_, fun h => absurd rfl h⟩
            · simp only [Nat.zero_add, Nat.mul_one, hR, e0, e1, show (partR (ws.getD (cellOf T S K 4 k).toNat 0) 27 3 == 2) = true by rw [f2]; rfl, decide_eq_true hk, decide_eq_true h1, decide_eq_true h2]
            · rw [if_neg f0, if_pos (.inr (.inl f2))]
          · have e2 : (partR (ws.getD (cellOf T S K 4 k).toNat 0) 27 3 == 2) = false := by simpa using f2
            by_cases f3 : partR (ws.getD (cellOf T S K 4 k).toNat 0) 27 3 = 3
            · refine ⟨_, _, get_walk (r_way_5 l c k T S K G Q a1 a2 a3 a4 b1 b2 b3 b4 db ws) ?_, fun _ => next _ _ _ _ ?_, fun h => absurd rfl h⟩
              · simp only [Nat.zero_add, Nat.mul_one, hR, e0, e1, e2, show (partR (ws.getD (cellOf T S K 4 k).toNat 0) 27 3 == 3) = true by rw [f3]; rfl, decide_eq_true hk, decide_eq_true h1, decide_eq_true h2]
              · rw [if_neg f0, if_pos (.inr (.inr f3))]
            · have e3 : (partR (ws.getD (cellOf T S K 4 k).toNat 0) 27 3 == 3) = false := by simpa using f3
              refine ⟨_, _, get_walk (r_way_6 l c k T S K G Q a1 a2 a3 a4 b1 b2 b3 b4 db ws) ?_, fun _ => next _ _ _ _ ?_, fun h => absurd rfl h⟩
              · simp only [Nat.zero_add, Nat.mul_one, hR, e0, e1, e2, e3, decide_eq_true hk, decide_eq_true h1, decide_eq_true h2]
              · rw [if_neg f0, if_neg (fun h => h.elim f1 (fun h => h.elim f2 f3))]
    · refine ⟨_, _, get_walk (r_way_7 l c k T S K G Q a1 a2 a3 a4 b1 b2 b3 b4 db ws) (by rw [decide_eq_false hk]), fun h => (by cases h), fun _ => ?_⟩
      have hn : (S - k).toNat = 0 := by omega
      simp only [r_out, hn, rRun, Tree.get_leaf]
  · exact hI.elim
theorem bodyR_is : bodyOf 14 = some ((bodyOf 14).getD .skip) := by kernel_rfl
noncomputable def sums11 : Sums := withLoop sums10 14 5 (lsum 1 FR r_I r_out)
theorem sums11_ok : SumsOk sums11 := loop_sum sums10_ok r_m bodyR_is (by kernel_rfl) (by decide) r_step
end Go.Proofs.YtkgofabpmppglaaGreat.Bound
