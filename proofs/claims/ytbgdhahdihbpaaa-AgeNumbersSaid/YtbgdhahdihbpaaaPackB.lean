/- What the chart's printed functions, and the document's, answer, in plain numbers, and their contracts. Conditions: enough rounds, and a config that is right where a lemma says so. The walks of the words of transactions: what status.Unpack tells. Condition: the word is a word. A memory in the heap: its object, and its words. Condition: it is one that a world has. The walk of store's touch, at each of its effects. Condition: the memory is one that a world has. The walks of store's Load and Store. Condition: the memory is one that a world has. -/
import Derived.Test.YtbgdhahdihbpaaaPAgeOldestx6
import Derived.Test.YtbgdhahdihbpaaaPackA
import Derived.IntWalk
import Derived.Test.YtbgdhahdihbpaaaRows
import Derived.WalkSpells
import Derived.WideLaws
import Derived.Deep.RegionHeld3
import Derived.Laws.BitsLemmas
import Derived.Deep.QuietTactic
import Derived.BigQuiet
import Derived.Outline
import Derived.RegionTactic
section
namespace Go.Proofs.Ytbgdhahdihbpaaa.PAgeOldest
open Go.RowKit Go.IntWalk Go.Proofs.Ytbgdhahdihbpaaa.Model Go.Proofs.YtbgdhahdihbpaaaW.PrintWords Go.Proofs.YtbgdhahdihbpaaaW.PrintLast Go.Proofs.YtbgdhahdihbpaaaW.PrintMore Go.Proofs.Ytbgdhahdihbpaaa.ChartMath

theorem clamp_eq {x a b : Int} (h : a ≤ b) : (x == mx a (mn x b)) = decide (a ≤ x ∧ x ≤ b) := by
  rw [Bool.eq_iff_iff]; simp only [beq_iff_eq, decide_eq_true_eq]
  unfold mx mn; split <;> split <;> omega
theorem least_eq {x b : Int} : (x == mn x b) = decide (x ≤ b) := by
  rw [Bool.eq_iff_iff]; simp only [beq_iff_eq, decide_eq_true_eq]
  unfold mn; split <;> omega

theorem right_is (T S K G Q : Int) : chart_Right.f T S K G Q = some (decide (Rt T S K G Q)) := by
  unfold chart_Right.f chart_to.f
  simp only [Option.bind_some]
  rw [clamp_eq (by omega), clamp_eq (by omega), clamp_eq (by omega), clamp_eq (by omega), least_eq]
  congr 1
  rw [Bool.eq_iff_iff]; simp only [Bool.and_eq_true, decide_eq_true_eq]
  exact ⟨fun ⟨a, b, c, d, e⟩ => ⟨a.1, a.2, b.1, b.2, c.1, c.2, d.1, d.2, e⟩, fun ⟨a, b, c, d, e, f, g, h, i⟩ => ⟨⟨a, b⟩, ⟨c, d⟩, ⟨e, f⟩, ⟨g, h⟩, i⟩⟩

theorem of_some (k : Nat) (T S K G Q kind : Int) : ∃ x, chart_of.f (k + 2) T S K G Q kind = some x := by
  unfold chart_of.f
  simp only [chart_of.j0, chart_of.j1]
  repeat' split
  all_goals exact ⟨_, rfl⟩

theorem of_is (k : Nat) {T S K G Q : Int} (kind : Int) (h : Rt T S K G Q) : chart_of.f (k + 2) T S K G Q kind = some (ofv T S K kind) := by
  obtain ⟨h1, h2, h3, h4, h5, h6, _⟩ := h
  have w2 : wrap64 (2 + T) = 2 + T := wrap64_in _ (by omega)
  have w3 : wrap64 (4 * S) = 4 * S := wrap64_in _ (by omega)
  have w4 : wrap64 (2 + T + 4 * S) = 2 + T + 4 * S := wrap64_in _ (by omega)
  unfold chart_of.f ofv
  by_cases a : kind = 1
  · subst a; simp [chart_of.j0]; exact wrap64_in _ (by omega)
  rw [if_neg a, if_neg a]
  by_cases b : kind = 2
  · subst b; simp [chart_of.j0]; exact wrap64_in _ (by omega)
  rw [if_neg b]
  by_cases c : kind = 3
  · subst c; simp [chart_of.j0]
  rw [if_neg c]
  by_cases d : 4 ≤ kind ∧ kind ≤ 7
  · rw [if_pos d]
    have w5 : wrap64 (wrap64 (2 + T + kind) - 4) = 2 + T + kind - 4 := by
      rw [wrap64_in (2 + T + kind) (by omega), wrap64_in _ (by omega)]
    obtain rfl | rfl | rfl | rfl : kind = 4 ∨ kind = 5 ∨ kind = 6 ∨ kind = 7 := by omega
    all_goals simp [chart_of.j0, chart_of.j1, w2, w5]
  rw [if_neg d]
  by_cases e : kind = 8
  · subst e; simp [chart_of.j0, chart_of.j1, w2, w3, w4]
  rw [if_neg e]
  have n4 : kind ≠ 4 := by omega
  have n5 : kind ≠ 5 := by omega
  have n6 : kind ≠ 6 := by omega
  have n7 : kind ≠ 7 := by omega
  simp [chart_of.j0, chart_of.j1, b, c, e, n4, n5, n6, n7]

theorem len_is (k : Nat) (T S K G Q : Int) : chart_Len.f (k + 2) T S K G Q = some (if Rt T S K G Q then lenOf T S K else 0) := by
  unfold chart_Len.f
  rw [right_is]; simp only [Option.bind_some, decide_eq_true_eq]
  by_cases h : Rt T S K G Q
  · rw [if_pos h, if_pos h, of_is k 8 h]
    obtain ⟨h1, h2, h3, h4, h5, h6, _⟩ := h
    simp only [Option.bind_some, ofv, lenOf]
    simp
    rw [wrap64_in _ (by omega)]
  · rw [if_neg h, if_neg h]

theorem cell_is (k : Nat) (T S K G Q kind of : Int) : chart_Cell.f (k + 2) T S K G Q kind of = some (if Rt T S K G Q then cellOf T S K kind of else -1) := by
  unfold chart_Cell.f
  rw [right_is]
  by_cases h : Rt T S K G Q
  · rw [if_pos h, of_is k kind h]
    have hh := h
    obtain ⟨h1, h2, h3, h4, h5, h6, _⟩ := hh
    obtain ⟨r1, r2, r3, r4, r5, r6, _⟩ := ofv_range (kind := kind) ⟨h1, h2⟩ ⟨h3, h4⟩ ⟨h5, h6⟩
    rw [cell_ofv h1 h3 h5]
    simp only [Option.bind_some, decide_eq_true_eq, if_pos h, Bool.and_eq_true, beq_iff_eq]
    split
    · rfl
    split
    · rfl
    split
    · rfl
    rename_i n1 n2
    have q0 : 0 ≤ of * (ofv T S K kind).2.2 := Int.mul_nonneg (by omega) r5
    have q1 : of * (ofv T S K kind).2.2 ≤ 12 * 4 := Int.mul_le_mul (by omega) r6 r5 (by omega)
    rw [wrap64_in (of * (ofv T S K kind).2.2) (by omega), wrap64_in _ (by omega)]
  · obtain ⟨x, hx⟩ := of_some k T S K G Q kind
    rw [hx, if_neg h]
    simp [h]

theorem refright_is (T S K G Q : Int) : umpireref05_Right.f T S K G Q = some (decide (Rt T S K G Q)) := by
  unfold umpireref05_Right.f
  repeat' split
  all_goals (refine congrArg some ?_; rw [Bool.eq_iff_iff]; simp only [decide_eq_true_eq, Bool.false_eq_true, false_iff]; unfold Rt; omega)

def spotN (T S : Int) (i : Nat) : S31 := ⟨kindAt T S i, ofAt T S i⟩
def pre (T S : Int) (n : Nat) : List S31 := (List.range n).map (spotN T S)
theorem pre_len (T S : Int) (n : Nat) : (pre T S n).length = n := by simp [pre]
theorem pre_succ (T S : Int) (n : Nat) : pre T S (n + 1) = pre T S n ++ [spotN T S n] := by simp [pre, List.range_succ]
theorem pre_get (T S : Int) (n : Nat) (i : Int) (h0 : 0 ≤ i) (h1 : i < n) : rd_T31 (pre T S n) i = ⟨kindAt T S i, ofAt T S i⟩ := by
  obtain ⟨j, rfl⟩ := Int.eq_ofNat_of_zero_le h0
  unfold rd_T31 pre
  rw [List.getD_eq_getElem?_getD, Int.toNat_natCast, List.getElem?_map, List.getElem?_range (by omega)]
  rfl

theorem spots_l2 {T S K G Q : Int} (h : Rt T S K G Q) (d : Nat) : ∀ (k n : Nat) (x : Int), x = (n : Int) - 2 - T - 4 * S → 0 ≤ x → K - x = d → d + 1 ≤ k →
    umpireref05_Spots.l2 k (pre T S n) x T S K G Q = some (pre T S (lenOf T S K).toNat) := by
  have hh := h
  obtain ⟨t1, t2, s1, s2, k1, k2, _⟩ := hh
  induction d with
  | zero =>
    intro k n x hx x0 hd hk
    obtain ⟨k, rfl⟩ : ∃ m, k = m + 1 := ⟨k - 1, by omega⟩
    rw [umpireref05_Spots.l2, if_neg (by omega)]
    rw [show (lenOf T S K).toNat = n from by unfold lenOf; omega]
  | succ d ih =>
    intro k n x hx x0 hd hk
    obtain ⟨k, rfl⟩ : ∃ m, k = m + 1 := ⟨k - 1, by omega⟩
    rw [umpireref05_Spots.l2, if_pos (by omega), pre_len, if_pos (by omega), wrap64_in (x + 1) (by omega)]
    have e : spotN T S n = ⟨8, x⟩ := by
      unfold spotN kindAt ofAt
      rw [if_neg (by omega), if_neg (by omega), if_neg (by omega), if_neg (by omega), if_neg (by omega), if_neg (by omega), if_neg (by omega), hx]
    rw [← e, ← pre_succ]
    exact ih k (n + 1) (x + 1) (by omega) (by omega) (by omega) (by omega)

theorem spots_l1 {T S K G Q : Int} (h : Rt T S K G Q) (d : Nat) : ∀ (k n : Nat) (x : Int), (n : Int) = 2 + T + 4 * x → 0 ≤ x → S - x = d → d + 12 ≤ k →
    umpireref05_Spots.l1 k (pre T S n) x T S K G Q = some (pre T S (lenOf T S K).toNat) := by
  have hh := h
  obtain ⟨t1, t2, s1, s2, k1, k2, _⟩ := hh
  induction d with
  | zero =>
    intro k n x hx x0 hd hk
    obtain ⟨k, rfl⟩ : ∃ m, k = m + 1 := ⟨k - 1, by omega⟩
    rw [umpireref05_Spots.l1, if_neg (by omega)]
    exact spots_l2 h K.toNat k n 0 (by omega) (by omega) (by omega) (by omega)
  | succ d ih =>
    intro k n x hx x0 hd hk
    obtain ⟨k, rfl⟩ : ∃ m, k = m + 1 := ⟨k - 1, by omega⟩
    rw [umpireref05_Spots.l1, if_pos (by omega)]
    simp only [Option.bind_some]
    rw [pre_len, if_pos (by simp only [List.length_cons, List.length_nil]; omega), wrap64_in (x + 1) (by omega)]
    have e : ∀ j : Nat, j < 4 → spotN T S (n + j) = ⟨4 + j, x⟩ := by
      intro j hj
      unfold spotN kindAt ofAt
      rw [if_neg (by omega), if_neg (by omega), if_neg (by omega), if_pos (by omega), if_neg (by omega), if_neg (by omega), if_pos (by omega)]
      congr 1 <;> omega
    have e0 := e 0 (by omega)
    have e1 := e 1 (by omega)
    have e2 := e 2 (by omega)
    have e3 := e 3 (by omega)
    have := ih k (n + 4) (x + 1) (by omega) (by omega) (by omega) (by omega)
    rw [pre_succ, pre_succ, pre_succ, pre_succ, e1, e2, e3] at this
    rw [show spotN T S n = ⟨4, x⟩ from e0] at this
    simpa using this

theorem spots_l0 {T S K G Q : Int} (h : Rt T S K G Q) (d : Nat) : ∀ (k n : Nat) (x : Int), (n : Int) = 2 + x → 0 ≤ x → T - x = d → d + 30 ≤ k →
    umpireref05_Spots.l0 k (pre T S n) x T S K G Q = some (pre T S (lenOf T S K).toNat) := by
  have hh := h
  obtain ⟨t1, t2, s1, s2, k1, k2, _⟩ := hh
  induction d with
  | zero =>
    intro k n x hx x0 hd hk
    obtain ⟨k, rfl⟩ : ∃ m, k = m + 1 := ⟨k - 1, by omega⟩
    rw [umpireref05_Spots.l0, if_neg (by omega)]
    exact spots_l1 h S.toNat k n 0 (by omega) (by omega) (by omega) (by omega)
  | succ d ih =>
    intro k n x hx x0 hd hk
    obtain ⟨k, rfl⟩ : ∃ m, k = m + 1 := ⟨k - 1, by omega⟩
    rw [umpireref05_Spots.l0, if_pos (by omega), pre_len, if_pos (by omega), wrap64_in (x + 1) (by omega)]
    have e : spotN T S n = ⟨3, x⟩ := by
      unfold spotN kindAt ofAt
      rw [if_neg (by omega), if_neg (by omega), if_pos (by omega), if_neg (by omega), if_pos (by omega)]
      congr 1; omega
    rw [← e, ← pre_succ]
    exact ih k (n + 1) (x + 1) (by omega) (by omega) (by omega) (by omega)

/-- The document's row of spots. -/
def row (T S K G Q : Int) : List S31 := if Rt T S K G Q then pre T S (lenOf T S K).toNat else []
theorem spots_is (k : Nat) (T S K G Q : Int) : umpireref05_Spots.f (k + 40) T S K G Q = some (row T S K G Q) := by
  unfold umpireref05_Spots.f row
  rw [refright_is]; simp only [Option.bind_some, decide_eq_true_eq]
  by_cases h : Rt T S K G Q
  · rw [if_pos h, if_pos h]
    have e : ([⟨1, 0⟩, ⟨2, 0⟩] : List S31) = pre T S 2 := by
      simp [pre, spotN, List.range_succ, kindAt, ofAt]
    rw [e]
    have hh := h
    obtain ⟨t1, t2, _⟩ := hh
    exact spots_l0 h T.toNat (k + 40) 2 0 (by omega) (by omega) (by omega) (by omega)
  · rw [if_neg h, if_neg h]
theorem row_len (T S K G Q : Int) : ((row T S K G Q).length : Int) = if Rt T S K G Q then lenOf T S K else 0 := by
  unfold row
  split
  · rename_i h
    obtain ⟨t1, t2, s1, s2, k1, k2, _⟩ := h
    rw [pre_len]; unfold lenOf; omega
  · rfl
theorem row_get {T S K G Q i : Int} (h : Rt T S K G Q) (h0 : 0 ≤ i) (h1 : i < lenOf T S K) : rd_T31 (row T S K G Q) i = ⟨kindAt T S i, ofAt T S i⟩ := by
  unfold row; rw [if_pos h]
  exact pre_get _ _ _ _ h0 (by omega)


/-- The document's search finds the cell of the spot. -/
theorem find_loop {T S K G Q kind of : Int} (h : Rt T S K G Q) (d : Nat) : ∀ (k : Nat) (x : Int), 0 ≤ x → (cellOf T S K kind of < 0 ∨ x ≤ cellOf T S K kind of) → lenOf T S K - x = d → d + 1 ≤ k →
    umpireref05_Cell.l0 k kind of (row T S K G Q) x = some (cellOf T S K kind of) := by
  have hh := h
  obtain ⟨t1, t2, s1, s2, k1, k2, _⟩ := hh
  have hl : ((row T S K G Q).length : Int) = lenOf T S K := by rw [row_len, if_pos h]
  have low := cell_low (T := T) (S := S) (K := K) (kind := kind) (of := of) (by omega) (by omega)
  induction d with
  | zero =>
    intro k x x0 hx hd hk
    obtain ⟨k, rfl⟩ : ∃ m, k = m + 1 := ⟨k - 1, by omega⟩
    rw [umpireref05_Cell.l0, if_neg (by omega)]
    rcases hx with hx | hx
    · congr 1; omega
    · have := at_cell (T := T) (S := S) (K := K) (kind := kind) (of := of) (by omega) (by omega) (by omega) (by omega)
      omega
  | succ d ih =>
    intro k x x0 hx hd hk
    obtain ⟨k, rfl⟩ : ∃ m, k = m + 1 := ⟨k - 1, by omega⟩
    rw [umpireref05_Cell.l0, if_pos (by omega), if_pos x0, row_get h x0 (by omega)]
    have hc := cell_at (T := T) (S := S) (K := K) x0 (by omega)
    have len66 : lenOf T S K ≤ 66 := by unfold lenOf; omega
    dsimp only
    by_cases e1 : kindAt T S x = kind
    · rw [if_pos e1]
      by_cases e2 : ofAt T S x = of
      · rw [if_pos e2]; rw [e1, e2] at hc; rw [hc]
      · rw [if_neg e2, wrap64_in (x + 1) (by omega)]
        refine ih k (x + 1) (by omega) ?_ (by omega) (by omega)
        rcases hx with hx | hx
        · exact .inl hx
        · by_cases e : x = cellOf T S K kind of
          · exfalso; subst e
            exact e2 (at_cell (T := T) (S := S) (K := K) (by omega) (by omega) (by omega) x0).2.2
          · right; omega
    · rw [if_neg e1, wrap64_in (x + 1) (by omega)]
      refine ih k (x + 1) (by omega) ?_ (by omega) (by omega)
      rcases hx with hx | hx
      · exact .inl hx
      · by_cases e : x = cellOf T S K kind of
        · exfalso; subst e
          exact e1 (at_cell (T := T) (S := S) (K := K) (by omega) (by omega) (by omega) x0).2.1
        · right; omega

theorem refcell_is (k : Nat) (T S K G Q kind of : Int) : umpireref05_Cell.f (k + 70) T S K G Q kind of = some (if Rt T S K G Q then cellOf T S K kind of else -1) := by
  unfold umpireref05_Cell.f
  rw [spots_is (k + 30)]
  simp only [Option.bind_some]
  by_cases h : Rt T S K G Q
  · rw [if_pos h]
    have hh := h
    obtain ⟨t1, t2, s1, s2, k1, k2, _⟩ := hh
    have low := cell_low (T := T) (S := S) (K := K) (kind := kind) (of := of) (by omega) (by omega)
    exact find_loop h (lenOf T S K).toNat (k + 70) 0 (by omega) (by omega) (by unfold lenOf; omega) (by unfold lenOf; omega)
  · rw [if_neg h]
    have : row T S K G Q = [] := by unfold row; rw [if_neg h]
    rw [this, umpireref05_Cell.l0, if_neg (by simp)]


/-! The contracts. -/
theorem rt_iff (c : Cfg) : Rt c.T c.S c.K c.G c.Q ↔ c.Rt := Iff.rfl
theorem cell_calls (c : Cfg) (kind of : Int) (W : World) :
    Calls Try.prog 41 #[.agg #[.int .i64 c.T, .int .i64 c.S, .int .i64 c.K, .int .i64 c.G, .int .u64 c.Q], .agg #[.int .i64 kind, .int .i64 of]] W fun e w' => e = .returned (.int .i64 (c.cellAny kind of)) ∧ Below W.heap.size W w' :=
  chart_Cell.calls 2 _ _ _ _ _ _ _ _ W (cell_is 0 c.T c.S c.K c.G c.Q kind of)
theorem len_calls (c : Cfg) (W : World) :
    Calls Try.prog 39 #[.agg #[.int .i64 c.T, .int .i64 c.S, .int .i64 c.K, .int .i64 c.G, .int .u64 c.Q]] W fun e w' => e = .returned (.int .i64 c.lenAny) ∧ Below W.heap.size W w' :=
  chart_Len.calls 2 _ _ _ _ _ _ W (len_is 0 c.T c.S c.K c.G c.Q)
theorem refright_calls (c : Cfg) (W : World) :
    Calls Try.prog 31 #[.agg #[.int .i64 c.T, .int .i64 c.S, .int .i64 c.K, .int .i64 c.G, .int .u64 c.Q]] W fun e w' => e = .returned (.bool (decide c.Rt)) ∧ Below W.heap.size W w' :=
  umpireref05_Right.calls _ _ _ _ _ _ W (refright_is c.T c.S c.K c.G c.Q)
theorem reflen_calls (c : Cfg) (W : World) :
    Calls Try.prog 32 #[.agg #[.int .i64 c.T, .int .i64 c.S, .int .i64 c.K, .int .i64 c.G, .int .u64 c.Q]] W fun e w' => e = .returned (.int .i64 c.lenAny) ∧ Below W.heap.size W w' :=
  umpireref05_Len.calls 50 _ _ _ _ _ _ W (by unfold umpireref05_Len.f; rw [spots_is 10]; simp only [Option.bind_some]; rw [row_len]; rfl)
theorem refcell_calls (c : Cfg) (kind of : Int) (W : World) :
    Calls Try.prog 38 #[.agg #[.int .i64 c.T, .int .i64 c.S, .int .i64 c.K, .int .i64 c.G, .int .u64 c.Q], .int .i64 kind, .int .i64 of] W fun e w' => e = .returned (.int .i64 (c.cellAny kind of)) ∧ Below W.heap.size W w' :=
  umpireref05_Cell.calls 80 _ _ _ _ _ _ _ _ W (refcell_is 10 c.T c.S c.K c.G c.Q kind of)
end Go.Proofs.Ytbgdhahdihbpaaa.PAgeOldest
end

section
namespace Go.Proofs.Ytbgdhahdihbpaaa.Status
open Go.RowKit Go.IntWalk Go.Proofs.Ytbgdhahdihbpaaa.Own Go.Proofs.Ytbgdhahdihbpaaa.Model Go.Proofs.YtbgdhahdihbpaaaW.PrintLast
set_option linter.unusedSimpArgs false
set_option linter.unusedVariables false

def partI (w fr many : Int) : Int := w / 2 ^ fr.toNat % 2 ^ many.toNat
theorem wrap_u64 (n : Int) : IntKind.u64.wrap n = n % 18446744073709551616 := by simp [IntKind.wrap, IntKind.bits, IntKind.signed]
theorem wraps_u64 (n : Int) (h₀ : 0 ≤ n) (h₁ : n < 2 ^ 64) : IntKind.u64.wrap n = n := by rw [wrap_u64]; omega
theorem part_num (w fr many : Int) (hw : 0 ≤ w) (hw' : w < 18446744073709551616) (m0 : 0 ≤ many) (m1 : many < 63) :
    wrap64 (bits BinOp.and IntKind.u64 (w / 2 ^ fr.toNat) (IntKind.u64.wrap (IntKind.u64.wrap (2 ^ many.toNat) - 1))) = partI w fr many := by
  have p : (1 : Int) ≤ 2 ^ many.toNat := by exact_mod_cast Nat.one_le_two_pow
  have p2 : (2 : Int) ^ many.toNat ≤ 2 ^ 62 := by exact_mod_cast Nat.pow_le_pow_right (by decide) (by omega)
  have q0 : 0 ≤ w / 2 ^ fr.toNat := Int.ediv_nonneg hw (by exact_mod_cast Nat.zero_le _)
  have q1 : w / 2 ^ fr.toNat ≤ w := Int.ediv_le_self _ hw
  rw [wraps_u64 (2 ^ many.toNat) (by omega) (by omega), wraps_u64 _ (by omega) (by omega)]
  have := bits_mask .u64 64 (by decide) wraps_u64 many.toNat (by omega) (w / 2 ^ fr.toNat) q0 (by omega)
  rw [this]
  unfold partI
  have r0 := Int.emod_nonneg (w / 2 ^ fr.toNat) (show (2 : Int) ^ many.toNat ≠ 0 by omega)
  have r1 := Int.emod_lt_of_pos (w / 2 ^ fr.toNat) (show (0 : Int) < 2 ^ many.toNat by omega)
  exact wrap64_in _ (by omega)

theorem part1 (w fr many : Int) (b c : Nat) (W : World) (hb : Blk W b 3 #[.int .i64 fr]) (hc : Blk W c 3 #[.int .i64 many]) (f0 : 0 ≤ fr) (f1 : fr < 63) (m0 : 0 ≤ many) (m1 : many < 63) (hw : 0 ≤ w) (hw' : w < 18446744073709551616) :
    Calls Try.prog 66 #[.int .u64 w, .pointer (some ⟨b, 0, none⟩), .pointer (some ⟨c, 0, none⟩)] W fun e W' => e = .returned (.int .i64 (partI w fr many)) ∧ Below W.heap.size W W' := by
  have cb := hb.cell 0
  have cc := hc.cell 0
  simp at cb cc
  have hn := Lib.hid (part_num w fr many hw hw' m0 m1)
  go_enter Try.func66, Try.ntmps66
  go_wp2_with fail
  go_quiet (fail)
  go_wp2
  go_ret
  exact ⟨by rw [← hn.out]; rfl, below_drewN (Below.refl _ _) _⟩

theorem part_c (fr many : Int) (W : World) :
    Calls Try.prog 58 #[.int .i64 fr, .int .i64 many] W fun e W' => ∃ b c, e = .returned (.func (.func 66) #[] #[.pointer (some ⟨b, 0, none⟩), .pointer (some ⟨c, 0, none⟩)]) ∧ Blk W' b 3 #[.int .i64 fr] ∧ Blk W' c 3 #[.int .i64 many] ∧ Below W.heap.size W W' := by
  go_enter Try.func58, Try.ntmps58
  go_wp2
  go_ret
  exact ⟨_, _, rfl, ((Blk.new W 3 _).alloc _), Blk.newAt _ _ _ _ (by simp), ((Below.refl _ _).alloc (Nat.le_refl _) _).alloc (by simp) _⟩

def isI (w at' : Int) : Bool := partI w at' 1 == 1
theorem is_c (w at' : Int) (b : Nat) (W : World) (hb : Blk W b 22 #[.int .u64 w]) (f0 : 0 ≤ at') (f1 : at' < 63) (hw : 0 ≤ w) (hw' : w < 18446744073709551616) :
    Calls Try.prog 57 #[.int .i64 at', .pointer (some ⟨b, 0, none⟩)] W fun e W' => e = .returned (.bool (isI w at')) ∧ Below W.heap.size W W' := by
  have cb := hb.cell 0
  have lb := hb.lt
  simp at cb
  go_enter Try.func57, Try.ntmps57
  go_wp2_with fail
  first | (go_region_held3 (fun w' => w'.cell? ⟨b, 0, none⟩ = some (.int .u64 w))
    (first | (go_simp; done) | (go_keep; done) | (rw [hbl.cell (p := ⟨b, 0, none⟩) (by simpa using lb)]; go_simp; done))
    (first
      | (go_at_call 58; refine (part_c _ _ _).mono ?_; rintro e w' ⟨b1, c1, rfl, hb1, hc1, hbl⟩; have cbw : w'.cell? ⟨b, 0, none⟩ = some (.int .u64 w) := (by rw [hbl.cell (p := ⟨b, 0, none⟩) (by simpa using lb)]; go_simp))
      | (go_at_call 66; refine (part1 _ _ _ _ _ _ hb1 hc1 (by omega) (by omega) (by omega) (by omega) (by omega) (by omega)).mono ?_; rintro e w2 ⟨rfl, hbl2⟩; have cbw2 : w2.cell? ⟨b, 0, none⟩ = some (.int .u64 w) := (by have := hbl.size; rw [hbl2.cell (p := ⟨b, 0, none⟩) (by simp at this; simp; omega)]; assumption)))) | fail
  go_wp2
  go_ret
  exact ⟨rfl, below_step (below_step (Below.refl _ _).drew hbl) hbl2⟩

/-- What is read out of a word. -/
theorem bcell {W w1 : World} (hb : Below W.heap.size W w1) : (∀ b o, b < W.heap.size → w1.cell? ⟨b, o, none⟩ = W.cell? ⟨b, o, none⟩) ∧ (∀ b o, b < W.heap.size → w1.frozen? ⟨b, o, none⟩ = W.frozen? ⟨b, o, none⟩) :=
  ⟨fun b o h => hb.cell (p := ⟨b, o, none⟩) h, fun b o h => hb.frozen (p := ⟨b, o, none⟩) h⟩
def statusV (w : Int) : Value := .agg #[.int .i64 (partI w 30 32), .int .i64 (partI w 27 3), .bool (isI w 26), .bool (isI w 25), .bool (isI w 24), .int .i64 (partI w 12 12), .int .i64 (partI w 0 12)]

set_option maxHeartbeats 400000 in
theorem unpack_c (w : Int) (W : World) (hw : 0 ≤ w) (hw' : w < 18446744073709551616) :
    Calls Try.prog 42 #[.int .u64 w] W fun e W' => e = .returned (statusV w) ∧ Below W.heap.size W W' := by
  go_enter Try.func42, Try.ntmps42
  go_wp2_with fail
  have B1 : Blk ((W.alloc (Obj.cells #[.int .u64 w] 22)).alloc (Obj.cells #[.int .i64 0, .int .i64 0, .bool false, .bool false, .bool false, .int .i64 0, .int .i64 0] 88)) W.heap.size 22 #[.int .u64 w] := (Blk.new _ _ _).alloc _
  have B2 : Blk ((W.alloc (Obj.cells #[.int .u64 w] 22)).alloc (Obj.cells #[.int .i64 0, .int .i64 0, .bool false, .bool false, .bool false, .int .i64 0, .int .i64 0] 88)) (W.heap.size + 1) 88 #[.int .i64 0, .int .i64 0, .bool false, .bool false, .bool false, .int .i64 0, .int .i64 0] := Blk.newAt _ _ _ _ (by simp)
  have HB : Below W.heap.size W ((W.alloc (Obj.cells #[.int .u64 w] 22)).alloc (Obj.cells #[.int .i64 0, .int .i64 0, .bool false, .bool false, .bool false, .int .i64 0, .int .i64 0] 88)) := ((Below.refl _ _).alloc (Nat.le_refl _) _).alloc (by simp) _
  refine begin_ (n := 20) (S := fun w' => Blk w' (W.heap.size) (22) #[.int .u64 w] ∧ Blk w' (W.heap.size + 1) (88) #[.int .i64 0, .int .i64 0, .bool false, .bool false, .bool false, .int .i64 0, .int .i64 0] ∧ Below W.heap.size W w') (ds := [19]) #[false, false, false, false, false, false, false, false, false, false, false, false, false, false, false, false, false, false, false, false] (by kernel_rfl) rfl rfl ⟨(by ((exact got); done)), (by ((exact got); done)), (by ((exact gotB); done))⟩ (fun wd hHeld => ?_)
  (try clear B1)
  (try clear B2)
  (try clear HB)
  have ⟨B1, B2, HB⟩ := hHeld
  refine pure_ (i := 6) (N := (some 11)) (v := ?_) (a' := ?_) #[false, false, false, false, false, false, true, false, false, false, false, false, false, false, false, false, false, false, false, false] rfl rfl (by kernel_rfl) (fun _ _ _ h => h) (Or.inl ⟨by rfl, ?_⟩) ?_ ?_; rotate_left; (intro w'; go_simp; with_reducible rfl); rotate_left; (simp only [Act.put, List.setIfInBounds_toArray, List.set_cons_zero, List.set_cons_succ]; rfl)
  refine pure_ (i := 8) (N := (some 13)) (v := ?_) (a' := ?_) #[false, false, false, false, false, false, true, false, true, false, false, false, false, false, false, false, false, false, false, false] rfl rfl (by kernel_rfl) (fun _ _ _ h => h) (Or.inl ⟨by rfl, ?_⟩) ?_ ?_; rotate_left; (intro w'; go_simp; with_reducible rfl); rotate_left; (simp only [Act.put, List.setIfInBounds_toArray, List.set_cons_zero, List.set_cons_succ]; rfl)
  refine pure_ (i := 10) (N := (some 15)) (v := ?_) (a' := ?_) #[false, false, false, false, false, false, true, false, true, false, true, false, false, false, false, false, false, false, false, false] rfl rfl (by kernel_rfl) (fun _ _ _ h => h) (Or.inl ⟨by rfl, ?_⟩) ?_ ?_; rotate_left; (intro w'; go_simp; with_reducible rfl); rotate_left; (simp only [Act.put, List.setIfInBounds_toArray, List.set_cons_zero, List.set_cons_succ]; rfl)
  refine take_ (i := 1) (N := (some 6)) (v := ?_) (a' := ?_) #[false, true, false, false, false, false, true, false, true, false, true, false, false, false, false, false, false, false, false, false] rfl rfl (by kernel_rfl) (fun _ _ _ h => h) (Or.inl ⟨by rfl, ?_⟩) hHeld ?_ ?_; rotate_left; (rintro w' ⟨s0, s1, s2⟩; have c_0 := s0.cell; have f_0 := s0.free; have c_1 := s1.cell; have f_1 := s1.free; go_simp; with_reducible rfl); rotate_left; (simp only [Act.put, List.setIfInBounds_toArray, List.set_cons_zero, List.set_cons_succ]; rfl)
  refine take_ (i := 4) (N := (some 9)) (v := ?_) (a' := ?_) #[false, true, false, false, true, false, true, false, true, false, true, false, false, false, false, false, false, false, false, false] rfl rfl (by kernel_rfl) (fun _ _ _ h => h) (Or.inl ⟨by rfl, ?_⟩) hHeld ?_ ?_; rotate_left; (rintro w' ⟨s0, s1, s2⟩; have c_0 := s0.cell; have f_0 := s0.free; have c_1 := s1.cell; have f_1 := s1.free; go_simp; with_reducible rfl); rotate_left; (simp only [Act.put, List.setIfInBounds_toArray, List.set_cons_zero, List.set_cons_succ]; rfl)
  refine take_ (i := 13) (N := (some 18)) (v := ?_) (a' := ?_) #[false, true, false, false, true, false, true, false, true, false, true, false, false, true, false, false, false, false, false, false] rfl rfl (by kernel_rfl) (fun _ _ _ h => h) (Or.inl ⟨by rfl, ?_⟩) hHeld ?_ ?_; rotate_left; (rintro w' ⟨s0, s1, s2⟩; have c_0 := s0.cell; have f_0 := s0.free; have c_1 := s1.cell; have f_1 := s1.free; go_simp; with_reducible rfl); rotate_left; (simp only [Act.put, List.setIfInBounds_toArray, List.set_cons_zero, List.set_cons_succ]; rfl)
  refine take_ (i := 16) (N := (some 21)) (v := ?_) (a' := ?_) #[false, true, false, false, true, false, true, false, true, false, true, false, false, true, false, false, true, false, false, false] rfl rfl (by kernel_rfl) (fun _ _ _ h => h) (Or.inl ⟨by rfl, ?_⟩) hHeld ?_ ?_; rotate_left; (rintro w' ⟨s0, s1, s2⟩; have c_0 := s0.cell; have f_0 := s0.free; have c_1 := s1.cell; have f_1 := s1.free; go_simp; with_reducible rfl); rotate_left; (simp only [Act.put, List.setIfInBounds_toArray, List.set_cons_zero, List.set_cons_succ]; rfl)
  refine one_ (i := 0) (N := (some 5)) #[true, true, false, false, true, false, true, false, true, false, true, false, false, true, false, false, true, false, false, false] rfl rfl (by kernel_rfl) (by decide) (fun Kc hK => ?_)
  try clear hHeld
  refine goes_ Try.func58 (by kernel_rfl) rfl #[.int .i64 30, .int .i64 32] (by rfl) rfl rfl (by (try simp only [List.map_toArray, List.map_cons, List.map_nil]); first | done | rfl) ?_
  refine (part_c _ _ _).mono ?_
  rintro e w' ⟨b1, c1, rfl, hb1, hc1, hbl⟩
  refine ⟨_, rfl, ?_⟩
  replace B1 := Blk.later hbl B1
  replace B2 := Blk.later hbl B2
  replace HB := below_step HB hbl
  refine hK.out _ _ ⟨B1, B2, HB⟩ (fun hHeld => ?_)
  clear hK Kc
  refine norm_ (a' := ?_) ?_ ?_; rotate_left; (first | (show Act.put _ (some 5) _ = _; (simp only [Act.put, List.setIfInBounds_toArray, List.set_cons_zero, List.set_cons_succ]; rfl)) | rfl)
  refine one_ (i := 2) (N := (some 7)) #[true, true, true, false, true, false, true, false, true, false, true, false, false, true, false, false, true, false, false, false] rfl rfl (by kernel_rfl) (by decide) (fun Kc hK => ?_)
  try clear hHeld
  refine call_ 66 #[.int .u64 w, .pointer (some ⟨b1, 0, none⟩), .pointer (some ⟨c1, 0, none⟩)] (by rfl) rfl (by go_simp) ?_
  refine (part1 _ _ _ _ _ _ hb1 hc1 (by omega) (by omega) (by omega) (by omega) (by omega) (by omega)).mono ?_
  rintro e w' ⟨rfl, hbl⟩
  refine ⟨_, rfl, ?_⟩
  replace B1 := Blk.later hbl B1
  replace B2 := Blk.later hbl B2
  replace HB := below_step HB hbl
  refine hK.out _ _ ⟨B1, B2, HB⟩ (fun hHeld => ?_)
  clear hK Kc
  refine norm_ (a' := ?_) ?_ ?_; rotate_left; (first | (show Act.put _ (some 7) _ = _; (simp only [Act.put, List.setIfInBounds_toArray, List.set_cons_zero, List.set_cons_succ]; rfl)) | rfl)
  refine one_ (i := 3) (N := (some 8)) #[true, true, true, true, true, false, true, false, true, false, true, false, false, true, false, false, true, false, false, false] rfl rfl (by kernel_rfl) (by decide) (fun Kc hK => ?_)
  try clear hHeld
  refine goes_ Try.func58 (by kernel_rfl) rfl #[.int .i64 27, .int .i64 3] (by rfl) rfl rfl (by (try simp only [List.map_toArray, List.map_cons, List.map_nil]); first | done | rfl) ?_
  refine (part_c _ _ _).mono ?_
  rintro e w' ⟨b1, c1, rfl, hb1, hc1, hbl⟩
  refine ⟨_, rfl, ?_⟩
  replace B1 := Blk.later hbl B1
  replace B2 := Blk.later hbl B2
  replace HB := below_step HB hbl
  refine hK.out _ _ ⟨B1, B2, HB⟩ (fun hHeld => ?_)
  clear hK Kc
  refine norm_ (a' := ?_) ?_ ?_; rotate_left; (first | (show Act.put _ (some 8) _ = _; (simp only [Act.put, List.setIfInBounds_toArray, List.set_cons_zero, List.set_cons_succ]; rfl)) | rfl)
  refine one_ (i := 5) (N := (some 10)) #[true, true, true, true, true, true, true, false, true, false, true, false, false, true, false, false, true, false, false, false] rfl rfl (by kernel_rfl) (by decide) (fun Kc hK => ?_)
  try clear hHeld
  refine call_ 66 #[.int .u64 w, .pointer (some ⟨b1, 0, none⟩), .pointer (some ⟨c1, 0, none⟩)] (by rfl) rfl (by go_simp) ?_
  refine (part1 _ _ _ _ _ _ hb1 hc1 (by omega) (by omega) (by omega) (by omega) (by omega) (by omega)).mono ?_
  rintro e w' ⟨rfl, hbl⟩
  refine ⟨_, rfl, ?_⟩
  replace B1 := Blk.later hbl B1
  replace B2 := Blk.later hbl B2
  replace HB := below_step HB hbl
  refine hK.out _ _ ⟨B1, B2, HB⟩ (fun hHeld => ?_)
  clear hK Kc
  refine norm_ (a' := ?_) ?_ ?_; rotate_left; (first | (show Act.put _ (some 10) _ = _; (simp only [Act.put, List.setIfInBounds_toArray, List.set_cons_zero, List.set_cons_succ]; rfl)) | rfl)
  refine one_ (i := 7) (N := (some 12)) #[true, true, true, true, true, true, true, true, true, false, true, false, false, true, false, false, true, false, false, false] rfl rfl (by kernel_rfl) (by decide) (fun Kc hK => ?_)
  try clear hHeld
  refine call_ 57 #[.int .i64 26, .pointer (some ⟨W.heap.size, 0, none⟩)] (by rfl) rfl (by go_simp) ?_
  refine (is_c _ _ _ _ B1 (by omega) (by omega) (by omega) (by omega)).mono ?_
  rintro e w' ⟨rfl, hbl⟩
  refine ⟨_, rfl, ?_⟩
  replace B1 := Blk.later hbl B1
  replace B2 := Blk.later hbl B2
  replace HB := below_step HB hbl
  refine hK.out _ _ ⟨B1, B2, HB⟩ (fun hHeld => ?_)
  clear hK Kc
  refine norm_ (a' := ?_) ?_ ?_; rotate_left; (first | (show Act.put _ (some 12) _ = _; (simp only [Act.put, List.setIfInBounds_toArray, List.set_cons_zero, List.set_cons_succ]; rfl)) | rfl)
  refine one_ (i := 9) (N := (some 14)) #[true, true, true, true, true, true, true, true, true, true, true, false, false, true, false, false, true, false, false, false] rfl rfl (by kernel_rfl) (by decide) (fun Kc hK => ?_)
  try clear hHeld
  refine call_ 57 #[.int .i64 25, .pointer (some ⟨W.heap.size, 0, none⟩)] (by rfl) rfl (by go_simp) ?_
  refine (is_c _ _ _ _ B1 (by omega) (by omega) (by omega) (by omega)).mono ?_
  rintro e w' ⟨rfl, hbl⟩
  refine ⟨_, rfl, ?_⟩
  replace B1 := Blk.later hbl B1
  replace B2 := Blk.later hbl B2
  replace HB := below_step HB hbl
  refine hK.out _ _ ⟨B1, B2, HB⟩ (fun hHeld => ?_)
  clear hK Kc
  refine norm_ (a' := ?_) ?_ ?_; rotate_left; (first | (show Act.put _ (some 14) _ = _; (simp only [Act.put, List.setIfInBounds_toArray, List.set_cons_zero, List.set_cons_succ]; rfl)) | rfl)
  refine one_ (i := 11) (N := (some 16)) #[true, true, true, true, true, true, true, true, true, true, true, true, false, true, false, false, true, false, false, false] rfl rfl (by kernel_rfl) (by decide) (fun Kc hK => ?_)
  try clear hHeld
  refine call_ 57 #[.int .i64 24, .pointer (some ⟨W.heap.size, 0, none⟩)] (by rfl) rfl (by go_simp) ?_
  refine (is_c _ _ _ _ B1 (by omega) (by omega) (by omega) (by omega)).mono ?_
  rintro e w' ⟨rfl, hbl⟩
  refine ⟨_, rfl, ?_⟩
  replace B1 := Blk.later hbl B1
  replace B2 := Blk.later hbl B2
  replace HB := below_step HB hbl
  refine hK.out _ _ ⟨B1, B2, HB⟩ (fun hHeld => ?_)
  clear hK Kc
  refine norm_ (a' := ?_) ?_ ?_; rotate_left; (first | (show Act.put _ (some 16) _ = _; (simp only [Act.put, List.setIfInBounds_toArray, List.set_cons_zero, List.set_cons_succ]; rfl)) | rfl)
  refine one_ (i := 12) (N := (some 17)) #[true, true, true, true, true, true, true, true, true, true, true, true, true, true, false, false, true, false, false, false] rfl rfl (by kernel_rfl) (by decide) (fun Kc hK => ?_)
  try clear hHeld
  refine goes_ Try.func58 (by kernel_rfl) rfl #[.int .i64 12, .int .i64 12] (by rfl) rfl rfl (by (try simp only [List.map_toArray, List.map_cons, List.map_nil]); first | done | rfl) ?_
  refine (part_c _ _ _).mono ?_
  rintro e w' ⟨b1, c1, rfl, hb1, hc1, hbl⟩
  refine ⟨_, rfl, ?_⟩
  replace B1 := Blk.later hbl B1
  replace B2 := Blk.later hbl B2
  replace HB := below_step HB hbl
  refine hK.out _ _ ⟨B1, B2, HB⟩ (fun hHeld => ?_)
  clear hK Kc
  refine norm_ (a' := ?_) ?_ ?_; rotate_left; (first | (show Act.put _ (some 17) _ = _; (simp only [Act.put, List.setIfInBounds_toArray, List.set_cons_zero, List.set_cons_succ]; rfl)) | rfl)
  refine one_ (i := 14) (N := (some 19)) #[true, true, true, true, true, true, true, true, true, true, true, true, true, true, true, false, true, false, false, false] rfl rfl (by kernel_rfl) (by decide) (fun Kc hK => ?_)
  try clear hHeld
  refine call_ 66 #[.int .u64 w, .pointer (some ⟨b1, 0, none⟩), .pointer (some ⟨c1, 0, none⟩)] (by rfl) rfl (by go_simp) ?_
  refine (part1 _ _ _ _ _ _ hb1 hc1 (by omega) (by omega) (by omega) (by omega) (by omega) (by omega)).mono ?_
  rintro e w' ⟨rfl, hbl⟩
  refine ⟨_, rfl, ?_⟩
  replace B1 := Blk.later hbl B1
  replace B2 := Blk.later hbl B2
  replace HB := below_step HB hbl
  refine hK.out _ _ ⟨B1, B2, HB⟩ (fun hHeld => ?_)
  clear hK Kc
  refine norm_ (a' := ?_) ?_ ?_; rotate_left; (first | (show Act.put _ (some 19) _ = _; (simp only [Act.put, List.setIfInBounds_toArray, List.set_cons_zero, List.set_cons_succ]; rfl)) | rfl)
  refine one_ (i := 15) (N := (some 20)) #[true, true, true, true, true, true, true, true, true, true, true, true, true, true, true, true, true, false, false, false] rfl rfl (by kernel_rfl) (by decide) (fun Kc hK => ?_)
  try clear hHeld
  refine goes_ Try.func58 (by kernel_rfl) rfl #[.int .i64 0, .int .i64 12] (by rfl) rfl rfl (by (try simp only [List.map_toArray, List.map_cons, List.map_nil]); first | done | rfl) ?_
  refine (part_c _ _ _).mono ?_
  rintro e w' ⟨b1, c1, rfl, hb1, hc1, hbl⟩
  refine ⟨_, rfl, ?_⟩
  replace B1 := Blk.later hbl B1
  replace B2 := Blk.later hbl B2
  replace HB := below_step HB hbl
  refine hK.out _ _ ⟨B1, B2, HB⟩ (fun hHeld => ?_)
  clear hK Kc
  refine norm_ (a' := ?_) ?_ ?_; rotate_left; (first | (show Act.put _ (some 20) _ = _; (simp only [Act.put, List.setIfInBounds_toArray, List.set_cons_zero, List.set_cons_succ]; rfl)) | rfl)
  refine one_ (i := 17) (N := (some 22)) #[true, true, true, true, true, true, true, true, true, true, true, true, true, true, true, true, true, true, false, false] rfl rfl (by kernel_rfl) (by decide) (fun Kc hK => ?_)
  try clear hHeld
  refine call_ 66 #[.int .u64 w, .pointer (some ⟨b1, 0, none⟩), .pointer (some ⟨c1, 0, none⟩)] (by rfl) rfl (by go_simp) ?_
  refine (part1 _ _ _ _ _ _ hb1 hc1 (by omega) (by omega) (by omega) (by omega) (by omega) (by omega)).mono ?_
  rintro e w' ⟨rfl, hbl⟩
  refine ⟨_, rfl, ?_⟩
  replace B1 := Blk.later hbl B1
  replace B2 := Blk.later hbl B2
  replace HB := below_step HB hbl
  refine hK.out _ _ ⟨B1, B2, HB⟩ (fun hHeld => ?_)
  clear hK Kc
  refine norm_ (a' := ?_) ?_ ?_; rotate_left; (first | (show Act.put _ (some 22) _ = _; (simp only [Act.put, List.setIfInBounds_toArray, List.set_cons_zero, List.set_cons_succ]; rfl)) | rfl)
  refine pure_ (i := 18) (N := (some 23)) (v := ?_) (a' := ?_) #[true, true, true, true, true, true, true, true, true, true, true, true, true, true, true, true, true, true, true, false] rfl rfl (by kernel_rfl) (fun _ _ _ h => h) (Or.inl ⟨by rfl, ?_⟩) ?_ ?_; rotate_left; (intro w'; go_simp; with_reducible rfl); rotate_left; (simp only [Act.put, List.setIfInBounds_toArray, List.set_cons_zero, List.set_cons_succ]; rfl)
  refine last_ (i := 19) (N := none) #[true, true, true, true, true, true, true, true, true, true, true, true, true, true, true, true, true, true, true, true] rfl rfl (by kernel_rfl) (by decide) (fun Kc hK => ?_)
  try clear hHeld
  have c_2 := B2.cell
  have f_2 := B2.free
  rw [if_pos (by rfl)]
  go_simp
  refine hK.out _ _ ?_
  clear hK Kc
  refine norm_ (a' := ?_) ?_ ?_; rotate_left; (first | (show Act.put _ none _ = _; (simp only [Act.put, List.setIfInBounds_toArray, List.set_cons_zero, List.set_cons_succ]; rfl)) | rfl)
  try clear hHeld
  refine done_ (by kernel_rfl) ?_
  go_wp2
  have R := ((((((B2.set 0 (.int .i64 (partI w 30 32))).set 1 (.int .i64 (partI w 27 3))).set 2 (.bool (isI w 26))).set 3 (.bool (isI w 25))).set 4 (.bool (isI w 24))).set 5 (.int .i64 (partI w 12 12))).set 6 (.int .i64 (partI w 0 12))
  simp at R
  have cR := R.cell
  refine bodyPost_ret (v := statusV w) (by simp [results, Try.results42, cR, go_sem]; rfl) rfl ⟨rfl, ?_⟩
  repeat (refine Below.setCell ?_ (by simp) _)
  exact HB
end Go.Proofs.Ytbgdhahdihbpaaa.Status
end

section
namespace Go.Proofs.Ytbgdhahdihbpaaa.Store
open Go.RowKit Go.IntWalk Go.Proofs.Ytbgdhahdihbpaaa.Own Go.Proofs.Ytbgdhahdihbpaaa.Model Go.Proofs.YtbgdhahdihbpaaaW.PrintLast
set_option linter.unusedSimpArgs false
set_option linter.unusedVariables false

def memCells (wb : Nat) (M : Mem) : Array Value := #[.int .i64 M.c.T, .int .i64 M.c.S, .int .i64 M.c.K, .int .i64 M.c.G, .int .u64 M.c.Q, .slice (some ⟨wb, 0, none⟩) M.ws.length M.ws.length, .int .i64 M.last.kind, .int .i64 M.last.sk, .int .i64 M.last.so, .int .u64 M.last.old, .int .u64 M.last.new, .bool M.last.done, .int .i64 M.many]
def wordsV (ws : List Int) : Array Value := (ws.map (Value.int .u64)).toArray
structure MemAt (W : World) (m wb : Nat) (M : Mem) : Prop where
  obj : Blk W m 85 (memCells wb M)
  words : Blk W wb 22 (wordsV M.ws)
  ok : M.Ok
theorem MemAt.ne {W : World} {m wb : Nat} {M : Mem} (h : MemAt W m wb M) : m ≠ wb := h.obj.ne h.words (by decide)
theorem MemAt.keep {W W' : World} {m wb : Nat} {M : Mem} {S : Nat → Prop} (h : MemAt W m wb M) (k : Keep S W W') (h1 : ¬ S m) (h2 : ¬ S wb) : MemAt W' m wb M := ⟨h.obj.keep k h1, h.words.keep k h2, h.ok⟩
theorem MemAt.later {W W' : World} {m wb : Nat} {M : Mem} (h : MemAt W m wb M) (k : Below W.heap.size W W') : MemAt W' m wb M := ⟨h.obj.below k, h.words.below k, h.ok⟩
theorem MemAt.alloc {W : World} {m wb : Nat} {M : Mem} (h : MemAt W m wb M) (o : Obj) : MemAt (W.alloc o) m wb M := ⟨h.obj.alloc o, h.words.alloc o, h.ok⟩
theorem MemAt.drew {W : World} {m wb : Nat} {M : Mem} (h : MemAt W m wb M) : MemAt W.drew m wb M := ⟨h.obj.drew, h.words.drew, h.ok⟩
theorem MemAt.drewN {W : World} {m wb : Nat} {M : Mem} (h : MemAt W m wb M) (n : Nat) : MemAt (W.drewN n) m wb M := ⟨h.obj.drewN n, h.words.drewN n, h.ok⟩
theorem MemAt.far {W : World} {m wb : Nat} {M : Mem} (h : MemAt W m wb M) {p : Addr} (h1 : m ≠ p.block) (h2 : wb ≠ p.block) (u : Value) : MemAt (W.setCell p u) m wb M := ⟨h.obj.far h1 u, h.words.far h2 u, h.ok⟩
theorem words_at {ws : List Int} {n : Nat} (h : n < ws.length) : (wordsV ws)[n]? = some (.int .u64 (ws.getD n 0)) := by
  simp [wordsV, List.getD_eq_getElem?_getD, List.getElem?_eq_getElem h]
@[simp] theorem words_set {ws : List Int} {n : Nat} {v : Int} : (wordsV ws).setIfInBounds n (.int .u64 v) = wordsV (ws.set n v) := by
  simp [wordsV]

theorem cell_c (c : Cfg) (h : c.Rt) (kind of : Int) (W : World) :
    Calls Try.prog 41 #[.agg #[.int .i64 c.T, .int .i64 c.S, .int .i64 c.K, .int .i64 c.G, .int .u64 c.Q], .agg #[.int .i64 kind, .int .i64 of]] W fun e w' => e = .returned (.int .i64 (c.cell kind of)) ∧ Below W.heap.size W w' := by
  refine (PAgeOldest.cell_calls c kind of W).mono ?_
  rintro e w' ⟨rfl, hb⟩
  refine ⟨?_, hb⟩
  unfold Cfg.cellAny; rw [if_pos h]

def tchV (t : Tch) : Value := .agg #[.int .i64 t.kind, .int .i64 t.sk, .int .i64 t.so, .int .u64 t.old, .int .u64 t.new, .bool t.done]
theorem fld_old (a b c d e : Int) (f : Bool) (w : World) : (Instr.field 83 (.agg #[.int .i64 a, .int .i64 b, .int .i64 c, .int .u64 d, .int .u64 e, .bool f]) 2).run Try.prog w = .ok (.int .u64 d) w := by kernel_rfl
theorem fld_done (a b c d e : Int) (f : Bool) (w : World) : (Instr.field 83 (.agg #[.int .i64 a, .int .i64 b, .int .i64 c, .int .u64 d, .int .u64 e, .bool f]) 4).run Try.prog w = .ok (.bool f) w := by kernel_rfl
theorem lays_c (o v was : Int) (W : World) : Calls Try.prog 44 #[.agg #[.int .u64 o, .int .u64 v], .int .u64 was] W fun e W' => e = .returned (.tuple #[.int .u64 (layF v was).1, .bool (layF v was).2]) ∧ Below W.heap.size W W' := by
  go_enter Try.func44, Try.ntmps44
  go_wp2
  go_ret2
  exact ⟨rfl, (Below.refl _ _).alloc (Nat.le_refl _) _⟩
theorem same_c (o v was : Int) (W : World) : Calls Try.prog 68 #[.agg #[.int .u64 o, .int .u64 v], .int .u64 was] W fun e W' => e = .returned (.tuple #[.int .u64 (sameF was).1, .bool (sameF was).2]) ∧ Below W.heap.size W W' := by
  go_enter Try.func68, Try.ntmps68
  go_wp2
  go_ret2
  exact ⟨rfl, (Below.refl _ _).alloc (Nat.le_refl _) _⟩
end Go.Proofs.Ytbgdhahdihbpaaa.Store
end

section
namespace Go.Proofs.Ytbgdhahdihbpaaa.Store
open Go.RowKit Go.IntWalk Go.Proofs.Ytbgdhahdihbpaaa.Own Go.Proofs.Ytbgdhahdihbpaaa.Model Go.Proofs.YtbgdhahdihbpaaaW.PrintLast
set_option linter.unusedSimpArgs false
set_option linter.unusedVariables false

set_option maxHeartbeats 1000000 in
theorem touch_lays (m wb : Nat) (M : Mem) (k sk so o v : Int) (W : World) (h : MemAt W m wb M) (hF : WordF (layF v)) :
    Calls Try.prog 43 #[.pointer (some ⟨m, 0, none⟩), .int .i64 k, .agg #[.int .i64 sk, .int .i64 so], .func (.func 44) #[.agg #[.int .u64 o, .int .u64 v]] #[]] W
      fun e W' => e = .returned (tchV (M.acc k sk so (layF v)).last) ∧ MemAt W' m wb (M.acc k sk so (layF v)) ∧ Keep (fun i => i = m ∨ i = wb) W W' := by
  have hr := Cfg.cell_range h.ok.rt sk so
  have Bm := h.obj
  have Bw := h.words
  have lm := Bm.lt
  have lw := Bw.lt
  have hne := h.ne
  have hne' := hne.symm
  have cm := Bm.cell
  have fm := Bm.free
  unfold memCells at Bm cm
  by_cases hc : 0 ≤ M.c.cell sk so
  · obtain ⟨n, hn⟩ := Int.eq_ofNat_of_zero_le hc
    have hl : n < M.ws.length := by have := h.ok.len; omega
    have cw : W.cell? ⟨wb, n, none⟩ = some (.int .u64 (M.at sk so)) := by
      rw [Bw.cell, words_at hl]; unfold Mem.at; rw [if_pos hc, hn]; rfl
    have HN := Lib.hid hn
    clear hn
    go_enter Try.func43, Try.ntmps43
    go_wp2_with fail
    refine begin_ (n := 7) (S := fun w' => Blk w' (m) (85) #[.int .i64 M.c.T, .int .i64 M.c.S, .int .i64 M.c.K, .int .i64 M.c.G, .int .u64 M.c.Q, .slice (some ⟨wb, 0, none⟩) M.ws.length M.ws.length, .int .i64 M.last.kind, .int .i64 M.last.sk, .int .i64 M.last.so, .int .u64 M.last.old, .int .u64 M.last.new, .bool M.last.done, .int .i64 M.many] ∧ Blk w' (wb) (22) (wordsV M.ws) ∧ Blk w' (W.heap.size) (59) #[.int .i64 sk, .int .i64 so] ∧ Blk w' (W.heap.size + 1) (83) #[.int .i64 0, .int .i64 0, .int .i64 0, .int .u64 0, .int .u64 0, .bool false] ∧ Blk w' (W.heap.size + 1 + 1) (83) #[.int .i64 k, .int .i64 sk, .int .i64 so, .int .u64 0, .int .u64 0, .bool false] ∧ Keep (fun i => i = m ∨ i = wb) W w') (ds := []) #[false, false, false, false, false, false, false] (by kernel_rfl) rfl rfl ⟨(by ((exact got); done)), (by ((exact got); done)), (by ((exact got); done)), (by ((exact got); done)), (by ((exact got); done)), (by ((exact gotK); done))⟩ (fun wd hHeld => ?_)
    (try clear Bm)
    (try clear Bw)
    (try clear B0)
    (try clear B1)
    (try clear B2)
    (try clear HK)
    have ⟨Bm, Bw, B0, B1, B2, HK⟩ := hHeld
    refine pure_ (i := 0) (N := (some 14)) (v := ?_) (a' := ?_) #[true, false, false, false, false, false, false] rfl rfl (by kernel_rfl) (fun _ _ _ h => h) (Or.inl ⟨by rfl, ?_⟩) ?_ ?_; rotate_left; (intro w'; go_simp; with_reducible rfl); rotate_left; (simp only [Act.put, List.setIfInBounds_toArray, List.set_cons_zero, List.set_cons_succ]; rfl)
    refine pure_ (i := 1) (N := (some 15)) (v := ?_) (a' := ?_) #[true, true, false, false, false, false, false] rfl rfl (by kernel_rfl) (fun _ _ _ h => h) (Or.inl ⟨by rfl, ?_⟩) ?_ ?_; rotate_left; (intro w'; go_simp; with_reducible rfl); rotate_left; (simp only [Act.put, List.setIfInBounds_toArray, List.set_cons_zero, List.set_cons_succ]; rfl)
    refine pure_ (i := 2) (N := (some 16)) (v := ?_) (a' := ?_) #[true, true, true, false, false, false, false] rfl rfl (by kernel_rfl) (fun _ _ _ h => h) (Or.inl ⟨by rfl, ?_⟩) ?_ ?_; rotate_left; (intro w'; go_simp; with_reducible rfl); rotate_left; (simp only [Act.put, List.setIfInBounds_toArray, List.set_cons_zero, List.set_cons_succ]; rfl)
    refine take_ (i := 3) (N := (some 17)) (v := ?_) (a' := ?_) #[true, true, true, true, false, false, false] rfl rfl (by kernel_rfl) (fun _ _ _ h => h) (Or.inl ⟨by rfl, ?_⟩) hHeld ?_ ?_; rotate_left; (rintro w' ⟨s0, s1, s2, s3, s4, s5⟩; have c_0 := s0.cell; have f_0 := s0.free; have c_1 := s1.cell; have f_1 := s1.free; have c_2 := s2.cell; have f_2 := s2.free; have c_3 := s3.cell; have f_3 := s3.free; have c_4 := s4.cell; have f_4 := s4.free; go_simp; with_reducible rfl); rotate_left; (simp only [Act.put, List.setIfInBounds_toArray, List.set_cons_zero, List.set_cons_succ]; rfl)
    refine take_ (i := 4) (N := (some 18)) (v := ?_) (a' := ?_) #[true, true, true, true, true, false, false] rfl rfl (by kernel_rfl) (fun _ _ _ h => h) (Or.inl ⟨by rfl, ?_⟩) hHeld ?_ ?_; rotate_left; (rintro w' ⟨s0, s1, s2, s3, s4, s5⟩; have c_0 := s0.cell; have f_0 := s0.free; have c_1 := s1.cell; have f_1 := s1.free; have c_2 := s2.cell; have f_2 := s2.free; have c_3 := s3.cell; have f_3 := s3.free; have c_4 := s4.cell; have f_4 := s4.free; go_simp; with_reducible rfl); rotate_left; (simp only [Act.put, List.setIfInBounds_toArray, List.set_cons_zero, List.set_cons_succ]; rfl)
    refine one_ (i := 5) (N := (some 19)) #[true, true, true, true, true, true, false] rfl rfl (by kernel_rfl) (by decide) (fun Kc hK => ?_)
    try clear hHeld
    refine goes_ Try.func41 (by kernel_rfl) rfl #[.agg #[.int .i64 M.c.T, .int .i64 M.c.S, .int .i64 M.c.K, .int .i64 M.c.G, .int .u64 M.c.Q], .agg #[.int .i64 sk, .int .i64 so]] (by rfl) rfl rfl (by (try simp only [List.map_toArray, List.map_cons, List.map_nil]); first | done | rfl) ?_
    refine (cell_c M.c h.ok.rt sk so _).mono ?_
    rintro e w1 ⟨rfl, hbl⟩
    refine ⟨_, rfl, ?_⟩
    replace Bm := Blk.later hbl Bm
    replace Bw := Blk.later hbl Bw
    replace B0 := Blk.later hbl B0
    replace B1 := Blk.later hbl B1
    replace B2 := Blk.later hbl B2
    replace HK := Keep.belowStep HK hbl
    refine hK.out _ _ ⟨Bm, Bw, B0, B1, B2, HK⟩ (fun hHeld => ?_)
    clear hK Kc
    refine norm_ (a' := ?_) ?_ ?_; rotate_left; (first | (show Act.put _ (some 19) _ = _; (simp only [Act.put, List.setIfInBounds_toArray, List.set_cons_zero, List.set_cons_succ]; rfl)) | rfl)
    refine pure_ (i := 6) (N := (some 10)) (v := ?_) (a' := ?_) #[true, true, true, true, true, true, true] rfl rfl (by kernel_rfl) (fun _ _ _ h => h) (Or.inl ⟨by rfl, ?_⟩) ?_ ?_; rotate_left; (intro w'; go_simp; with_reducible rfl); rotate_left; (simp only [Act.put, List.setIfInBounds_toArray, List.set_cons_zero, List.set_cons_succ]; rfl)
    try clear hHeld
    refine done_ (by kernel_rfl) ?_
    rw [HN.out]
    have cw : w1.cell? ⟨wb, n, none⟩ = some (.int .u64 (M.at sk so)) := by
      rw [Bw.cell, words_at hl]; unfold Mem.at; rw [if_pos hc, HN.out]; rfl
    have hn0 : (0 : Int) ≤ (n : Int) := by omega
    have hnl : (n : Int) < (M.ws.length : Int) := by omega
    have c_Bm := Bm.cell; have f_Bm := Bm.free; have c_B0 := B0.cell; have f_B0 := B0.free; have c_B1 := B1.cell; have f_B1 := B1.free; have c_B2 := B2.cell; have f_B2 := B2.free
    go_wp2_with (go_at_call 44; refine (lays_c _ _ _ _).mono ?_; rintro e w2 ⟨rfl, hb2⟩; have N_Bm : Blk w2 (m) (85) #[.int .i64 M.c.T, .int .i64 M.c.S, .int .i64 M.c.K, .int .i64 M.c.G, .int .u64 M.c.Q, .slice (some ⟨wb, 0, none⟩) M.ws.length M.ws.length, .int .i64 M.last.kind, .int .i64 M.last.sk, .int .i64 M.last.so, .int .u64 M.last.old, .int .u64 M.last.new, .bool M.last.done, .int .i64 M.many] := Blk.later hb2 (by exact got); have N_Bw : Blk w2 (wb) (22) (wordsV M.ws) := Blk.later hb2 (by exact got); have N_B0 : Blk w2 (W.heap.size) (59) #[.int .i64 sk, .int .i64 so] := Blk.later hb2 (by exact got); have N_B1 : Blk w2 (W.heap.size + 1) (83) #[.int .i64 0, .int .i64 0, .int .i64 0, .int .u64 0, .int .u64 0, .bool false] := Blk.later hb2 (by exact got); have N_B2 : Blk w2 (W.heap.size + 1 + 1) (83) #[.int .i64 k, .int .i64 sk, .int .i64 so, .int .u64 (M.at sk so), .int .u64 0, .bool false] := Blk.later hb2 (by exact got); have N_HK : Keep (fun i => i = m ∨ i = wb) W w2 := Keep.belowStep (by exact gotK) hb2; (try clear c_Bm f_Bm c_Bw f_Bw c_B0 f_B0 c_B1 f_B1 c_B2 f_B2); (try clear Bm Bw B0 B1 B2 HK); have Bm := N_Bm; have Bw := N_Bw; have B0 := N_B0; have B1 := N_B1; have B2 := N_B2; have HK := N_HK; clear N_Bm N_Bw N_B0 N_B1 N_B2 N_HK; have c_Bm := Bm.cell; have f_Bm := Bm.free; have c_Bw := Bw.cell; have f_Bw := Bw.free; have c_B0 := B0.cell; have f_B0 := B0.free; have c_B1 := B1.cell; have f_B1 := B1.free; have c_B2 := B2.cell; have f_B2 := B2.free)
    refine begin_ (n := 9) (S := fun w' => Blk w' (m) (85) #[.int .i64 M.c.T, .int .i64 M.c.S, .int .i64 M.c.K, .int .i64 M.c.G, .int .u64 M.c.Q, .slice (some ⟨wb, 0, none⟩) M.ws.length M.ws.length, .int .i64 M.last.kind, .int .i64 M.last.sk, .int .i64 M.last.so, .int .u64 M.last.old, .int .u64 M.last.new, .bool M.last.done, .int .i64 M.many] ∧ Blk w' (wb) (22) (wordsV M.ws) ∧ Blk w' (W.heap.size) (59) #[.int .i64 sk, .int .i64 so] ∧ Blk w' (W.heap.size + 1) (83) #[.int .i64 0, .int .i64 0, .int .i64 0, .int .u64 0, .int .u64 0, .bool false] ∧ Blk w' (W.heap.size + 1 + 1) (83) #[.int .i64 k, .int .i64 sk, .int .i64 so, .int .u64 (M.at sk so), .int .u64 ((layF v) (M.at sk so)).1, .bool ((layF v) (M.at sk so)).2] ∧ Keep (fun i => i = m ∨ i = wb) W w') (ds := [8]) #[false, false, false, false, false, false, false, false, false] (by kernel_rfl) rfl rfl ⟨(by ((exact got); done)), (by ((exact got); done)), (by ((exact got); done)), (by ((exact got); done)), (by ((exact got); done)), (by ((exact gotK); done))⟩ (fun wd hHeld => ?_)
    (try clear Bm)
    (try clear Bw)
    (try clear B0)
    (try clear B1)
    (try clear B2)
    (try clear HK)
    have ⟨Bm, Bw, B0, B1, B2, HK⟩ := hHeld
    refine pure_ (i := 0) (N := (some 39)) (v := ?_) (a' := ?_) #[true, false, false, false, false, false, false, false, false] rfl rfl (by kernel_rfl) (fun _ _ _ h => h) (Or.inl ⟨by rfl, ?_⟩) ?_ ?_; rotate_left; (intro w'; go_simp; with_reducible rfl); rotate_left; (simp only [Act.put, List.setIfInBounds_toArray, List.set_cons_zero, List.set_cons_succ]; rfl)
    refine pure_ (i := 1) (N := (some 40)) (v := ?_) (a' := ?_) #[true, true, false, false, false, false, false, false, false] rfl rfl (by kernel_rfl) (fun _ _ _ h => h) (Or.inl ⟨by rfl, ?_⟩) ?_ ?_; rotate_left; (intro w'; go_simp; with_reducible rfl); rotate_left; (simp only [Act.put, List.setIfInBounds_toArray, List.set_cons_zero, List.set_cons_succ]; rfl)
    refine pure_ (i := 2) (N := (some 41)) (v := ?_) (a' := ?_) #[true, true, true, false, false, false, false, false, false] rfl rfl (by kernel_rfl) (fun _ _ _ h => h) (Or.inl ⟨by rfl, ?_⟩) ?_ ?_; rotate_left; (intro w'; go_simp; with_reducible rfl); rotate_left; (simp only [Act.put, List.setIfInBounds_toArray, List.set_cons_zero, List.set_cons_succ]; rfl)
    refine pure_ (i := 4) (N := (some 43)) (v := ?_) (a' := ?_) #[true, true, true, false, true, false, false, false, false] rfl rfl (by kernel_rfl) (fun _ _ _ h => h) (Or.inl ⟨by rfl, ?_⟩) ?_ ?_; rotate_left; (intro w'; go_simp; with_reducible rfl); rotate_left; (simp only [Act.put, List.setIfInBounds_toArray, List.set_cons_zero, List.set_cons_succ]; rfl)
    refine pure_ (i := 5) (N := (some 44)) (v := ?_) (a' := ?_) #[true, true, true, false, true, true, false, false, false] rfl rfl (by kernel_rfl) (fun _ _ _ h => h) (Or.inl ⟨by rfl, ?_⟩) ?_ ?_; rotate_left; (intro w'; go_simp; with_reducible rfl); rotate_left; (simp only [Act.put, List.setIfInBounds_toArray, List.set_cons_zero, List.set_cons_succ]; rfl)
    refine take_ (i := 3) (N := (some 42)) (v := ?_) (a' := ?_) #[true, true, true, true, true, true, false, false, false] rfl rfl (by kernel_rfl) (fun _ _ _ h => h) (Or.inl ⟨by rfl, ?_⟩) hHeld ?_ ?_; rotate_left; (rintro w' ⟨s0, s1, s2, s3, s4, s5⟩; have c_0 := s0.cell; have f_0 := s0.free; have c_1 := s1.cell; have f_1 := s1.free; have c_2 := s2.cell; have f_2 := s2.free; have c_3 := s3.cell; have f_3 := s3.free; have c_4 := s4.cell; have f_4 := s4.free; go_simp; with_reducible rfl); rotate_left; (simp only [Act.put, List.setIfInBounds_toArray, List.set_cons_zero, List.set_cons_succ]; rfl)
    refine take_ (i := 6) (N := (some 45)) (v := ?_) (a' := ?_) #[true, true, true, true, true, true, true, false, false] rfl rfl (by kernel_rfl) (fun _ _ _ h => h) (Or.inl ⟨by rfl, ?_⟩) hHeld ?_ ?_; rotate_left; (rintro w' ⟨s0, s1, s2, s3, s4, s5⟩; have c_0 := s0.cell; have f_0 := s0.free; have c_1 := s1.cell; have f_1 := s1.free; have c_2 := s2.cell; have f_2 := s2.free; have c_3 := s3.cell; have f_3 := s3.free; have c_4 := s4.cell; have f_4 := s4.free; go_simp; with_reducible rfl); rotate_left; (simp only [Act.put, List.setIfInBounds_toArray, List.set_cons_zero, List.set_cons_succ]; rfl)
    refine pure_ (i := 7) (N := (some 46)) (v := ?_) (a' := ?_) #[true, true, true, true, true, true, true, true, false] rfl rfl (by kernel_rfl) (fun _ _ _ h => h) (Or.inl ⟨by rfl, ?_⟩) ?_ ?_; rotate_left; (intro w'; go_simp; with_reducible rfl); rotate_left; (simp only [Act.put, List.setIfInBounds_toArray, List.set_cons_zero, List.set_cons_succ]; rfl)
    refine last_ (i := 8) (N := none) #[true, true, true, true, true, true, true, true, true] rfl rfl (by kernel_rfl) (by decide) (fun Kc hK => ?_)
    try clear hHeld
    have c_Bw := (Bw.cell n).trans (words_at hl)
    have f_Bw := Bw.free
    rw [if_pos (by rfl)]
    go_simp
    refine hK.out _ _ ?_
    clear hK Kc
    refine norm_ (a' := ?_) ?_ ?_; rotate_left; (first | (show Act.put _ none _ = _; (simp only [Act.put, List.setIfInBounds_toArray, List.set_cons_zero, List.set_cons_succ]; rfl)) | rfl)
    try clear hHeld
    refine done_ (by kernel_rfl) ?_
    refine then_at (S := fun w' => Blk w' (m) (85) #[.int .i64 M.c.T, .int .i64 M.c.S, .int .i64 M.c.K, .int .i64 M.c.G, .int .u64 M.c.Q, .slice (some ⟨wb, 0, none⟩) M.ws.length M.ws.length, .int .i64 M.last.kind, .int .i64 M.last.sk, .int .i64 M.last.so, .int .u64 M.last.old, .int .u64 M.last.new, .bool M.last.done, .int .i64 M.many] ∧ Blk w' (wb) (22) (wordsV (M.ws.set n ((layF v) (M.at sk so)).1)) ∧ Blk w' (W.heap.size) (59) #[.int .i64 sk, .int .i64 so] ∧ Blk w' (W.heap.size + 1) (83) #[.int .i64 0, .int .i64 0, .int .i64 0, .int .u64 0, .int .u64 0, .bool false] ∧ Blk w' (W.heap.size + 1 + 1) (83) #[.int .i64 k, .int .i64 sk, .int .i64 so, .int .u64 (M.at sk so), .int .u64 ((layF v) (M.at sk so)).1, .bool ((layF v) (M.at sk so)).2] ∧ Keep (fun i => i = m ∨ i = wb) W w') ⟨(by exact got), (by exact got), (by exact got), (by exact got), (by exact got), (by exact gotK)⟩ ?_; (try clear c_Bm f_Bm c_Bw f_Bw c_B0 f_B0 c_B1 f_B1 c_B2 f_B2); (try clear Bm Bw B0 B1 B2 HK); rintro w3 ⟨Bm, Bw, B0, B1, B2, HK⟩
    have c_Bm := Bm.cell; have f_Bm := Bm.free; have c_B0 := B0.cell; have f_B0 := B0.free; have c_B1 := B1.cell; have f_B1 := B1.free; have c_B2 := B2.cell; have f_B2 := B2.free
    go_wp2
    refine body_at (S := fun w' => Blk w' (m) (85) #[.int .i64 M.c.T, .int .i64 M.c.S, .int .i64 M.c.K, .int .i64 M.c.G, .int .u64 M.c.Q, .slice (some ⟨wb, 0, none⟩) M.ws.length M.ws.length, .int .i64 k, .int .i64 sk, .int .i64 so, .int .u64 (M.at sk so), .int .u64 ((layF v) (M.at sk so)).1, .bool ((layF v) (M.at sk so)).2, .int .i64 (wrap64 (M.many + 1))] ∧ Blk w' (wb) (22) (wordsV (M.ws.set n ((layF v) (M.at sk so)).1)) ∧ Blk w' (W.heap.size) (59) #[.int .i64 sk, .int .i64 so] ∧ Blk w' (W.heap.size + 1) (83) #[.int .i64 k, .int .i64 sk, .int .i64 so, .int .u64 (M.at sk so), .int .u64 ((layF v) (M.at sk so)).1, .bool ((layF v) (M.at sk so)).2] ∧ Blk w' (W.heap.size + 1 + 1) (83) #[.int .i64 k, .int .i64 sk, .int .i64 so, .int .u64 (M.at sk so), .int .u64 ((layF v) (M.at sk so)).1, .bool ((layF v) (M.at sk so)).2] ∧ Keep (fun i => i = m ∨ i = wb) W w') ⟨(by exact got), (by exact got), (by exact got), (by exact got), (by exact got), (by exact gotK)⟩ ?_; (try clear c_Bm f_Bm c_Bw f_Bw c_B0 f_B0 c_B1 f_B1 c_B2 f_B2); (try clear Bm Bw B0 B1 B2 HK); rintro w4 ⟨Bm, Bw, B0, B1, B2, HK⟩
    have c_B1 := B1.cell
    have hM : M.acc k sk so (layF v) = { M with ws := M.ws.set n ((layF v) (M.at sk so)).1, last := ⟨k, sk, so, M.at sk so, ((layF v) (M.at sk so)).1, ((layF v) (M.at sk so)).2⟩, many := wrap64 (M.many + 1) } := by
      unfold Mem.acc; rw [if_pos hc, HN.out]; rfl
    refine bodyPost_ret (v := .agg #[.int .i64 k, .int .i64 sk, .int .i64 so, .int .u64 (M.at sk so), .int .u64 ((layF v) (M.at sk so)).1, .bool ((layF v) (M.at sk so)).2]) (by simp [results, Try.results43, c_B1, go_sem]) rfl ⟨by rw [hM]; rfl, ⟨?_, by rw [hM]; exact Bw, h.ok.acc k sk so hF⟩, HK⟩
    rw [hM]; unfold memCells; simpa using Bm
  · have hneg : M.c.cell sk so < 0 := by omega
    clear hc
    go_enter Try.func43, Try.ntmps43
    go_wp2_with fail
    refine begin_ (n := 7) (S := fun w' => Blk w' (m) (85) #[.int .i64 M.c.T, .int .i64 M.c.S, .int .i64 M.c.K, .int .i64 M.c.G, .int .u64 M.c.Q, .slice (some ⟨wb, 0, none⟩) M.ws.length M.ws.length, .int .i64 M.last.kind, .int .i64 M.last.sk, .int .i64 M.last.so, .int .u64 M.last.old, .int .u64 M.last.new, .bool M.last.done, .int .i64 M.many] ∧ Blk w' (wb) (22) (wordsV M.ws) ∧ Blk w' (W.heap.size) (59) #[.int .i64 sk, .int .i64 so] ∧ Blk w' (W.heap.size + 1) (83) #[.int .i64 0, .int .i64 0, .int .i64 0, .int .u64 0, .int .u64 0, .bool false] ∧ Blk w' (W.heap.size + 1 + 1) (83) #[.int .i64 k, .int .i64 sk, .int .i64 so, .int .u64 0, .int .u64 0, .bool false] ∧ Keep (fun i => i = m ∨ i = wb) W w') (ds := []) #[false, false, false, false, false, false, false] (by kernel_rfl) rfl rfl ⟨(by ((exact got); done)), (by ((exact got); done)), (by ((exact got); done)), (by ((exact got); done)), (by ((exact got); done)), (by ((exact gotK); done))⟩ (fun wd hHeld => ?_)
    (try clear Bm)
    (try clear Bw)
    (try clear B0)
    (try clear B1)
    (try clear B2)
    (try clear HK)
    have ⟨Bm, Bw, B0, B1, B2, HK⟩ := hHeld
    refine pure_ (i := 0) (N := (some 14)) (v := ?_) (a' := ?_) #[true, false, false, false, false, false, false] rfl rfl (by kernel_rfl) (fun _ _ _ h => h) (Or.inl ⟨by rfl, ?_⟩) ?_ ?_; rotate_left; (intro w'; go_simp; with_reducible rfl); rotate_left; (simp only [Act.put, List.setIfInBounds_toArray, List.set_cons_zero, List.set_cons_succ]; rfl)
    refine pure_ (i := 1) (N := (some 15)) (v := ?_) (a' := ?_) #[true, true, false, false, false, false, false] rfl rfl (by kernel_rfl) (fun _ _ _ h => h) (Or.inl ⟨by rfl, ?_⟩) ?_ ?_; rotate_left; (intro w'; go_simp; with_reducible rfl); rotate_left; (simp only [Act.put, List.setIfInBounds_toArray, List.set_cons_zero, List.set_cons_succ]; rfl)
    refine pure_ (i := 2) (N := (some 16)) (v := ?_) (a' := ?_) #[true, true, true, false, false, false, false] rfl rfl (by kernel_rfl) (fun _ _ _ h => h) (Or.inl ⟨by rfl, ?_⟩) ?_ ?_; rotate_left; (intro w'; go_simp; with_reducible rfl); rotate_left; (simp only [Act.put, List.setIfInBounds_toArray, List.set_cons_zero, List.set_cons_succ]; rfl)
    refine take_ (i := 3) (N := (some 17)) (v := ?_) (a' := ?_) #[true, true, true, true, false, false, false] rfl rfl (by kernel_rfl) (fun _ _ _ h => h) (Or.inl ⟨by rfl, ?_⟩) hHeld ?_ ?_; rotate_left; (rintro w' ⟨s0, s1, s2, s3, s4, s5⟩; have c_0 := s0.cell; have f_0 := s0.free; have c_1 := s1.cell; have f_1 := s1.free; have c_2 := s2.cell; have f_2 := s2.free; have c_3 := s3.cell; have f_3 := s3.free; have c_4 := s4.cell; have f_4 := s4.free; go_simp; with_reducible rfl); rotate_left; (simp only [Act.put, List.setIfInBounds_toArray, List.set_cons_zero, List.set_cons_succ]; rfl)
    refine take_ (i := 4) (N := (some 18)) (v := ?_) (a' := ?_) #[true, true, true, true, true, false, false] rfl rfl (by kernel_rfl) (fun _ _ _ h => h) (Or.inl ⟨by rfl, ?_⟩) hHeld ?_ ?_; rotate_left; (rintro w' ⟨s0, s1, s2, s3, s4, s5⟩; have c_0 := s0.cell; have f_0 := s0.free; have c_1 := s1.cell; have f_1 := s1.free; have c_2 := s2.cell; have f_2 := s2.free; have c_3 := s3.cell; have f_3 := s3.free; have c_4 := s4.cell; have f_4 := s4.free; go_simp; with_reducible rfl); rotate_left; (simp only [Act.put, List.setIfInBounds_toArray, List.set_cons_zero, List.set_cons_succ]; rfl)
    refine one_ (i := 5) (N := (some 19)) #[true, true, true, true, true, true, false] rfl rfl (by kernel_rfl) (by decide) (fun Kc hK => ?_)
    try clear hHeld
    refine goes_ Try.func41 (by kernel_rfl) rfl #[.agg #[.int .i64 M.c.T, .int .i64 M.c.S, .int .i64 M.c.K, .int .i64 M.c.G, .int .u64 M.c.Q], .agg #[.int .i64 sk, .int .i64 so]] (by rfl) rfl rfl (by (try simp only [List.map_toArray, List.map_cons, List.map_nil]); first | done | rfl) ?_
    refine (cell_c M.c h.ok.rt sk so _).mono ?_
    rintro e w1 ⟨rfl, hbl⟩
    refine ⟨_, rfl, ?_⟩
    replace Bm := Blk.later hbl Bm
    replace Bw := Blk.later hbl Bw
    replace B0 := Blk.later hbl B0
    replace B1 := Blk.later hbl B1
    replace B2 := Blk.later hbl B2
    replace HK := Keep.belowStep HK hbl
    refine hK.out _ _ ⟨Bm, Bw, B0, B1, B2, HK⟩ (fun hHeld => ?_)
    clear hK Kc
    refine norm_ (a' := ?_) ?_ ?_; rotate_left; (first | (show Act.put _ (some 19) _ = _; (simp only [Act.put, List.setIfInBounds_toArray, List.set_cons_zero, List.set_cons_succ]; rfl)) | rfl)
    refine pure_ (i := 6) (N := (some 10)) (v := ?_) (a' := ?_) #[true, true, true, true, true, true, true] rfl rfl (by kernel_rfl) (fun _ _ _ h => h) (Or.inl ⟨by rfl, ?_⟩) ?_ ?_; rotate_left; (intro w'; go_simp; with_reducible rfl); rotate_left; (simp only [Act.put, List.setIfInBounds_toArray, List.set_cons_zero, List.set_cons_succ]; rfl)
    try clear hHeld
    refine done_ (by kernel_rfl) ?_
    have c_Bm := Bm.cell; have f_Bm := Bm.free; have c_B0 := B0.cell; have f_B0 := B0.free; have c_B1 := B1.cell; have f_B1 := B1.free; have c_B2 := B2.cell; have f_B2 := B2.free
    go_wp2
    refine body_at (S := fun w' => Blk w' (m) (85) #[.int .i64 M.c.T, .int .i64 M.c.S, .int .i64 M.c.K, .int .i64 M.c.G, .int .u64 M.c.Q, .slice (some ⟨wb, 0, none⟩) M.ws.length M.ws.length, .int .i64 k, .int .i64 sk, .int .i64 so, .int .u64 0, .int .u64 0, .bool false, .int .i64 (wrap64 (M.many + 1))] ∧ Blk w' (wb) (22) (wordsV M.ws) ∧ Blk w' (W.heap.size) (59) #[.int .i64 sk, .int .i64 so] ∧ Blk w' (W.heap.size + 1) (83) #[.int .i64 k, .int .i64 sk, .int .i64 so, .int .u64 0, .int .u64 0, .bool false] ∧ Blk w' (W.heap.size + 1 + 1) (83) #[.int .i64 k, .int .i64 sk, .int .i64 so, .int .u64 0, .int .u64 0, .bool false] ∧ Keep (fun i => i = m ∨ i = wb) W w') ⟨(by exact got), (by exact got), (by exact got), (by exact got), (by exact got), (by exact gotK)⟩ ?_; (try clear c_Bm f_Bm c_Bw f_Bw c_B0 f_B0 c_B1 f_B1 c_B2 f_B2); (try clear Bm Bw B0 B1 B2 HK); rintro w4 ⟨Bm, Bw, B0, B1, B2, HK⟩
    have c_B1 := B1.cell
    have hM : M.acc k sk so (layF v) = { M with last := ⟨k, sk, so, 0, 0, false⟩, many := wrap64 (M.many + 1) } := by
      unfold Mem.acc; rw [if_neg (by omega)]
    refine bodyPost_ret (v := .agg #[.int .i64 k, .int .i64 sk, .int .i64 so, .int .u64 0, .int .u64 0, .bool false]) (by simp [results, Try.results43, c_B1, go_sem]) rfl ⟨by rw [hM]; rfl, ⟨?_, by rw [hM]; exact Bw, h.ok.acc k sk so hF⟩, HK⟩
    rw [hM]; unfold memCells; simpa using Bm
set_option maxHeartbeats 1000000 in
theorem touch_same (m wb : Nat) (M : Mem) (k sk so o v : Int) (W : World) (h : MemAt W m wb M) (hF : WordF sameF) :
    Calls Try.prog 43 #[.pointer (some ⟨m, 0, none⟩), .int .i64 k, .agg #[.int .i64 sk, .int .i64 so], .func (.func 68) #[.agg #[.int .u64 o, .int .u64 v]] #[]] W
      fun e W' => e = .returned (tchV (M.acc k sk so sameF).last) ∧ MemAt W' m wb (M.acc k sk so sameF) ∧ Keep (fun i => i = m ∨ i = wb) W W' := by
  have hr := Cfg.cell_range h.ok.rt sk so
  have Bm := h.obj
  have Bw := h.words
  have lm := Bm.lt
  have lw := Bw.lt
  have hne := h.ne
  have hne' := hne.symm
  have cm := Bm.cell
  have fm := Bm.free
  unfold memCells at Bm cm
  by_cases hc : 0 ≤ M.c.cell sk so
  · obtain ⟨n, hn⟩ := Int.eq_ofNat_of_zero_le hc
    have hl : n < M.ws.length := by have := h.ok.len; omega
    have cw : W.cell? ⟨wb, n, none⟩ = some (.int .u64 (M.at sk so)) := by
      rw [Bw.cell, words_at hl]; unfold Mem.at; rw [if_pos hc, hn]; rfl
    have HN := Lib.hid hn
    clear hn
    go_enter Try.func43, Try.ntmps43
    go_wp2_with fail
    refine begin_ (n := 7) (S := fun w' => Blk w' (m) (85) #[.int .i64 M.c.T, .int .i64 M.c.S, .int .i64 M.c.K, .int .i64 M.c.G, .int .u64 M.c.Q, .slice (some ⟨wb, 0, none⟩) M.ws.length M.ws.length, .int .i64 M.last.kind, .int .i64 M.last.sk, .int .i64 M.last.so, .int .u64 M.last.old, .int .u64 M.last.new, .bool M.last.done, .int .i64 M.many] ∧ Blk w' (wb) (22) (wordsV M.ws) ∧ Blk w' (W.heap.size) (59) #[.int .i64 sk, .int .i64 so] ∧ Blk w' (W.heap.size + 1) (83) #[.int .i64 0, .int .i64 0, .int .i64 0, .int .u64 0, .int .u64 0, .bool false] ∧ Blk w' (W.heap.size + 1 + 1) (83) #[.int .i64 k, .int .i64 sk, .int .i64 so, .int .u64 0, .int .u64 0, .bool false] ∧ Keep (fun i => i = m ∨ i = wb) W w') (ds := []) #[false, false, false, false, false, false, false] (by kernel_rfl) rfl rfl ⟨(by ((exact got); done)), (by ((exact got); done)), (by ((exact got); done)), (by ((exact got); done)), (by ((exact got); done)), (by ((exact gotK); done))⟩ (fun wd hHeld => ?_)
    (try clear Bm)
    (try clear Bw)
    (try clear B0)
    (try clear B1)
    (try clear B2)
    (try clear HK)
    have ⟨Bm, Bw, B0, B1, B2, HK⟩ := hHeld
    refine pure_ (i := 0) (N := (some 14)) (v := ?_) (a' := ?_) #[true, false, false, false, false, false, false] rfl rfl (by kernel_rfl) (fun _ _ _ h => h) (Or.inl ⟨by rfl, ?_⟩) ?_ ?_; rotate_left; (intro w'; go_simp; with_reducible rfl); rotate_left; (simp only [Act.put, List.setIfInBounds_toArray, List.set_cons_zero, List.set_cons_succ]; rfl)
    refine pure_ (i := 1) (N := (some 15)) (v := ?_) (a' := ?_) #[true, true, false, false, false, false, false] rfl rfl (by kernel_rfl) (fun _ _ _ h => h) (Or.inl ⟨by rfl, ?_⟩) ?_ ?_; rotate_left; (intro w'; go_simp; with_reducible rfl); rotate_left; (simp only [Act.put, List.setIfInBounds_toArray, List.set_cons_zero, List.set_cons_succ]; rfl)
    refine pure_ (i := 2) (N := (some 16)) (v := ?_) (a' := ?_) #[true, true, true, false, false, false, false] rfl rfl (by kernel_rfl) (fun _ _ _ h => h) (Or.inl ⟨by rfl, ?_⟩) ?_ ?_; rotate_left; (intro w'; go_simp; with_reducible rfl); rotate_left; (simp only [Act.put, List.setIfInBounds_toArray, List.set_cons_zero, List.set_cons_succ]; rfl)
    refine take_ (i := 3) (N := (some 17)) (v := ?_) (a' := ?_) #[true, true, true, true, false, false, false] rfl rfl (by kernel_rfl) (fun _ _ _ h => h) (Or.inl ⟨by rfl, ?_⟩) hHeld ?_ ?_; rotate_left; (rintro w' ⟨s0, s1, s2, s3, s4, s5⟩; have c_0 := s0.cell; have f_0 := s0.free; have c_1 := s1.cell; have f_1 := s1.free; have c_2 := s2.cell; have f_2 := s2.free; have c_3 := s3.cell; have f_3 := s3.free; have c_4 := s4.cell; have f_4 := s4.free; go_simp; with_reducible rfl); rotate_left; (simp only [Act.put, List.setIfInBounds_toArray, List.set_cons_zero, List.set_cons_succ]; rfl)
    refine take_ (i := 4) (N := (some 18)) (v := ?_) (a' := ?_) #[true, true, true, true, true, false, false] rfl rfl (by kernel_rfl) (fun _ _ _ h => h) (Or.inl ⟨by rfl, ?_⟩) hHeld ?_ ?_; rotate_left; (rintro w' ⟨s0, s1, s2, s3, s4, s5⟩; have c_0 := s0.cell; have f_0 := s0.free; have c_1 := s1.cell; have f_1 := s1.free; have c_2 := s2.cell; have f_2 := s2.free; have c_3 := s3.cell; have f_3 := s3.free; have c_4 := s4.cell; have f_4 := s4.free; go_simp; with_reducible rfl); rotate_left; (simp only [Act.put, List.setIfInBounds_toArray, List.set_cons_zero, List.set_cons_succ]; rfl)
    refine one_ (i := 5) (N := (some 19)) #[true, true, true, true, true, true, false] rfl rfl (by kernel_rfl) (by decide) (fun Kc hK => ?_)
    try clear hHeld
    refine goes_ Try.func41 (by kernel_rfl) rfl #[.agg #[.int .i64 M.c.T, .int .i64 M.c.S, .int .i64 M.c.K, .int .i64 M.c.G, .int .u64 M.c.Q], .agg #[.int .i64 sk, .int .i64 so]] (by rfl) rfl rfl (by (try simp only [List.map_toArray, List.map_cons, List.map_nil]); first | done | rfl) ?_
    refine (cell_c M.c h.ok.rt sk so _).mono ?_
    rintro e w1 ⟨rfl, hbl⟩
    refine ⟨_, rfl, ?_⟩
    replace Bm := Blk.later hbl Bm
    replace Bw := Blk.later hbl Bw
    replace B0 := Blk.later hbl B0
    replace B1 := Blk.later hbl B1
    replace B2 := Blk.later hbl B2
    replace HK := Keep.belowStep HK hbl
    refine hK.out _ _ ⟨Bm, Bw, B0, B1, B2, HK⟩ (fun hHeld => ?_)
    clear hK Kc
    refine norm_ (a' := ?_) ?_ ?_; rotate_left; (first | (show Act.put _ (some 19) _ = _; (simp only [Act.put, List.setIfInBounds_toArray, List.set_cons_zero, List.set_cons_succ]; rfl)) | rfl)
    refine pure_ (i := 6) (N := (some 10)) (v := ?_) (a' := ?_) #[true, true, true, true, true, true, true] rfl rfl (by kernel_rfl) (fun _ _ _ h => h) (Or.inl ⟨by rfl, ?_⟩) ?_ ?_; rotate_left; (intro w'; go_simp; with_reducible rfl); rotate_left; (simp only [Act.put, List.setIfInBounds_toArray, List.set_cons_zero, List.set_cons_succ]; rfl)
    try clear hHeld
    refine done_ (by kernel_rfl) ?_
    rw [HN.out]
    have cw : w1.cell? ⟨wb, n, none⟩ = some (.int .u64 (M.at sk so)) := by
      rw [Bw.cell, words_at hl]; unfold Mem.at; rw [if_pos hc, HN.out]; rfl
    have hn0 : (0 : Int) ≤ (n : Int) := by omega
    have hnl : (n : Int) < (M.ws.length : Int) := by omega
    have c_Bm := Bm.cell; have f_Bm := Bm.free; have c_B0 := B0.cell; have f_B0 := B0.free; have c_B1 := B1.cell; have f_B1 := B1.free; have c_B2 := B2.cell; have f_B2 := B2.free
    go_wp2_with (go_at_call 68; refine (same_c _ _ _ _).mono ?_; rintro e w2 ⟨rfl, hb2⟩; have N_Bm : Blk w2 (m) (85) #[.int .i64 M.c.T, .int .i64 M.c.S, .int .i64 M.c.K, .int .i64 M.c.G, .int .u64 M.c.Q, .slice (some ⟨wb, 0, none⟩) M.ws.length M.ws.length, .int .i64 M.last.kind, .int .i64 M.last.sk, .int .i64 M.last.so, .int .u64 M.last.old, .int .u64 M.last.new, .bool M.last.done, .int .i64 M.many] := Blk.later hb2 (by exact got); have N_Bw : Blk w2 (wb) (22) (wordsV M.ws) := Blk.later hb2 (by exact got); have N_B0 : Blk w2 (W.heap.size) (59) #[.int .i64 sk, .int .i64 so] := Blk.later hb2 (by exact got); have N_B1 : Blk w2 (W.heap.size + 1) (83) #[.int .i64 0, .int .i64 0, .int .i64 0, .int .u64 0, .int .u64 0, .bool false] := Blk.later hb2 (by exact got); have N_B2 : Blk w2 (W.heap.size + 1 + 1) (83) #[.int .i64 k, .int .i64 sk, .int .i64 so, .int .u64 (M.at sk so), .int .u64 0, .bool false] := Blk.later hb2 (by exact got); have N_HK : Keep (fun i => i = m ∨ i = wb) W w2 := Keep.belowStep (by exact gotK) hb2; (try clear c_Bm f_Bm c_Bw f_Bw c_B0 f_B0 c_B1 f_B1 c_B2 f_B2); (try clear Bm Bw B0 B1 B2 HK); have Bm := N_Bm; have Bw := N_Bw; have B0 := N_B0; have B1 := N_B1; have B2 := N_B2; have HK := N_HK; clear N_Bm N_Bw N_B0 N_B1 N_B2 N_HK; have c_Bm := Bm.cell; have f_Bm := Bm.free; have c_Bw := Bw.cell; have f_Bw := Bw.free; have c_B0 := B0.cell; have f_B0 := B0.free; have c_B1 := B1.cell; have f_B1 := B1.free; have c_B2 := B2.cell; have f_B2 := B2.free)
    refine begin_ (n := 9) (S := fun w' => Blk w' (m) (85) #[.int .i64 M.c.T, .int .i64 M.c.S, .int .i64 M.c.K, .int .i64 M.c.G, .int .u64 M.c.Q, .slice (some ⟨wb, 0, none⟩) M.ws.length M.ws.length, .int .i64 M.last.kind, .int .i64 M.last.sk, .int .i64 M.last.so, .int .u64 M.last.old, .int .u64 M.last.new, .bool M.last.done, .int .i64 M.many] ∧ Blk w' (wb) (22) (wordsV M.ws) ∧ Blk w' (W.heap.size) (59) #[.int .i64 sk, .int .i64 so] ∧ Blk w' (W.heap.size + 1) (83) #[.int .i64 0, .int .i64 0, .int .i64 0, .int .u64 0, .int .u64 0, .bool false] ∧ Blk w' (W.heap.size + 1 + 1) (83) #[.int .i64 k, .int .i64 sk, .int .i64 so, .int .u64 (M.at sk so), .int .u64 (sameF (M.at sk so)).1, .bool (sameF (M.at sk so)).2] ∧ Keep (fun i => i = m ∨ i = wb) W w') (ds := [8]) #[false, false, false, false, false, false, false, false, false] (by kernel_rfl) rfl rfl ⟨(by ((exact got); done)), (by ((exact got); done)), (by ((exact got); done)), (by ((exact got); done)), (by ((exact got); done)), (by ((exact gotK); done))⟩ (fun wd hHeld => ?_)
    (try clear Bm)
    (try clear Bw)
    (try clear B0)
    (try clear B1)
    (try clear B2)
    (try clear HK)
    have ⟨Bm, Bw, B0, B1, B2, HK⟩ := hHeld
    refine pure_ (i := 0) (N := (some 39)) (v := ?_) (a' := ?_) #[true, false, false, false, false, false, false, false, false] rfl rfl (by kernel_rfl) (fun _ _ _ h => h) (Or.inl ⟨by rfl, ?_⟩) ?_ ?_; rotate_left; (intro w'; go_simp; with_reducible rfl); rotate_left; (simp only [Act.put, List.setIfInBounds_toArray, List.set_cons_zero, List.set_cons_succ]; rfl)
    refine pure_ (i := 1) (N := (some 40)) (v := ?_) (a' := ?_) #[true, true, false, false, false, false, false, false, false] rfl rfl (by kernel_rfl) (fun _ _ _ h => h) (Or.inl ⟨by rfl, ?_⟩) ?_ ?_; rotate_left; (intro w'; go_simp; with_reducible rfl); rotate_left; (simp only [Act.put, List.setIfInBounds_toArray, List.set_cons_zero, List.set_cons_succ]; rfl)
    refine pure_ (i := 2) (N := (some 41)) (v := ?_) (a' := ?_) #[true, true, true, false, false, false, false, false, false] rfl rfl (by kernel_rfl) (fun _ _ _ h => h) (Or.inl ⟨by rfl, ?_⟩) ?_ ?_; rotate_left; (intro w'; go_simp; with_reducible rfl); rotate_left; (simp only [Act.put, List.setIfInBounds_toArray, List.set_cons_zero, List.set_cons_succ]; rfl)
    refine pure_ (i := 4) (N := (some 43)) (v := ?_) (a' := ?_) #[true, true, true, false, true, false, false, false, false] rfl rfl (by kernel_rfl) (fun _ _ _ h => h) (Or.inl ⟨by rfl, ?_⟩) ?_ ?_; rotate_left; (intro w'; go_simp; with_reducible rfl); rotate_left; (simp only [Act.put, List.setIfInBounds_toArray, List.set_cons_zero, List.set_cons_succ]; rfl)
    refine pure_ (i := 5) (N := (some 44)) (v := ?_) (a' := ?_) #[true, true, true, false, true, true, false, false, false] rfl rfl (by kernel_rfl) (fun _ _ _ h => h) (Or.inl ⟨by rfl, ?_⟩) ?_ ?_; rotate_left; (intro w'; go_simp; with_reducible rfl); rotate_left; (simp only [Act.put, List.setIfInBounds_toArray, List.set_cons_zero, List.set_cons_succ]; rfl)
    refine take_ (i := 3) (N := (some 42)) (v := ?_) (a' := ?_) #[true, true, true, true, true, true, false, false, false] rfl rfl (by kernel_rfl) (fun _ _ _ h => h) (Or.inl ⟨by rfl, ?_⟩) hHeld ?_ ?_; rotate_left; (rintro w' ⟨s0, s1, s2, s3, s4, s5⟩; have c_0 := s0.cell; have f_0 := s0.free; have c_1 := s1.cell; have f_1 := s1.free; have c_2 := s2.cell; have f_2 := s2.free; have c_3 := s3.cell; have f_3 := s3.free; have c_4 := s4.cell; have f_4 := s4.free; go_simp; with_reducible rfl); rotate_left; (simp only [Act.put, List.setIfInBounds_toArray, List.set_cons_zero, List.set_cons_succ]; rfl)
    refine take_ (i := 6) (N := (some 45)) (v := ?_) (a' := ?_) #[true, true, true, true, true, true, true, false, false] rfl rfl (by kernel_rfl) (fun _ _ _ h => h) (Or.inl ⟨by rfl, ?_⟩) hHeld ?_ ?_; rotate_left; (rintro w' ⟨s0, s1, s2, s3, s4, s5⟩; have c_0 := s0.cell; have f_0 := s0.free; have c_1 := s1.cell; have f_1 := s1.free; have c_2 := s2.cell; have f_2 := s2.free; have c_3 := s3.cell; have f_3 := s3.free; have c_4 := s4.cell; have f_4 := s4.free; go_simp; with_reducible rfl); rotate_left; (simp only [Act.put, List.setIfInBounds_toArray, List.set_cons_zero, List.set_cons_succ]; rfl)
    refine pure_ (i := 7) (N := (some 46)) (v := ?_) (a' := ?_) #[true, true, true, true, true, true, true, true, false] rfl rfl (by kernel_rfl) (fun _ _ _ h => h) (Or.inl ⟨by rfl, ?_⟩) ?_ ?_; rotate_left; (intro w'; go_simp; with_reducible rfl); rotate_left; (simp only [Act.put, List.setIfInBounds_toArray, List.set_cons_zero, List.set_cons_succ]; rfl)
    refine last_ (i := 8) (N := none) #[true, true, true, true, true, true, true, true, true] rfl rfl (by kernel_rfl) (by decide) (fun Kc hK => ?_)
    try clear hHeld
    have c_Bw := (Bw.cell n).trans (words_at hl)
    have f_Bw := Bw.free
    rw [if_pos (by rfl)]
    go_simp
    refine hK.out _ _ ?_
    clear hK Kc
    refine norm_ (a' := ?_) ?_ ?_; rotate_left; (first | (show Act.put _ none _ = _; (simp only [Act.put, List.setIfInBounds_toArray, List.set_cons_zero, List.set_cons_succ]; rfl)) | rfl)
    try clear hHeld
    refine done_ (by kernel_rfl) ?_
    refine then_at (S := fun w' => Blk w' (m) (85) #[.int .i64 M.c.T, .int .i64 M.c.S, .int .i64 M.c.K, .int .i64 M.c.G, .int .u64 M.c.Q, .slice (some ⟨wb, 0, none⟩) M.ws.length M.ws.length, .int .i64 M.last.kind, .int .i64 M.last.sk, .int .i64 M.last.so, .int .u64 M.last.old, .int .u64 M.last.new, .bool M.last.done, .int .i64 M.many] ∧ Blk w' (wb) (22) (wordsV (M.ws.set n (sameF (M.at sk so)).1)) ∧ Blk w' (W.heap.size) (59) #[.int .i64 sk, .int .i64 so] ∧ Blk w' (W.heap.size + 1) (83) #[.int .i64 0, .int .i64 0, .int .i64 0, .int .u64 0, .int .u64 0, .bool false] ∧ Blk w' (W.heap.size + 1 + 1) (83) #[.int .i64 k, .int .i64 sk, .int .i64 so, .int .u64 (M.at sk so), .int .u64 (sameF (M.at sk so)).1, .bool (sameF (M.at sk so)).2] ∧ Keep (fun i => i = m ∨ i = wb) W w') ⟨(by exact got), (by exact got), (by exact got), (by exact got), (by exact got), (by exact gotK)⟩ ?_; (try clear c_Bm f_Bm c_Bw f_Bw c_B0 f_B0 c_B1 f_B1 c_B2 f_B2); (try clear Bm Bw B0 B1 B2 HK); rintro w3 ⟨Bm, Bw, B0, B1, B2, HK⟩
    have c_Bm := Bm.cell; have f_Bm := Bm.free; have c_B0 := B0.cell; have f_B0 := B0.free; have c_B1 := B1.cell; have f_B1 := B1.free; have c_B2 := B2.cell; have f_B2 := B2.free
    go_wp2
    refine body_at (S := fun w' => Blk w' (m) (85) #[.int .i64 M.c.T, .int .i64 M.c.S, .int .i64 M.c.K, .int .i64 M.c.G, .int .u64 M.c.Q, .slice (some ⟨wb, 0, none⟩) M.ws.length M.ws.length, .int .i64 k, .int .i64 sk, .int .i64 so, .int .u64 (M.at sk so), .int .u64 (sameF (M.at sk so)).1, .bool (sameF (M.at sk so)).2, .int .i64 (wrap64 (M.many + 1))] ∧ Blk w' (wb) (22) (wordsV (M.ws.set n (sameF (M.at sk so)).1)) ∧ Blk w' (W.heap.size) (59) #[.int .i64 sk, .int .i64 so] ∧ Blk w' (W.heap.size + 1) (83) #[.int .i64 k, .int .i64 sk, .int .i64 so, .int .u64 (M.at sk so), .int .u64 (sameF (M.at sk so)).1, .bool (sameF (M.at sk so)).2] ∧ Blk w' (W.heap.size + 1 + 1) (83) #[.int .i64 k, .int .i64 sk, .int .i64 so, .int .u64 (M.at sk so), .int .u64 (sameF (M.at sk so)).1, .bool (sameF (M.at sk so)).2] ∧ Keep (fun i => i = m ∨ i = wb) W w') ⟨(by exact got), (by exact got), (by exact got), (by exact got), (by exact got), (by exact gotK)⟩ ?_; (try clear c_Bm f_Bm c_Bw f_Bw c_B0 f_B0 c_B1 f_B1 c_B2 f_B2); (try clear Bm Bw B0 B1 B2 HK); rintro w4 ⟨Bm, Bw, B0, B1, B2, HK⟩
    have c_B1 := B1.cell
    have hM : M.acc k sk so sameF = { M with ws := M.ws.set n (sameF (M.at sk so)).1, last := ⟨k, sk, so, M.at sk so, (sameF (M.at sk so)).1, (sameF (M.at sk so)).2⟩, many := wrap64 (M.many + 1) } := by
      unfold Mem.acc; rw [if_pos hc, HN.out]; rfl
    refine bodyPost_ret (v := .agg #[.int .i64 k, .int .i64 sk, .int .i64 so, .int .u64 (M.at sk so), .int .u64 (sameF (M.at sk so)).1, .bool (sameF (M.at sk so)).2]) (by simp [results, Try.results43, c_B1, go_sem]) rfl ⟨by rw [hM]; rfl, ⟨?_, by rw [hM]; exact Bw, h.ok.acc k sk so hF⟩, HK⟩
    rw [hM]; unfold memCells; simpa using Bm
  · have hneg : M.c.cell sk so < 0 := by omega
    clear hc
    go_enter Try.func43, Try.ntmps43
    go_wp2_with fail
    refine begin_ (n := 7) (S := fun w' => Blk w' (m) (85) #[.int .i64 M.c.T, .int .i64 M.c.S, .int .i64 M.c.K, .int .i64 M.c.G, .int .u64 M.c.Q, .slice (some ⟨wb, 0, none⟩) M.ws.length M.ws.length, .int .i64 M.last.kind, .int .i64 M.last.sk, .int .i64 M.last.so, .int .u64 M.last.old, .int .u64 M.last.new, .bool M.last.done, .int .i64 M.many] ∧ Blk w' (wb) (22) (wordsV M.ws) ∧ Blk w' (W.heap.size) (59) #[.int .i64 sk, .int .i64 so] ∧ Blk w' (W.heap.size + 1) (83) #[.int .i64 0, .int .i64 0, .int .i64 0, .int .u64 0, .int .u64 0, .bool false] ∧ Blk w' (W.heap.size + 1 + 1) (83) #[.int .i64 k, .int .i64 sk, .int .i64 so, .int .u64 0, .int .u64 0, .bool false] ∧ Keep (fun i => i = m ∨ i = wb) W w') (ds := []) #[false, false, false, false, false, false, false] (by kernel_rfl) rfl rfl ⟨(by ((exact got); done)), (by ((exact got); done)), (by ((exact got); done)), (by ((exact got); done)), (by ((exact got); done)), (by ((exact gotK); done))⟩ (fun wd hHeld => ?_)
    (try clear Bm)
    (try clear Bw)
    (try clear B0)
    (try clear B1)
    (try clear B2)
    (try clear HK)
    have ⟨Bm, Bw, B0, B1, B2, HK⟩ := hHeld
    refine pure_ (i := 0) (N := (some 14)) (v := ?_) (a' := ?_) #[true, false, false, false, false, false, false] rfl rfl (by kernel_rfl) (fun _ _ _ h => h) (Or.inl ⟨by rfl, ?_⟩) ?_ ?_; rotate_left; (intro w'; go_simp; with_reducible rfl); rotate_left; (simp only [Act.put, List.setIfInBounds_toArray, List.set_cons_zero, List.set_cons_succ]; rfl)
    refine pure_ (i := 1) (N := (some 15)) (v := ?_) (a' := ?_) #[true, true, false, false, false, false, false] rfl rfl (by kernel_rfl) (fun _ _ _ h => h) (Or.inl ⟨by rfl, ?_⟩) ?_ ?_; rotate_left; (intro w'; go_simp; with_reducible rfl); rotate_left; (simp only [Act.put, List.setIfInBounds_toArray, List.set_cons_zero, List.set_cons_succ]; rfl)
    refine pure_ (i := 2) (N := (some 16)) (v := ?_) (a' := ?_) #[true, true, true, false, false, false, false] rfl rfl (by kernel_rfl) (fun _ _ _ h => h) (Or.inl ⟨by rfl, ?_⟩) ?_ ?_; rotate_left; (intro w'; go_simp; with_reducible rfl); rotate_left; (simp only [Act.put, List.setIfInBounds_toArray, List.set_cons_zero, List.set_cons_succ]; rfl)
    refine take_ (i := 3) (N := (some 17)) (v := ?_) (a' := ?_) #[true, true, true, true, false, false, false] rfl rfl (by kernel_rfl) (fun _ _ _ h => h) (Or.inl ⟨by rfl, ?_⟩) hHeld ?_ ?_; rotate_left; (rintro w' ⟨s0, s1, s2, s3, s4, s5⟩; have c_0 := s0.cell; have f_0 := s0.free; have c_1 := s1.cell; have f_1 := s1.free; have c_2 := s2.cell; have f_2 := s2.free; have c_3 := s3.cell; have f_3 := s3.free; have c_4 := s4.cell; have f_4 := s4.free; go_simp; with_reducible rfl); rotate_left; (simp only [Act.put, List.setIfInBounds_toArray, List.set_cons_zero, List.set_cons_succ]; rfl)
    refine take_ (i := 4) (N := (some 18)) (v := ?_) (a' := ?_) #[true, true, true, true, true, false, false] rfl rfl (by kernel_rfl) (fun _ _ _ h => h) (Or.inl ⟨by rfl, ?_⟩) hHeld ?_ ?_; rotate_left; (rintro w' ⟨s0, s1, s2, s3, s4, s5⟩; have c_0 := s0.cell; have f_0 := s0.free; have c_1 := s1.cell; have f_1 := s1.free; have c_2 := s2.cell; have f_2 := s2.free; have c_3 := s3.cell; have f_3 := s3.free; have c_4 := s4.cell; have f_4 := s4.free; go_simp; with_reducible rfl); rotate_left; (simp only [Act.put, List.setIfInBounds_toArray, List.set_cons_zero, List.set_cons_succ]; rfl)
    refine one_ (i := 5) (N := (some 19)) #[true, true, true, true, true, true, false] rfl rfl (by kernel_rfl) (by decide) (fun Kc hK => ?_)
    try clear hHeld
    refine goes_ Try.func41 (by kernel_rfl) rfl #[.agg #[.int .i64 M.c.T, .int .i64 M.c.S, .int .i64 M.c.K, .int .i64 M.c.G, .int .u64 M.c.Q], .agg #[.int .i64 sk, .int .i64 so]] (by rfl) rfl rfl (by (try simp only [List.map_toArray, List.map_cons, List.map_nil]); first | done | rfl) ?_
    refine (cell_c M.c h.ok.rt sk so _).mono ?_
    rintro e w1 ⟨rfl, hbl⟩
    refine ⟨_, rfl, ?_⟩
    replace Bm := Blk.later hbl Bm
    replace Bw := Blk.later hbl Bw
    replace B0 := Blk.later hbl B0
    replace B1 := Blk.later hbl B1
    replace B2 := Blk.later hbl B2
    replace HK := Keep.belowStep HK hbl
    refine hK.out _ _ ⟨Bm, Bw, B0, B1, B2, HK⟩ (fun hHeld => ?_)
    clear hK Kc
    refine norm_ (a' := ?_) ?_ ?_; rotate_left; (first | (show Act.put _ (some 19) _ = _; (simp only [Act.put, List.setIfInBounds_toArray, List.set_cons_zero, List.set_cons_succ]; rfl)) | rfl)
    refine pure_ (i := 6) (N := (some 10)) (v := ?_) (a' := ?_) #[true, true, true, true, true, true, true] rfl rfl (by kernel_rfl) (fun _ _ _ h => h) (Or.inl ⟨by rfl, ?_⟩) ?_ ?_; rotate_left; (intro w'; go_simp; with_reducible rfl); rotate_left; (simp only [Act.put, List.setIfInBounds_toArray, List.set_cons_zero, List.set_cons_succ]; rfl)
    try clear hHeld
    refine done_ (by kernel_rfl) ?_
    have c_Bm := Bm.cell; have f_Bm := Bm.free; have c_B0 := B0.cell; have f_B0 := B0.free; have c_B1 := B1.cell; have f_B1 := B1.free; have c_B2 := B2.cell; have f_B2 := B2.free
    go_wp2
    refine body_at (S := fun w' => Blk w' (m) (85) #[.int .i64 M.c.T, .int .i64 M.c.S, .int .i64 M.c.K, .int .i64 M.c.G, .int .u64 M.c.Q, .slice (some ⟨wb, 0, none⟩) M.ws.length M.ws.length, .int .i64 k, .int .i64 sk, .int .i64 so, .int .u64 0, .int .u64 0, .bool false, .int .i64 (wrap64 (M.many + 1))] ∧ Blk w' (wb) (22) (wordsV M.ws) ∧ Blk w' (W.heap.size) (59) #[.int .i64 sk, .int .i64 so] ∧ Blk w' (W.heap.size + 1) (83) #[.int .i64 k, .int .i64 sk, .int .i64 so, .int .u64 0, .int .u64 0, .bool false] ∧ Blk w' (W.heap.size + 1 + 1) (83) #[.int .i64 k, .int .i64 sk, .int .i64 so, .int .u64 0, .int .u64 0, .bool false] ∧ Keep (fun i => i = m ∨ i = wb) W w') ⟨(by exact got), (by exact got), (by exact got), (by exact got), (by exact got), (by exact gotK)⟩ ?_; (try clear c_Bm f_Bm c_Bw f_Bw c_B0 f_B0 c_B1 f_B1 c_B2 f_B2); (try clear Bm Bw B0 B1 B2 HK); rintro w4 ⟨Bm, Bw, B0, B1, B2, HK⟩
    have c_B1 := B1.cell
    have hM : M.acc k sk so sameF = { M with last := ⟨k, sk, so, 0, 0, false⟩, many := wrap64 (M.many + 1) } := by
      unfold Mem.acc; rw [if_neg (by omega)]
    refine bodyPost_ret (v := .agg #[.int .i64 k, .int .i64 sk, .int .i64 so, .int .u64 0, .int .u64 0, .bool false]) (by simp [results, Try.results43, c_B1, go_sem]) rfl ⟨by rw [hM]; rfl, ⟨?_, by rw [hM]; exact Bw, h.ok.acc k sk so hF⟩, HK⟩
    rw [hM]; unfold memCells; simpa using Bm
end Go.Proofs.Ytbgdhahdihbpaaa.Store
end

section
namespace Go.Proofs.Ytbgdhahdihbpaaa.Store
open Go.RowKit Go.IntWalk Go.Proofs.Ytbgdhahdihbpaaa.Own Go.Proofs.Ytbgdhahdihbpaaa.Model
set_option linter.unusedSimpArgs false
set_option linter.unusedVariables false

theorem load_c (m wb : Nat) (M : Mem) (sk so : Int) (W : World) (h : MemAt W m wb M) :
    Calls Try.prog 62 #[.pointer (some ⟨m, 0, none⟩), .agg #[.int .i64 sk, .int .i64 so]] W
      fun e W' => e = .returned (.int .u64 (M.at sk so)) ∧ MemAt W' m wb (M.load sk so) ∧ Keep (fun i => i = m ∨ i = wb) W W' := by
  have hfld := fld_old
  have ho := Lib.hid (Mem.acc_old M 1 sk so sameF)
  go_enter Try.func62, Try.ntmps62
  go_wp2_with (go_at_call 43; refine (touch_same _ _ _ _ _ _ _ _ _ (h.alloc _) WordF.same).mono ?_; rintro e w1 ⟨rfl, hM, hK⟩; unfold tchV)
  go_ret
  exact ⟨by rw [ho.out]; rfl, hM, ((Keep.refl _ _).alloc _).trans hK⟩

theorem store_c (m wb : Nat) (M : Mem) (sk so v : Int) (W : World) (h : MemAt W m wb M) (hv : Word v) :
    Calls Try.prog 21 #[.pointer (some ⟨m, 0, none⟩), .agg #[.int .i64 sk, .int .i64 so], .int .u64 v] W
      fun e W' => e = .returned (.tuple #[]) ∧ MemAt W' m wb (M.store sk so v) ∧ Keep (fun i => i = m ∨ i = wb) W W' := by
  go_enter Try.func21, Try.ntmps21
  go_wp2_with (go_at_call 43; refine (touch_lays _ _ _ _ _ _ _ _ _ (h.alloc _) (WordF.lay hv)).mono ?_; rintro e w1 ⟨rfl, hM, hK⟩; unfold tchV)
  go_end0
  exact ⟨rfl, hM, ((Keep.refl _ _).alloc _).trans hK⟩
end Go.Proofs.Ytbgdhahdihbpaaa.Store
end
