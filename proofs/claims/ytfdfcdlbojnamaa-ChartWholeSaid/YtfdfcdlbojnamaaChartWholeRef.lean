/- What the document's chart answers, in plain numbers, in the print of the law ChartWhole: its row of spots is the row of the cells' spots. Conditions: enough rounds, and a config that is right where a lemma says so. -/
import Derived.Test.YtfdfcdlbojnamaaChartWholeBase
namespace Go.Proofs.Ytfdfcdlbojnamaa.PChartWhole
open Go.RowKit Go.IntWalk Go.Proofs.YtfdfcdlbojnamaaW.PrintWords Go.Proofs.YtfdfcdlbojnamaaW.PrintLast Go.Proofs.YtfdfcdlbojnamaaW.PrintMore Go.Proofs.Ytfdfcdlbojnamaa.ChartMath

theorem refright_is (T S K G Q : Int) : umpireref05_Right.f T S K G Q = some (decide (Rt T S K G Q)) := by
  unfold umpireref05_Right.f
  repeat' split
  all_goals (refine congrArg some ?_; rw [Bool.eq_iff_iff]; simp only [decide_eq_true_eq, Bool.false_eq_true, false_iff]; unfold Rt; omega)

def spotN (T S : Int) (i : Nat) : S34 := ⟨kindAt T S i, ofAt T S i⟩
def pre (T S : Int) (n : Nat) : List S34 := (List.range n).map (spotN T S)
theorem pre_len (T S : Int) (n : Nat) : (pre T S n).length = n := by simp [pre]
theorem pre_succ (T S : Int) (n : Nat) : pre T S (n + 1) = pre T S n ++ [spotN T S n] := by simp [pre, List.range_succ]
theorem pre_get (T S : Int) (n : Nat) (i : Int) (h0 : 0 ≤ i) (h1 : i < n) : rd_T34 (pre T S n) i = ⟨kindAt T S i, ofAt T S i⟩ := by
  obtain ⟨j, rfl⟩ := Int.eq_ofNat_of_zero_le h0
  unfold rd_T34 pre
  rw [List.getD_eq_getElem?_getD, Int.toNat_natCast, List.getElem?_map, List.getElem?_range (by omega)]
  rfl

theorem spots_l2 {T S K G Q : Int} (h : Rt T S K G Q) (d : Nat) : ∀ (k n : Nat) (x : Int), x = (n : Int) - 2 - T - 4 * S → 0 ≤ x → K - x = d → d + 1 ≤ k →
    umpireref05_Spots.l2 k (pre T S n) x T S K G Q = some (pre T S (lenOf T S K).toNat) := by
  have hh := h
  obtain ⟨t1, t2, s1, s2, k1, k2, _⟩ := hh
  induction d with
  | zero =>
    intro k n x hx x0 hd hk
    obtain ⟨k, rfl⟩ : ∃ m, k = m + 1 := ⟨k - 1, by omega⟩
    rw [umpireref05_Spots.l2, if_neg (by omega)]
    rw [show (lenOf T S K).toNat = n from by unfold lenOf; omega]
  | succ d ih =>
    intro k n x hx x0 hd hk
    obtain ⟨k, rfl⟩ : ∃ m, k = m + 1 := ⟨k - 1, by omega⟩
    rw [umpireref05_Spots.l2, if_pos (by omega), pre_len, if_pos (by omega), wrap64_in (x + 1) (by omega)]
    have e : spotN T S n = ⟨8, x⟩ := by
      unfold spotN kindAt ofAt
      rw [if_neg (by omega), if_neg (by omega), if_neg (by omega), if_neg (by omega), if_neg (by omega), if_neg (by omega), if_neg (by omega), hx]
    rw [← e, ← pre_succ]
    exact ih k (n + 1) (x + 1) (by omega) (by omega) (by omega) (by omega)

theorem spots_l1 {T S K G Q : Int} (h : Rt T S K G Q) (d : Nat) : ∀ (k n : Nat) (x : Int), (n : Int) = 2 + T + 4 * x → 0 ≤ x → S - x = d → d + 12 ≤ k →
    umpireref05_Spots.l1 k (pre T S n) x T S K G Q = some (pre T S (lenOf T S K).toNat) := by
  have hh := h
  obtain ⟨t1, t2, s1, s2, k1, k2, _⟩ := hh
  induction d with
  | zero =>
    intro k n x hx x0 hd hk
    obtain ⟨k, rfl⟩ : ∃ m, k = m + 1 := ⟨k - 1, by omega⟩
    rw [umpireref05_Spots.l1, if_neg (by omega)]
    exact spots_l2 h K.toNat k n 0 (by omega) (by omega) (by omega) (by omega)
  | succ d ih =>
    intro k n x hx x0 hd hk
    obtain ⟨k, rfl⟩ : ∃ m, k = m + 1 := ⟨k - 1, by omega⟩
    rw [umpireref05_Spots.l1, if_pos (by omega)]
    simp only [Option.bind_some]
    rw [pre_len, if_pos (by simp only [List.length_cons, List.length_nil]; omega), wrap64_in (x + 1) (by omega)]
    have e : ∀ j : Nat, j < 4 → spotN T S (n + j) = ⟨4 + j, x⟩ := by
      intro j hj
      unfold spotN kindAt ofAt
      rw [if_neg (by omega), if_neg (by omega), if_neg (by omega), if_pos (by omega), if_neg (by omega), if_neg (by omega), if_pos (by omega)]
      congr 1 <;> omega
    have e0 := e 0 (by omega)
    have e1 := e 1 (by omega)
    have e2 := e 2 (by omega)
    have e3 := e 3 (by omega)
    have := ih k (n + 4) (x + 1) (by omega) (by omega) (by omega) (by omega)
    rw [pre_succ, pre_succ, pre_succ, pre_succ, e1, e2, e3] at this
    rw [show spotN T S n = ⟨4, x⟩ from e0] at this
    simpa using this

theorem spots_l0 {T S K G Q : Int} (h : Rt T S K G Q) (d : Nat) : ∀ (k n : Nat) (x : Int), (n : Int) = 2 + x → 0 ≤ x → T - x = d → d + 30 ≤ k →
    umpireref05_Spots.l0 k (pre T S n) x T S K G Q = some (pre T S (lenOf T S K).toNat) := by
  have hh := h
  obtain ⟨t1, t2, s1, s2, k1, k2, _⟩ := hh
  induction d with
  | zero =>
    intro k n x hx x0 hd hk
    obtain ⟨k, rfl⟩ : ∃ m, k = m + 1 := ⟨k - 1, by omega⟩
    rw [umpireref05_Spots.l0, if_neg (by omega)]
    exact spots_l1 h S.toNat k n 0 (by omega) (by omega) (by omega) (by omega)
  | succ d ih =>
    intro k n x hx x0 hd hk
    obtain ⟨k, rfl⟩ : ∃ m, k = m + 1 := ⟨k - 1, by omega⟩
    rw [umpireref05_Spots.l0, if_pos (by omega), pre_len, if_pos (by omega), wrap64_in (x + 1) (by omega)]
    have e : spotN T S n = ⟨3, x⟩ := by
      unfold spotN kindAt ofAt
      rw [if_neg (by omega), if_neg (by omega), if_pos (by omega), if_neg (by omega), if_pos (by omega)]
      congr 1; omega
    rw [← e, ← pre_succ]
    exact ih k (n + 1) (x + 1) (by omega) (by omega) (by omega) (by omega)

/-- The document's row of spots. -/
def row (T S K G Q : Int) : List S34 := if Rt T S K G Q then pre T S (lenOf T S K).toNat else []
theorem spots_is (k : Nat) (T S K G Q : Int) : umpireref05_Spots.f (k + 40) T S K G Q = some (row T S K G Q) := by
  unfold umpireref05_Spots.f row
  rw [refright_is]; simp only [Option.bind_some, decide_eq_true_eq]
  by_cases h : Rt T S K G Q
  · rw [if_pos h, if_pos h]
    have e : ([⟨1, 0⟩, ⟨2, 0⟩] : List S34) = pre T S 2 := by
      simp [pre, spotN, List.range_succ, kindAt, ofAt]
    rw [e]
    have hh := h
    obtain ⟨t1, t2, _⟩ := hh
    exact spots_l0 h T.toNat (k + 40) 2 0 (by omega) (by omega) (by omega) (by omega)
  · rw [if_neg h, if_neg h]
theorem row_len (T S K G Q : Int) : ((row T S K G Q).length : Int) = if Rt T S K G Q then lenOf T S K else 0 := by
  unfold row
  split
  · rename_i h
    obtain ⟨t1, t2, s1, s2, k1, k2, _⟩ := h
    rw [pre_len]; unfold lenOf; omega
  · rfl
theorem row_get {T S K G Q i : Int} (h : Rt T S K G Q) (h0 : 0 ≤ i) (h1 : i < lenOf T S K) : rd_T34 (row T S K G Q) i = ⟨kindAt T S i, ofAt T S i⟩ := by
  unfold row; rw [if_pos h]
  exact pre_get _ _ _ _ h0 (by omega)

end Go.Proofs.Ytfdfcdlbojnamaa.PChartWhole
