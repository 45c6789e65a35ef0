/- The law ChartCells of the print answers true at every config, kind and number. No condition but that the number is an int. -/
import Derived.Test.YtfdfcdlbojnamaaChartCellsRef
namespace Go.Proofs.Ytfdfcdlbojnamaa.Pure
open Go.RowKit Go.IntWalk Go.Proofs.Ytfdfcdlbojnamaa.ChartMath Go.Proofs.Ytfdfcdlbojnamaa.PChartCells

/-- The document's search finds the cell of the spot. -/
theorem find_loop {T S K G Q kind of : Int} (h : Rt T S K G Q) (d : Nat) : ∀ (k : Nat) (x : Int), 0 ≤ x → (cellOf T S K kind of < 0 ∨ x ≤ cellOf T S K kind of) → lenOf T S K - x = d → d + 1 ≤ k →
    umpireref05_Cell.l0 k kind of (row T S K G Q) x = some (cellOf T S K kind of) := by
  have hh := h
  obtain ⟨t1, t2, s1, s2, k1, k2, _⟩ := hh
  have hl : ((row T S K G Q).length : Int) = lenOf T S K := by rw [row_len, if_pos h]
  have low := cell_low (T := T) (S := S) (K := K) (kind := kind) (of := of) (by omega) (by omega)
  induction d with
  | zero =>
    intro k x x0 hx hd hk
    obtain ⟨k, rfl⟩ : ∃ m, k = m + 1 := ⟨k - 1, by omega⟩
    rw [umpireref05_Cell.l0, if_neg (by omega)]
    rcases hx with hx | hx
    · congr 1; omega
    · have := at_cell (T := T) (S := S) (K := K) (kind := kind) (of := of) (by omega) (by omega) (by omega) (by omega)
      omega
  | succ d ih =>
    intro k x x0 hx hd hk
    obtain ⟨k, rfl⟩ : ∃ m, k = m + 1 := ⟨k - 1, by omega⟩
    rw [umpireref05_Cell.l0, if_pos (by omega), if_pos x0, row_get h x0 (by omega)]
    have hc := cell_at (T := T) (S := S) (K := K) x0 (by omega)
    have len66 : lenOf T S K ≤ 66 := by unfold lenOf; omega
    dsimp only
    by_cases e1 : kindAt T S x = kind
    · rw [if_pos e1]
      by_cases e2 : ofAt T S x = of
      · rw [if_pos e2]; rw [e1, e2] at hc; rw [hc]
      · rw [if_neg e2, wrap64_in (x + 1) (by omega)]
        refine ih k (x + 1) (by omega) ?_ (by omega) (by omega)
        rcases hx with hx | hx
        · exact .inl hx
        · by_cases e : x = cellOf T S K kind of
          · exfalso; subst e
            exact e2 (at_cell (T := T) (S := S) (K := K) (by omega) (by omega) (by omega) x0).2.2
          · right; omega
    · rw [if_neg e1, wrap64_in (x + 1) (by omega)]
      refine ih k (x + 1) (by omega) ?_ (by omega) (by omega)
      rcases hx with hx | hx
      · exact .inl hx
      · by_cases e : x = cellOf T S K kind of
        · exfalso; subst e
          exact e1 (at_cell (T := T) (S := S) (K := K) (by omega) (by omega) (by omega) x0).2.1
        · right; omega

theorem refcell_is (k : Nat) (T S K G Q kind of : Int) : umpireref05_Cell.f (k + 70) T S K G Q kind of = some (if Rt T S K G Q then cellOf T S K kind of else -1) := by
  unfold umpireref05_Cell.f
  rw [spots_is (k + 30)]
  simp only [Option.bind_some]
  by_cases h : Rt T S K G Q
  · rw [if_pos h]
    have hh := h
    obtain ⟨t1, t2, s1, s2, k1, k2, _⟩ := hh
    have low := cell_low (T := T) (S := S) (K := K) (kind := kind) (of := of) (by omega) (by omega)
    exact find_loop h (lenOf T S K).toNat (k + 70) 0 (by omega) (by omega) (by unfold lenOf; omega) (by unfold lenOf; omega)
  · rw [if_neg h]
    have : row T S K G Q = [] := by unfold row; rw [if_neg h]
    rw [this, umpireref05_Cell.l0, if_neg (by simp)]

theorem cells_true (T S K G Q kind of : Int) : umpirelaw05_ChartCells.f 80 T S K G Q kind of = some true := by
  unfold umpirelaw05_ChartCells.f
  rw [cell_is 78, alive_is 66, refcell_is 10]
  simp only [Option.bind_some]
  by_cases h : Rt T S K G Q
  · rw [if_pos h]
    have hh := h
    obtain ⟨t1, t2, s1, s2, k1, k2, _⟩ := hh
    by_cases hx : cellOf T S K kind of < 0
    · simp [hx]
    · have q := at_cell (T := T) (S := S) (K := K) (kind := kind) (of := of) (by omega) (by omega) (by omega) (by omega)
      have hp : Rt T S K G Q ∧ 0 ≤ cellOf T S K kind of ∧ cellOf T S K kind of < lenOf T S K := ⟨h, by omega, q.1⟩
      rw [at_is 66, if_pos hp]
      simp [q.2.1, q.2.2]
  · simp [h]

theorem walkChartCells (W : World) (T S K G Q : Int) (_ : (Lit.int .i64 T).wf = true) (_ : (Lit.int .i64 S).wf = true) (_ : (Lit.int .i64 K).wf = true) (_ : (Lit.int .i64 G).wf = true) (_ : (Lit.int .u64 Q).wf = true)
    (kind : Int) (_ : (Lit.int .i64 kind).wf = true) (of : Int) (_ : (Lit.int .i64 of).wf = true) :
    Calls Try.prog 4 #[.agg #[.int .i64 T, .int .i64 S, .int .i64 K, .int .i64 G, .int .u64 Q], .int .i64 kind, .int .i64 of] W fun e w' => e = .returned (.bool true) ∧ Below W.heap.size W w' :=
  umpirelaw05_ChartCells.calls 80 T S K G Q kind of true W (cells_true T S K G Q kind of)
end Go.Proofs.Ytfdfcdlbojnamaa.Pure
