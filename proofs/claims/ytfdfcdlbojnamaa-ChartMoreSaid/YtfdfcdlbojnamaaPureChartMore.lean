/- The law ChartMore of the print answers true at every config, kind and number. No condition. -/
import Derived.Test.YtfdfcdlbojnamaaChartMoreBase
namespace Go.Proofs.Ytfdfcdlbojnamaa.Pure
open Go.RowKit Go.IntWalk Go.Proofs.Ytfdfcdlbojnamaa.ChartMath Go.Proofs.Ytfdfcdlbojnamaa.PChartMore

theorem more_keys {T S K kind of : Int} (h : 0 ≤ cellOf T S K kind of) : cellOf T S (K + 1) kind of = cellOf T S K kind of := by
  unfold cellOf at h ⊢
  repeat' split
  all_goals first | rfl | omega | (exfalso; revert h; repeat' split; all_goals omega)
theorem more_threads {T S K kind of : Int} (h : 0 ≤ cellOf T S K kind of) : cellOf (T + 1) S K kind of = if kind > 3 then cellOf T S K kind of + 1 else cellOf T S K kind of := by
  unfold cellOf at h ⊢
  repeat' split
  all_goals first | rfl | omega | (exfalso; revert h; repeat' split; all_goals omega)

theorem more_true (T S K G Q kind of : Int) : umpirelaw05_ChartMore.f 20 T S K G Q kind of = some true := by
  unfold umpirelaw05_ChartMore.f
  rw [cell_is 18, right_is, right_is]
  simp only [Option.bind_some, decide_eq_true_eq]
  by_cases hd : Rt T S (wrap64 (K + 1)) G Q
  · rw [if_pos hd]
    by_cases he : Rt (wrap64 (T + 1)) S K G Q
    · rw [if_pos he]
      by_cases hc : Rt T S K G Q
      · have hh := hc
        obtain ⟨t1, t2, s1, s2, k1, k2, _⟩ := hh
        have wK : wrap64 (K + 1) = K + 1 := wrap64_in _ (by omega)
        have wT : wrap64 (T + 1) = T + 1 := wrap64_in _ (by omega)
        rw [wK] at hd ⊢; rw [wT] at he ⊢
        rw [if_pos hc]
        by_cases hx : cellOf T S K kind of < 0
        · rw [decide_eq_true hx, umpirelaw05_ChartMore.j0, if_pos rfl, alive_is 5]; rfl
        · have q := at_cell (T := T) (S := S) (K := K) (kind := kind) (of := of) (by omega) (by omega) (by omega) (by omega)
          have e1 := more_keys (T := T) (S := S) (K := K) (kind := kind) (of := of) (by omega)
          have e2 := more_threads (T := T) (S := S) (K := K) (kind := kind) (of := of) (by omega)
          have l1 : lenOf T S (K + 1) = wrap64 (lenOf T S K + 1) := by rw [wrap64_in _ (by unfold lenOf; omega)]; unfold lenOf; omega
          have l2 : lenOf (T + 1) S K = wrap64 (lenOf T S K + 1) := by rw [wrap64_in _ (by unfold lenOf; omega)]; unfold lenOf; omega
          have wx : wrap64 (cellOf T S K kind of + 1) = cellOf T S K kind of + 1 := wrap64_in _ (by have := q.1; unfold lenOf at this; omega)
          rw [decide_eq_false hx, umpirelaw05_ChartMore.j0, if_neg (by simp)]
          by_cases hk : kind > 3
          · rw [if_pos hk, umpirelaw05_ChartMore.j1, alive_is 4, cell_is 16, cell_is 16, len_is 16, len_is 16, len_is 16]
            simp [hd, he, hc, e1, e2, hk, wx, ← l1, l2]
          · rw [if_neg hk, umpirelaw05_ChartMore.j1, alive_is 4, cell_is 16, cell_is 16, len_is 16, len_is 16, len_is 16]
            simp [hd, he, hc, e1, e2, hk, ← l1, l2]
      · rw [if_neg hc, show decide ((-1 : Int) < 0) = true from rfl, umpirelaw05_ChartMore.j0, if_pos rfl, alive_is 5]; rfl
    · rw [if_neg he, umpirelaw05_ChartMore.j0, if_pos rfl, alive_is 5]; rfl
  · rw [if_neg hd, umpirelaw05_ChartMore.j0, if_pos rfl, alive_is 5]; rfl

theorem walkChartMore (W : World) (T S K G Q : Int) (_ : (Lit.int .i64 T).wf = true) (_ : (Lit.int .i64 S).wf = true) (_ : (Lit.int .i64 K).wf = true) (_ : (Lit.int .i64 G).wf = true) (_ : (Lit.int .u64 Q).wf = true)
    (kind : Int) (_ : (Lit.int .i64 kind).wf = true) (of : Int) (_ : (Lit.int .i64 of).wf = true) :
    Calls Try.prog 8 #[.agg #[.int .i64 T, .int .i64 S, .int .i64 K, .int .i64 G, .int .u64 Q], .int .i64 kind, .int .i64 of] W fun e w' => e = .returned (.bool true) ∧ Below W.heap.size W w' :=
  umpirelaw05_ChartMore.calls 20 T S K G Q kind of true W (more_true T S K G Q kind of)
end Go.Proofs.Ytfdfcdlbojnamaa.Pure
