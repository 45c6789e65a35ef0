/- The law ChartRight of the print answers true at every config. No condition. -/
import Derived.Test.YtfdfcdlbojnamaaChartRightRef
namespace Go.Proofs.Ytfdfcdlbojnamaa.Pure
open Go.RowKit Go.IntWalk Go.Proofs.Ytfdfcdlbojnamaa.ChartMath Go.Proofs.Ytfdfcdlbojnamaa.PChartRight

theorem right_true (T S K G Q : Int) : umpirelaw05_ChartRight.f 50 T S K G Q = some true := by
  unfold umpirelaw05_ChartRight.f
  unfold umpireref05_Len.f
  rw [alive_is 36, right_is, refright_is, len_is 48, spots_is 10]
  simp only [Option.bind_some]
  rw [row_len]
  by_cases h : Rt T S K G Q
  · have hh := h
    obtain ⟨t1, t2, s1, s2, k1, k2, _⟩ := hh
    have e : decide (lenOf T S K > 0) = true := by unfold lenOf; simp; omega
    simp [h, e]
  · simp [h]

theorem walkChartRight (W : World) (T S K G Q : Int) (_ : (Lit.int .i64 T).wf = true) (_ : (Lit.int .i64 S).wf = true) (_ : (Lit.int .i64 K).wf = true) (_ : (Lit.int .i64 G).wf = true) (_ : (Lit.int .u64 Q).wf = true) :
    Calls Try.prog 3 #[.agg #[.int .i64 T, .int .i64 S, .int .i64 K, .int .i64 G, .int .u64 Q]] W fun e w' => e = .returned (.bool true) ∧ Below W.heap.size W w' :=
  umpirelaw05_ChartRight.calls 50 T S K G Q true W (right_true T S K G Q)
end Go.Proofs.Ytfdfcdlbojnamaa.Pure
