/- What the chart's printed functions answer, in plain numbers, in the print of the law ChartApart. Conditions: enough rounds, and a config that is right where a lemma says so. -/
import Derived.Test.YtfdfcdlbojnamaaPChartApartx
import Derived.Test.YtfdfcdlbojnamaaChartMath
import Derived.IntWalk
namespace Go.Proofs.Ytfdfcdlbojnamaa.PChartApart
open Go.RowKit Go.IntWalk Go.Proofs.YtfdfcdlbojnamaaW.PrintWords Go.Proofs.YtfdfcdlbojnamaaW.PrintLast Go.Proofs.YtfdfcdlbojnamaaW.PrintMore Go.Proofs.Ytfdfcdlbojnamaa.ChartMath

theorem clamp_eq {x a b : Int} (h : a ≤ b) : (x == mx a (mn x b)) = decide (a ≤ x ∧ x ≤ b) := by
  rw [Bool.eq_iff_iff]; simp only [beq_iff_eq, decide_eq_true_eq]
  unfold mx mn; split <;> split <;> omega
theorem least_eq {x b : Int} : (x == mn x b) = decide (x ≤ b) := by
  rw [Bool.eq_iff_iff]; simp only [beq_iff_eq, decide_eq_true_eq]
  unfold mn; split <;> omega

theorem right_is (T S K G Q : Int) : chart_Right.f T S K G Q = some (decide (Rt T S K G Q)) := by
  unfold chart_Right.f chart_to.f
  simp only [Option.bind_some]
  rw [clamp_eq (by omega), clamp_eq (by omega), clamp_eq (by omega), clamp_eq (by omega), least_eq]
  congr 1
  rw [Bool.eq_iff_iff]; simp only [Bool.and_eq_true, decide_eq_true_eq]
  exact ⟨fun ⟨a, b, c, d, e⟩ => ⟨a.1, a.2, b.1, b.2, c.1, c.2, d.1, d.2, e⟩, fun ⟨a, b, c, d, e, f, g, h, i⟩ => ⟨⟨a, b⟩, ⟨c, d⟩, ⟨e, f⟩, ⟨g, h⟩, i⟩⟩

theorem of_some (k : Nat) (T S K G Q kind : Int) : ∃ x, chart_of.f (k + 2) T S K G Q kind = some x := by
  unfold chart_of.f
  simp only [chart_of.j0, chart_of.j1]
  repeat' split
  all_goals exact ⟨_, rfl⟩

theorem of_is (k : Nat) {T S K G Q : Int} (kind : Int) (h : Rt T S K G Q) : chart_of.f (k + 2) T S K G Q kind = some (ofv T S K kind) := by
  obtain ⟨h1, h2, h3, h4, h5, h6, _⟩ := h
  have w2 : wrap64 (2 + T) = 2 + T := wrap64_in _ (by omega)
  have w3 : wrap64 (4 * S) = 4 * S := wrap64_in _ (by omega)
  have w4 : wrap64 (2 + T + 4 * S) = 2 + T + 4 * S := wrap64_in _ (by omega)
  unfold chart_of.f ofv
  by_cases a : kind = 1
  · subst a; simp [chart_of.j0]; exact wrap64_in _ (by omega)
  rw [if_neg a, if_neg a]
  by_cases b : kind = 2
  · subst b; simp [chart_of.j0]; exact wrap64_in _ (by omega)
  rw [if_neg b]
  by_cases c : kind = 3
  · subst c; simp [chart_of.j0]
  rw [if_neg c]
  by_cases d : 4 ≤ kind ∧ kind ≤ 7
  · rw [if_pos d]
    have w5 : wrap64 (wrap64 (2 + T + kind) - 4) = 2 + T + kind - 4 := by
      rw [wrap64_in (2 + T + kind) (by omega), wrap64_in _ (by omega)]
    obtain rfl | rfl | rfl | rfl : kind = 4 ∨ kind = 5 ∨ kind = 6 ∨ kind = 7 := by omega
    all_goals simp [chart_of.j0, chart_of.j1, w2, w5]
  rw [if_neg d]
  by_cases e : kind = 8
  · subst e; simp [chart_of.j0, chart_of.j1, w2, w3, w4]
  rw [if_neg e]
  have n4 : kind ≠ 4 := by omega
  have n5 : kind ≠ 5 := by omega
  have n6 : kind ≠ 6 := by omega
  have n7 : kind ≠ 7 := by omega
  simp [chart_of.j0, chart_of.j1, b, c, e, n4, n5, n6, n7]

theorem len_is (k : Nat) (T S K G Q : Int) : chart_Len.f (k + 2) T S K G Q = some (if Rt T S K G Q then lenOf T S K else 0) := by
  unfold chart_Len.f
  rw [right_is]; simp only [Option.bind_some, decide_eq_true_eq]
  by_cases h : Rt T S K G Q
  · rw [if_pos h, if_pos h, of_is k 8 h]
    obtain ⟨h1, h2, h3, h4, h5, h6, _⟩ := h
    simp only [Option.bind_some, ofv, lenOf]
    simp
    rw [wrap64_in _ (by omega)]
  · rw [if_neg h, if_neg h]

theorem cell_is (k : Nat) (T S K G Q kind of : Int) : chart_Cell.f (k + 2) T S K G Q kind of = some (if Rt T S K G Q then cellOf T S K kind of else -1) := by
  unfold chart_Cell.f
  rw [right_is]
  by_cases h : Rt T S K G Q
  · rw [if_pos h, of_is k kind h]
    have hh := h
    obtain ⟨h1, h2, h3, h4, h5, h6, _⟩ := hh
    obtain ⟨r1, r2, r3, r4, r5, r6, _⟩ := ofv_range (kind := kind) ⟨h1, h2⟩ ⟨h3, h4⟩ ⟨h5, h6⟩
    rw [cell_ofv h1 h3 h5]
    simp only [Option.bind_some, decide_eq_true_eq, if_pos h, Bool.and_eq_true, beq_iff_eq]
    split
    · rfl
    split
    · rfl
    split
    · rfl
    rename_i n1 n2
    have q0 : 0 ≤ of * (ofv T S K kind).2.2 := Int.mul_nonneg (by omega) r5
    have q1 : of * (ofv T S K kind).2.2 ≤ 12 * 4 := Int.mul_le_mul (by omega) r6 r5 (by omega)
    rw [wrap64_in (of * (ofv T S K kind).2.2) (by omega), wrap64_in _ (by omega)]
  · obtain ⟨x, hx⟩ := of_some k T S K G Q kind
    rw [hx, if_neg h]
    simp [h]

/-- The loop of 'At' from a kind on finds the spot. -/
theorem at_loop {T S K G Q i : Int} (h : Rt T S K G Q) (h0 : 0 ≤ i) (h1 : i < lenOf T S K) (d : Nat) : ∀ (k : Nat) (x : Int), 1 ≤ x → x ≤ kindAt T S i → kindAt T S i - x = d → d + 4 ≤ k →
    chart_At.l0 k i x T S K G Q = some (kindAt T S i, ofAt T S i) := by
  have hh := h
  obtain ⟨t1, t2, s1, s2, k1, k2, _⟩ := hh
  have hlen : lenOf T S K ≤ 66 := by unfold lenOf; omega
  obtain ⟨hd, c1, c2⟩ := at_div h0 h1
  have hc := cell_at h0 h1
  induction d with
  | zero =>
    intro k x x1 x2 x3 hk
    obtain rfl : x = kindAt T S i := by omega
    obtain ⟨k, rfl⟩ : ∃ m, k = m + 3 := ⟨k - 3, by omega⟩
    obtain ⟨r1, r2, r3, r4, r5, r6, r7⟩ := ofv_range (kind := kindAt T S i) ⟨t1, t2⟩ ⟨s1, s2⟩ ⟨k1, k2⟩
    have r8 := r7 c1 c2
    rw [chart_At.l0]
    rw [if_pos c2, of_is k _ h]
    simp only [Option.bind_some]
    rw [if_neg (by omega), wrap64_in (i - _) (by omega), hd]
    have w : wrap64 (ofAt T S i) = ofAt T S i := wrap64_in _ (by unfold ofAt; repeat' split <;> omega)
    rw [w, cell_is k, if_pos h, hc]
    simp only [Option.bind_some, if_true]
  | succ d ih =>
    intro k x x1 x2 x3 hk
    obtain ⟨k, rfl⟩ : ∃ m, k = m + 3 := ⟨k - 3, by omega⟩
    obtain ⟨r1, r2, r3, r4, r5, r6, r7⟩ := ofv_range (kind := x) ⟨t1, t2⟩ ⟨s1, s2⟩ ⟨k1, k2⟩
    have r8 := r7 x1 (by omega)
    have ih := ih (k + 2) (x + 1) (by omega) (by omega) (by omega) (by omega)
    rw [chart_At.l0]
    rw [if_pos (by omega), of_is k _ h]
    simp only [Option.bind_some]
    rw [if_neg (by omega), cell_is k, if_pos h]
    simp only [Option.bind_some]
    rw [if_neg ?_, wrap64_in (x + 1) (by omega), ih]
    intro e
    obtain ⟨_, e2, _⟩ := at_cell (T := T) (S := S) (K := K) (kind := x) (of := wrap64 ((wrap64 (i - (ofv T S K x).1)).tdiv (ofv T S K x).2.2)) (by omega) (by omega) (by omega) (by omega)
    rw [e] at e2
    omega

theorem at_is (k : Nat) (T S K G Q i : Int) : chart_At.f (k + 14) T S K G Q i = some (if Rt T S K G Q ∧ 0 ≤ i ∧ i < lenOf T S K then (kindAt T S i, ofAt T S i) else (0, 0)) := by
  unfold chart_At.f
  by_cases a : i < 0
  · rw [if_pos a, if_neg (by omega)]; simp [chart_At.j0]
  rw [if_neg a, len_is (k + 12)]
  simp only [Option.bind_some]
  by_cases h : Rt T S K G Q
  · rw [if_pos h]
    by_cases b : i < lenOf T S K
    · rw [if_pos ⟨h, by omega, b⟩]
      obtain ⟨_, c1, c2⟩ := at_div (T := T) (S := S) (K := K) (i := i) (by omega) b
      have := at_loop h (by omega) b (kindAt T S i - 1).toNat (k + 13) 1 (by omega) (by omega) (by omega) (by omega)
      have e : decide (i ≥ lenOf T S K) = false := by simp; omega
      simp only [chart_At.j0, e]
      simpa using this
    · rw [if_neg (by omega)]
      have e : decide (i ≥ lenOf T S K) = true := by simp; omega
      simp [chart_At.j0, e]
  · rw [if_neg h, if_neg (fun x => h x.1)]
    have e : decide (i ≥ 0) = true := by simp; omega
    simp [chart_At.j0, e]

theorem alive_is (k : Nat) : umpirelaw05_alive.f (k + 14) = some true := by
  unfold umpirelaw05_alive.f
  rw [right_is, right_is, len_is (k + 12), cell_is (k + 12), cell_is (k + 12), cell_is (k + 12), cell_is (k + 12), at_is k, at_is k]
  decide

end Go.Proofs.Ytfdfcdlbojnamaa.PChartApart
