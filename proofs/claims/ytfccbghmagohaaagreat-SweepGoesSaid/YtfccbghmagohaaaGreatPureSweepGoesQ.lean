/- The law SweepGoes. No condition. -/
import Derived.Test.YtfccbghmagohaaaGreatSwGoe
namespace Go.Proofs.YtfccbghmagohaaaGreat.Bound
open Go.Proofs.YtfccbghmagohaaaGreat.Ev Go.Proofs.YtfccbghmagohaaaGreat.ChartMath
set_option linter.unusedVariables false
set_option linter.unusedSimpArgs false
def goZ (T S K : Int) : MS := zeroS (List.replicate (lenOf T S K).toNat 0)
def goS1 (T S K st : Int) : MS := mstore T S K (goZ T S K) 4 0 (newI st 0)
def goS2 (T S K num st : Int) : MS := mstore T S K (goS1 T S K st) 6 0 num
def goS3 (T S K num st : Int) : MS := mstore T S K (goS2 T S K num st) 8 0 1
def goS4 (T S K num oth st : Int) : MS := mstore T S K (goS3 T S K num st) 3 oth 1
noncomputable def goR1 (T S K G Q num own oth st : Int) : Option ER := runQ T S K G Q own 1 (lenOf T S K).toNat (goS4 T S K num oth st)
noncomputable def goS5 (T S K G Q num own oth st : Int) : MS := mstore T S K (mload T S K ((goR1 T S K G Q num own oth st).getD dfR).s 4 0) 3 oth 0
noncomputable def goR2 (T S K G Q num own oth st : Int) : Option ER := runQ T S K G Q own 1 (lenOf T S K).toNat (goS5 T S K G Q num own oth st)
section
variable (T S K G Q num own oth st : Int)
def rB (s : MS) (p : PT Value) : PT Value := .b (rowB T S K G Q (lenOf T S K).toNat s) p .bad
def ifB (b : Bool) (p : PT Value) : PT Value := .b (bif true then b else false) p .bad
noncomputable def qGo (R1 R2 : Option ER) : PT Value := (rB T S K G Q (goZ T S K) (rB T S K G Q (goS1 T S K st) (rB T S K G Q (goS2 T S K num st) (rB T S K G Q (goS3 T S K num st) (.cs 1 (.b R1.isSome (rB T S K G Q ((R1.getD dfR).s) (rB T S K G Q (mload T S K (R1.getD dfR).s 4 0) (.cs 1 (.b R2.isSome (.cs 3 (ifB ((R1.getD dfR).e == 9) (.cs 3 (ifB (mat T S K (R1.getD dfR).s 4 0 == newI 6 0) (.cs 2 (ifB ((R2.getD dfR).e == 0) (.cs 2 (rB T S K G Q ((R2.getD dfR).s) (.cs 3 (ifB (mat T S K (R2.getD dfR).s 4 0 == newI 0 1) (.cs 2 (rB T S K G Q (mload T S K (R2.getD dfR).s 4 0) (.cs 1 (ifB (mat T S K (mload T S K (R2.getD dfR).s 4 0) 8 0 == 0) (.cs 2 (rB T S K G Q (mload T S K (mload T S K (R2.getD dfR).s 4 0) 8 0) (.cs 1 (.leaf (.bool (mat T S K (mload T S K (mload T S K (R2.getD dfR).s 4 0) 8 0) 6 0 == 0)))))))))))))))))))) .bad)))) .bad))))))
def goNo : PT Value := .cs 3 (.b (!okT 1 S) (.cs 1 (.b (!okT 1 S) (.cs 23 qTrue) .bad)) (.cs 6 (.b (!okT 1 S) .bad (.cs 28 qTrue))))
noncomputable def pt_go (A1 A2 B1 B2 : Option ER) : PT Value := .b (right T S K G Q) (.cs 3 (.b (!okT 1 S) .bad (.cs 6 (.b (!okT 1 S) .bad (.cs 13 (.b (decide (oth < 0)) (.cs 12 qTrue) (.cs 3 (.b (decide (oth ≥ T)) (.cs 7 qTrue) (.cs 2 (.b (oth == own) (.cs 3 qTrue) (.b (num != 0) (.cs 1 (qGo T S K G Q num 4 A1 A2)) (.cs 1 (qGo T S K G Q num 5 B1 B2))))))))))))) (goNo S)
end
theorem ct_go (T S K G Q num own oth : Int) : cutP (pt_go T S K G Q num own oth (goR1 T S K G Q num own oth 4) (goR2 T S K G Q num own oth 4) (goR1 T S K G Q num own oth 5) (goR2 T S K G Q num own oth 5)) (valT (ev sumsGo 60 4 [.agg #[.int .i64 T, .int .i64 S, .int .i64 K, .int .i64 G, .int .u64 Q], .int .u64 num, .agg #[.int .i64 own, .int .i64 oth]] ⟨.nil, 0⟩)) = den (pt_go T S K G Q num own oth (goR1 T S K G Q num own oth 4) (goR2 T S K G Q num own oth 4) (goR1 T S K G Q num own oth 5) (goR2 T S K G Q num own oth 5)) := by kernel_rfl
theorem get_go {T S K G Q num own oth st : Int} (hR : right T S K G Q = true) (hst : st = 4 ∨ st = 5) (hn : 0 ≤ num ∧ num < 18446744073709551616) (o0 : 0 ≤ oth) (o1 : oth < T) (hne : oth ≠ own) :
    (den (qGo T S K G Q num st (goR1 T S K G Q num own oth st) (goR2 T S K G Q num own oth st))).get = some (.bool true) := by
  have hR' := hR
  simp only [right, decide_eq_true_eq] at hR'
  have hk : okT 1 S = true := by
    have : okT 1 S = decide ((0 : Int) < S) := by simp [okT, slB, slI, genI]
    rw [this]; exact decide_eq_true (by omega)
  obtain ⟨p1, p2, p3, p4, p5, p6, p7, p8, p9, p10⟩ := go_plain (own := own) hR hst hn o0 o1 hne
  have hlo : lenOf T S K = 2 + T + 4 * S + K := rfl
  have gz : Good T S K G Q (lenOf T S K).toNat (goZ T S K).ws := ⟨hR, List.length_replicate, by omega, fun w hw => by rw [List.eq_of_mem_replicate hw]; omega⟩
  have wst : 0 ≤ newI st 0 ∧ newI st 0 < 18446744073709551616 := newI_word (by omega) (by omega) (by omega) (by omega)
  have g1 : Good T S K G Q (lenOf T S K).toNat (goS1 T S K st).ws := gz.lset wst 4 0
  have g2 : Good T S K G Q (lenOf T S K).toNat (goS2 T S K num st).ws := g1.lset hn 6 0
  have g3 : Good T S K G Q (lenOf T S K).toNat (goS3 T S K num st).ws := g2.lset (show (0 : Int) ≤ 1 ∧ (1 : Int) < 18446744073709551616 by omega) 8 0
  have g4 : Good T S K G Q (lenOf T S K).toNat (goS4 T S K num oth st).ws := p1
  obtain ⟨R1, a1, a2, a3⟩ := runQ_is (pt := own) g4 (show isW 1 = true from rfl) hk
  have a2 : R1.e = 9 := a2.trans p2
  have r1 : goR1 T S K G Q num own oth st = some R1 := a1
  have h1 : Good T S K G Q (lenOf T S K).toNat R1.s.ws := by rw [a3]; exact p3
  have w1 : lat T S K R1.s.ws 4 0 = newI 6 0 := by rw [a3]; exact p4
  have s5 : (goS5 T S K G Q num own oth st).ws = lset T S K (sweptI (pmOf T S K G Q own 1 (lenOf T S K).toNat) (goW T S K num oth st (lenOf T S K).toNat)).2 3 oth 0 := by
    unfold goS5
    rw [r1]
    exact congrArg (fun x => lset T S K x 3 oth 0) a3
  have g5 : Good T S K G Q (lenOf T S K).toNat (goS5 T S K G Q num own oth st).ws := by rw [s5]; exact p5
  obtain ⟨R2, b1, b2, b3⟩ := runQ_is (pt := own) g5 (show isW 1 = true from rfl) hk
  rw [s5] at b2 b3
  have b2 : R2.e = 0 := b2.trans p6
  have r2 : goR2 T S K G Q num own oth st = some R2 := b1
  have h2 : Good T S K G Q (lenOf T S K).toNat R2.s.ws := by rw [b3]; exact p7
  have x4 : mat T S K R2.s 4 0 = newI 0 1 := by rw [mat_lat, b3]; exact p8
  have x8 : mat T S K (mload T S K R2.s 4 0) 8 0 = 0 := by rw [mat_lat, mload_ws, b3]; exact p9
  have x6 : mat T S K (mload T S K (mload T S K R2.s 4 0) 8 0) 6 0 = 0 := by rw [mat_lat, mload_ws, mload_ws, b3]; exact p10
  have y4 : mat T S K R1.s 4 0 = newI 6 0 := w1
  rw [r1, r2]
  unfold qGo rB ifB
  simp only [den, Tree.get_br, Tree.get_leaf, Option.isSome_some, Option.getD_some, gz.rowB, g1.rowB, g2.rowB, g3.rowB, h1.rowB, h2.rowB, rowB_load, a2, b2, x4, x8, x6, y4, cond_true, beq_self_eq_true, if_true]
theorem go_get (T S K G Q num own oth : Int) (hn : 0 ≤ num ∧ num < 18446744073709551616) : (den (pt_go T S K G Q num own oth (goR1 T S K G Q num own oth 4) (goR2 T S K G Q num own oth 4) (goR1 T S K G Q num own oth 5) (goR2 T S K G Q num own oth 5))).get = some (.bool true) := by
  unfold pt_go goNo
  simp only [den, Tree.get_br]
  cases hR : right T S K G Q with
  | false => cases okT 1 S <;> rfl
  | true =>
    have hR' := hR
    simp only [right, decide_eq_true_eq] at hR'
    have hk : okT 1 S = true := by
      have : okT 1 S = decide ((0 : Int) < S) := by simp [okT, slB, slI, genI]
      rw [this]; exact decide_eq_true (by omega)
    simp only [if_true, hk, Bool.not_true, Bool.false_eq_true, if_false]
    by_cases o0 : oth < 0
    · rw [if_pos (decide_eq_true o0)]; rfl
    rw [if_neg (by simpa using o0)]
    by_cases o1 : oth ≥ T
    · rw [if_pos (decide_eq_true o1)]; rfl
    rw [if_neg (by simpa using o1)]
    by_cases o2 : oth = own
    · rw [if_pos (by simp [o2])]; rfl
    rw [if_neg (by simp [o2])]
    cases num != 0
    · exact get_go hR (.inr rfl) hn (by omega) (by omega) o2
    · exact get_go hR (.inl rfl) hn (by omega) (by omega) o2
end Go.Proofs.YtfccbghmagohaaaGreat.Bound
namespace Go.Proofs.YtfccbghmagohaaaGreat.Pure
open Go.RowKit Go.Proofs.YtfccbghmagohaaaGreat.Ev Go.Proofs.YtfccbghmagohaaaGreat.Bound
set_option linter.unusedVariables false
set_option linter.unusedSimpArgs false
theorem walkSweepGoes (W : World) (T S K G Q : Int) (wT : (Lit.int .i64 T).wf = true) (wS : (Lit.int .i64 S).wf = true) (wK : (Lit.int .i64 K).wf = true) (wG : (Lit.int .i64 G).wf = true) (wQ : (Lit.int .u64 Q).wf = true) (x : Int) (wx : (Lit.int .u64 x).wf = true) (y z : Int) (wy : (Lit.int .i64 y).wf = true) (wz : (Lit.int .i64 z).wf = true) :
    Calls Tryz.prog 4 #[.agg #[.int .i64 T, .int .i64 S, .int .i64 K, .int .i64 G, .int .u64 Q], .int .u64 x, .agg #[.int .i64 y, .int .i64 z]] W fun e W' => e = .returned (.bool true) ∧ Below W.heap.size W W' := by
  have hx : 0 ≤ x ∧ x < 18446744073709551616 := by
    simp [Lit.wf, IntKind.has, IntKind.min, IntKind.max, IntKind.signed, IntKind.bits] at wx
    omega
  exact calls_plain sumsGo_ok 60 _ _ _ rfl rfl (valT_out (cut_get (ct_go T S K G Q x y z) (go_get T S K G Q x y z hx))) W
end Go.Proofs.YtfccbghmagohaaaGreat.Pure
