/- The law ThreadRefused: an operation that is told why it may not be changes nothing but pins; one that fails, or clashes, is aborted. No condition. -/
import Derived.Test.YtifojacfedjedaaGreatThRg
import Derived.Test.YtifojacfedjedaaGreatWinRowQ
namespace Go.Proofs.YtifojacfedjedaaGreat.Bound
open Go.Proofs.YtifojacfedjedaaGreat.Ev Go.Proofs.YtifojacfedjedaaGreat.ChartMath
set_option linter.unusedVariables false
set_option linter.unusedSimpArgs false
def qYes : PT Value := .leaf (.bool true)
section
variable (T S K G Q y : Int) (l : Nat) (cells : List Int)
def wantL : List Int := ([] ++ List.take (l * 1) (List.drop 0 cells)).set (0 + Int.toNat 2 * 1) 0
noncomputable def qSm (R : TR) : PT Value := .b (decide (l = 0)) .bad (.b (decide (0 + l * 1 ≤ cells.length)) (.b (decide ((0 : Nat) = 0 ∧ (0 : Nat) = 0 * 1 ∧ (0 + l) * 8 ≤ 140737488355328 ∧ 0 + l ≤ 4611686018427387904)) (.b (decide ((0 : Int) ≤ 2 ∧ (2 : Int) < ((0 + l : Nat) : Int))) (.b (decide ((0 + Int.toNat 2 * 1) < ([] ++ List.take (l * 1) (List.drop 0 cells)).length))
  (.cs 2 (.b (cdec (cells_I (mA T S K G Q l l R.s))) (.cs 2 (.b (cdec (sameG_I [.n l, .n l, .n (0 + l), .n (0 + l), .ws R.s.ws, .ws (wantL l cells)])) (.leaf (.bool (bif true then decide (R.s.ws = wantL l cells) else false))) .bad)) .bad)) .bad) .bad) .bad) .bad)
def slW : Int := IntKind.i64.wrap (IntKind.i64.wrap (y.tmod 16) - 1)
noncomputable def qSt (R : TR) : PT Value := .b (rowB T S K G Q l R.s) (.cs 1 (.b (isW (mat T S K R.s 4 (slW y))) (.cs 2 (.leaf (.bool (bif true then bif false then true else stI (mat T S K R.s 4 (slW y)) == 5 else false)))) .bad)) .bad
noncomputable def qEl (R : TR) : PT Value := .b (R.t 6 != 7) (.cs 3 (.b (bif true then R.t 6 != 8 else false) (.cs 7 qYes) (.cs 3 (qSt T S K G Q y l R)))) (.cs 8 (qSt T S K G Q y l R))
noncomputable def q5 (R : TR) : PT Value := .b (R.t 6 == 1) (.cs 12 (qSm T S K G Q l cells R)) (.cs 1 (.b (R.t 6 == 2) (.cs 9 (qSm T S K G Q l cells R)) (.cs 1 (.b (R.t 6 == 3) (.cs 6 (qSm T S K G Q l cells R)) (.cs 1 (.b (R.t 6 == 4) (.cs 3 (qSm T S K G Q l cells R)) (.cs 1 (.b (R.t 6 == 5) (qSm T S K G Q l cells R) (.cs 6 (qEl T S K G Q y l R))))))))))
noncomputable def qRf (R : Option TR) : PT Value := .cs 2 (.b R.isSome (q5 T S K G Q y l cells (R.getD dfE)) .bad)
noncomputable def pt_rf (cl : Nat) (x z : Int) : PT Value := .b (cdec (of_I [.i T, .i S, .i K, .i G, .i Q, .n l, .n cl, .ws cells])) (.b (isRow T S K G Q l) (.cs 5 (.b (decide (x < 1)) (.cs 3 qYes) (.b (decide (x > 6)) (.cs 3 qYes)
  (lStart (fun M k X => qRf T S K G Q y l cells (stRun 500 T S K G Q l (thT T S K G Q 0) M k X (zeroS cells))) T S K G Q 0 y z x)))) (.cs 10 qYes)) .bad
end
theorem ct_rf (T S K G Q : Int) (l cl : Nat) (cells : List Int) (x y z : Int) : cutP (pt_rf T S K G Q y l cells cl x z) (valT (ev sumsRf 60 7 [.agg #[.int .i64 T, .int .i64 S, .int .i64 K, .int .i64 G, .int .u64 Q], .slice (some ⟨0, 0, none⟩) l cl, .agg #[.int .i64 x, .int .u64 y, .int .i64 z]] (winsH [⟨0, 0, 0, .ints .u64 cells⟩]))) = den (pt_rf T S K G Q y l cells cl x z) := by kernel_rfl
section
variable {T S K G Q y : Int} {l : Nat} {cells : List Int} {R : TR}
theorem want_is (hl : cells.length = l) : wantL l cells = cells.set 2 0 := by
  unfold wantL
  rw [Nat.mul_one, List.drop_zero, List.nil_append, List.take_of_length_le (by omega)]
  rfl
theorem qSm_get (hg : Good T S K G Q l cells) (gr : Good T S K G Q l R.s.ws) (h : R.s.ws = cells.set 2 0) : (den (qSm T S K G Q l cells R)).get = some (.bool true) := by
  have hl := hg.ll
  have hc := hg.cfg
  have hlen := hg.len
  unfold lenOf at hl
  unfold qSm
  have hw := want_is hlen
  have e1 : ([] ++ List.take (l * 1) (List.drop 0 cells) : List Int).length = l := by simp; omega
  simp only [den, Tree.get_br, Tree.get_leaf]
  rw [if_neg (by simp; omega)]
  refine (if_pos (decide_eq_true (show 0 + l * 1 ≤ cells.length by omega))).trans ?_
  refine (if_pos (decide_eq_true ⟨trivial, trivial, by omega, by omega⟩)).trans ?_
  refine (if_pos (decide_eq_true (show (0 : Int) ≤ 2 ∧ (2 : Int) < ((0 + l : Nat) : Int) by omega))).trans ?_
  refine (if_pos (decide_eq_true (show 0 + 2 * 1 < ([] ++ List.take (l * 1) (List.drop 0 cells) : List Int).length by rw [e1]; omega))).trans ?_
  refine (if_pos (cdec_true (show Row T S K G Q l R.s.ws from ⟨gr.right, gr.len, gr.ll⟩))).trans ?_
  refine (if_pos (cdec_true (show R.s.ws.length = l ∧ (wantL l cells).length = 0 + l ∧ l ≤ 100000 from ⟨gr.len, by rw [hw]; simp; omega, by omega⟩))).trans ?_
  rw [hw, decide_eq_true h]
  rfl
theorem slW_is (hy : isW y = true) (hk : okT y S = true) : slW y = slI y := by
  have h := isW_iff.1 hy
  obtain ⟨a, b, c, d⟩ := okT_sl hk
  have e : y.tmod 16 = y % 16 := Int.tmod_eq_emod_of_nonneg h.1
  unfold slW
  rw [e, d, IntKind.wrap_i64, IntKind.wrap_i64]
  omega
theorem qSt_get (hy : isW y = true) (hk : okT y S = true) (gr : Good T S K G Q l R.s.ws) (h : stI (lat T S K R.s.ws 4 (slI y)) = 5) : (den (qSt T S K G Q y l R)).get = some (.bool true) := by
  unfold qSt
  rw [slW_is hy hk]
  have e : mat T S K R.s 4 (slI y) = lat T S K R.s.ws 4 (slI y) := rfl
  simp only [den, Tree.get_br, Tree.get_leaf]
  refine (if_pos gr.rowB).trans ?_
  refine (if_pos (isW_iff.2 (by rw [e]; exact gr.lat _ _))).trans ?_
  rw [e, h]
  rfl
theorem qRf_get (hy : isW y = true) (hg : Good T S K G Q l cells) (h : RfOk T S K G Q l cells y R) : (den (qRf T S K G Q y l cells (some R))).get = some (.bool true) := by
  obtain ⟨gr, h⟩ := h
  unfold qRf q5 qEl
  simp only [den, Tree.get_br, Option.isSome_some, Option.getD_some, if_true]
  rcases h with h | h | h
  · have n : ∀ x : Int, x = 1 ∨ x = 2 ∨ x = 3 ∨ x = 4 ∨ x = 5 → (R.t 6 == x) = false := fun x hx => by rw [beq_eq_false_iff_ne]; omega
    have n7 : (R.t 6 != 7) = true := by rw [bne_iff_ne]; omega
    have n8 : (R.t 6 != 8) = true := by rw [bne_iff_ne]; omega
    rw [n 1 (by omega), n 2 (by omega), n 3 (by omega), n 4 (by omega), n 5 (by omega), n7, n8]
    rfl
  · obtain ⟨h78, hk, h5⟩ := h
    have n : ∀ x : Int, x = 1 ∨ x = 2 ∨ x = 3 ∨ x = 4 ∨ x = 5 → (R.t 6 == x) = false := fun x hx => by rw [beq_eq_false_iff_ne]; omega
    have g := qSt_get (R := R) hy hk gr h5
    rw [n 1 (by omega), n 2 (by omega), n 3 (by omega), n 4 (by omega), n 5 (by omega)]
    rcases h78 with e | e
    · rw [show (R.t 6 != 7) = false by rw [bne_eq_false_iff_eq]; exact e]
      exact g
    · rw [show (R.t 6 != 7) = true by rw [bne_iff_ne]; omega, show (R.t 6 != 8) = false by rw [bne_eq_false_iff_eq]; exact e]
      exact g
  · obtain ⟨he, hw⟩ := h
    have g := qSm_get (R := R) hg gr hw
    rcases he with e | e | e | e <;> rw [e] <;> exact g
theorem rf_get (T S K G Q x y z : Int) (l cl : Nat) (cells : List Int) (hl : cells.length = l) (hw : ∀ w ∈ cells, 0 ≤ w ∧ w < 18446744073709551616) (hy : isW y = true) : (den (pt_rf T S K G Q y l cells cl x z)).get = some (.bool true) := by
  have hI : cdec (of_I [.i T, .i S, .i K, .i G, .i Q, .n l, .n cl, .ws cells]) = true := cdec_true hl
  unfold pt_rf
  simp only [den, Tree.get_br, hI, if_true]
  cases hr : isRow T S K G Q l with
  | false => rfl
  | true =>
    simp only [isRow, Bool.and_eq_true, decide_eq_true_eq] at hr
    have hg : Good T S K G Q l cells := ⟨hr.1, hl, hr.2, hw⟩
    simp only [if_true]
    by_cases x0 : x < 1
    · rw [if_pos (decide_eq_true x0)]; rfl
    rw [if_neg (by simpa using x0)]
    by_cases x7 : x > 6
    · rw [if_pos (decide_eq_true x7)]; rfl
    rw [if_neg (by simpa using x7)]
    refine lStart_get hy (fun M k X hX => ?_) (by omega) (by omega)
    obtain ⟨R, r1, r2⟩ := rf_all (z := z) hg hy M k X hX
    simp only [r1]
    exact qRf_get hy hg r2
end
noncomputable def sumsRz : Sums := withPure sums9 11 aliveS
theorem sumsRz_ok : SumsOk sumsRz := aliveS_ok sums9_ok
def pt_rz (T S K G Q : Int) : PT Value := .b (!right T S K G Q) (.cs 16 qYes) (.cs 4 (.b (((0 : Nat) : Int) != lenA T S K G Q) (.cs 10 qYes) .bad))
theorem ct_rz (T S K G Q x y z : Int) : cutP (pt_rz T S K G Q) (valT (ev sumsRz 60 7 [.agg #[.int .i64 T, .int .i64 S, .int .i64 K, .int .i64 G, .int .u64 Q], .slice none 0 0, .agg #[.int .i64 x, .int .u64 y, .int .i64 z]] ⟨.nil, 0⟩)) = den (pt_rz T S K G Q) := by kernel_rfl
theorem rz_get (T S K G Q : Int) : (den (pt_rz T S K G Q)).get = some (.bool true) := by
  unfold pt_rz
  simp only [den, Tree.get_br]
  cases hR : right T S K G Q with
  | false => rfl
  | true =>
    have hR2 := hR
    simp only [right, decide_eq_true_eq] at hR2
    have : (((0 : Nat) : Int) != lenA T S K G Q) = true := by
      rw [bne_iff_ne]
      simp only [lenA, hR, cond_true, lenOf]
      omega
    simp only [Bool.not_true, Bool.false_eq_true, if_false, this, if_true]
    rfl
end Go.Proofs.YtifojacfedjedaaGreat.Bound
namespace Go.Proofs.YtifojacfedjedaaGreat.Pure
open Go.RowKit Go.Proofs.YtifojacfedjedaaGreat.Ev Go.Proofs.YtifojacfedjedaaGreat.Bound
set_option linter.unusedVariables false
set_option linter.unusedSimpArgs false
theorem walkThreadRefused (W : World) (T S K G Q : Int) (wT : (Lit.int .i64 T).wf = true) (wS : (Lit.int .i64 S).wf = true) (wK : (Lit.int .i64 K).wf = true) (wG : (Lit.int .i64 G).wf = true) (wQ : (Lit.int .u64 Q).wf = true) (a : Option Addr) (len cap : Nat) (zs : List Int) (h : Open.IsWin .u64 W a len cap zs) (x y z : Int) (wx : (Lit.int .i64 x).wf = true) (wy : (Lit.int .u64 y).wf = true) (wz : (Lit.int .i64 z).wf = true) :
    Calls Tryz.prog 7 #[.agg #[.int .i64 T, .int .i64 S, .int .i64 K, .int .i64 G, .int .u64 Q], .slice a len cap, .agg #[.int .i64 x, .int .u64 y, .int .i64 z]] W fun e W' => e = .returned (.bool true) ∧ Below W.heap.size W W' := by
  have hy : isW y = true := by
    simp [Lit.wf, IntKind.has, IntKind.min, IntKind.max, IntKind.signed, IntKind.bits] at wy
    exact isW_iff.2 (by omega)
  rcases h with ⟨rfl, rfl, rfl, rfl⟩ | ⟨b, off, cs, t, fr, rfl, h1, hh2, h3, hb, hc, hz⟩
  · exact calls_plain sumsRz_ok 60 _ _ _ rfl rfl (valT_out (cut_get (ct_rz T S K G Q x y z) (rz_get T S K G Q))) W
  · have := calls_wins sumsRf_ok 60 7 [⟨b, cap - len, off, .ints .u64 (zs.take len)⟩] [.agg #[.int .i64 T, .int .i64 S, .int .i64 K, .int .i64 G, .int .u64 Q], .slice (some ⟨0, 0, none⟩) len len, .agg #[.int .i64 x, .int .u64 y, .int .i64 z]] (.bool true) W (fun w hw => by
      simp at hw
      subst hw
      exact seen_ints h1 h3 hb hc) (by simp [scL, sc, scA]) rfl (valT_out (cut_get (ct_rf T S K G Q len len (zs.take len) x y z) (rf_get T S K G Q x y z len len (zs.take len) (by simp; omega) (words_take hz) hy)))
    have e : (⟨concL (winV [⟨b, cap - len, off, .ints .u64 (zs.take len)⟩]) [.agg #[.int .i64 T, .int .i64 S, .int .i64 K, .int .i64 G, .int .u64 Q], .slice (some ⟨0, 0, none⟩) len len, .agg #[.int .i64 x, .int .u64 y, .int .i64 z]]⟩ : Array Value) = #[.agg #[.int .i64 T, .int .i64 S, .int .i64 K, .int .i64 G, .int .u64 Q], .slice (some ⟨b, off, none⟩) len cap, .agg #[.int .i64 x, .int .u64 y, .int .i64 z]] := by
      simp [concL, conc, concA, winV]
      omega
    rw [e] at this
    exact this
end Go.Proofs.YtifojacfedjedaaGreat.Pure
