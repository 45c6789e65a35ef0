/- The law ThreadBusy: while it goes on with an operation no other one is started, and what it told last stays; idle, it does no step. No condition. -/
import Derived.Test.YtifojacfedjedaaGreatThPa
namespace Go.Proofs.YtifojacfedjedaaGreat.Bound
open Go.Proofs.YtifojacfedjedaaGreat.Ev Go.Proofs.YtifojacfedjedaaGreat.ChartMath
set_option linter.unusedVariables false
set_option linter.unusedSimpArgs false
section
variable (T S K G Q y z b0 b1 b2 : Int)
def btS : MS := ⟨List.replicate (lenOf T S K).toNat 0, 0, 0, 0, 0, 0, 0, false⟩
def btX (M k : Nat) (X : List Atom) : List Atom := bz (1, M, k) 0 (uL [T, S, K, G, Q, 0, 0, 0, 0]) (pinA 0 0 ++ (X ++ mA T S K G Q (lenOf T S K).toNat (lenOf T S K).toNat (btS T S K))) b0 b1 b2
noncomputable def btR (M k : Nat) (X : List Atom) : Option BR := runB T S K G Q (lenOf T S K).toNat (lenOf T S K).toNat (btX T S K G Q b0 b1 b2 M k X)
def qYes : PT Value := .leaf (.bool true)
noncomputable def qR (R : Option BR) : PT Value := .b R.isSome (.cs 11 (.leaf (.bool (bif true then (R.getD dfB).s.many == (R.getD dfB).s.many else false)))) .bad
def slX : Int := if okT y S = true then slI y else 0
def enX (n : Nat) (w : List Int) : List Atom := [.i (slI y), .i 0, .i y, .n n, .n n, .b false, .b false, .i 0, .i 0, .ws w]
def swX : List Atom := [.i T, .i S, .i K, .i G, .i Q, .i 0, .i (slX S y), .i (if okT y S = true then genI y else 0), .b false, .i 0] ++ enX y 4 [4, 5, 6, 7]
noncomputable def qKey (M d : Nat) : PT Value := .b (isW y) (.b (decide (z < 0)) (.cs 7 (qR (btR T S K G Q b0 b1 b2 M d [.i 5]))) (.cs 3 (.b (decide (z ≥ K)) (.cs 2 (qR (btR T S K G Q b0 b1 b2 M d [.i 5]))) (.b (!okT y S) (.cs 2 (qR (btR T S K G Q b0 b1 b2 M d [.i 2])))
  (.cs 4 (.b (isW y) (.cs 2 (qR (btR T S K G Q b0 b1 b2 M 0 ([.i z, .i (slX S y)] ++ enX y 1 [2])))) .bad)))))) .bad
noncomputable def qCall (M d : Nat) (D E : List Atom) : PT Value := .b (isW y) (.b (!okT y S) (.cs 2 (qR (btR T S K G Q b0 b1 b2 M d D))) (.cs 4 (.b (isW y) (.cs 2 (qR (btR T S K G Q b0 b1 b2 M 0 E))) .bad))) .bad
noncomputable def pt_bl (x : Int) : PT Value := .b (right T S K G Q) (.cs 16 (.b (decide (x < 1)) (.cs 9 qYes) (.cs 2 (.b (decide (x > 6)) (.cs 5 qYes) (.b (x == 1) (.cs 2 (qR (btR T S K G Q b0 b1 b2 0 0 [.i 0, .i 0, .i 0, .i 0, .i 0])))
  (.b (x == 2) (qKey T S K G Q y z b0 b1 b2 1 9) (.b (x == 3) (qKey T S K G Q y z b0 b1 b2 2 11) (.b (x == 4) (qCall T S K G Q y b0 b1 b2 3 15 [.i 2, .i 0, .i 0] ([.i (slX S y)] ++ enX y 1 [2])) (.b (x == 5) (qCall T S K G Q y b0 b1 b2 4 3 [.i 2, .i 0, .i 0] ([.i (slX S y)] ++ enX y 1 [2]))
  (.b (x == 6) (qCall T S K G Q y b0 b1 b2 5 20 [.i 2] (swX T S K G Q y)) .bad)))))))))) (.cs 7 qYes)
end
theorem ct_bl (T S K G Q x y z b0 b1 b2 : Int) : cutP (pt_bl T S K G Q y z b0 b1 b2 x) (valT (ev sumsBl 60 6 [.agg #[.int .i64 T, .int .i64 S, .int .i64 K, .int .i64 G, .int .u64 Q], .agg #[.int .i64 x, .int .u64 y, .int .i64 z], .agg #[.int .i64 b0, .int .u64 b1, .int .i64 b2]] ⟨.nil, 0⟩)) = den (pt_bl T S K G Q y z b0 b1 b2 x) := by kernel_rfl
section
variable {T S K G Q y z b0 b1 b2 : Int} (hR : right T S K G Q = true) (hy : isW y = true)
theorem qR_get {R : BR} : (den (qR (some R))).get = some (.bool true) := by
  unfold qR
  simp only [den, Tree.get_br, Tree.get_leaf, Option.isSome_some, Option.getD_some, if_true, beq_self_eq_true, cond_true]
theorem bt_good (hR : right T S K G Q = true) : Good T S K G Q (lenOf T S K).toNat (btS T S K).ws := by
  have hR' := hR
  simp only [right, decide_eq_true_eq] at hR'
  have hlo : lenOf T S K = 2 + T + 4 * S + K := rfl
  exact ⟨hR, List.length_replicate, by omega, fun w hw => by rw [List.eq_of_mem_replicate hw]; omega⟩
theorem bt_fin {M k : Nat} {X : List Atom} (h : Fin T S K G Q (lenOf T S K).toNat (lenOf T S K).toNat (btX T S K G Q b0 b1 b2 M k X)) : (den (qR (btR T S K G Q b0 b1 b2 M k X))).get = some (.bool true) := by
  obtain ⟨R, hr⟩ := runB_fin h
  unfold btR
  rw [hr]
  exact qR_get
theorem mute_t : Mute (uL [T, S, K, G, Q, 0, 0, 0, 0]) := ⟨rfl, rfl, rfl⟩
include hR
theorem d_fin {M : Nat} {X : List Atom} (h1 : Rb1Ok M (mcDone M)) (h2 : Rb2Ok M (mcDone M)) (h4 : Rb4Ok M) (q1 : inQ (2, M, mcDone M) = true) (q2 : inQ (4, M, mcDone M) = true) (l : List Int) (hX : mcOw M (mcDone M) (uL l) noB (nL []) enW = X) : (den (qR (btR T S K G Q b0 b1 b2 M (mcDone M) X))).get = some (.bool true) := by
  refine bt_fin ?_
  rw [← hX]
  exact fin_done mute_t (bt_good hR) rfl h1 h2 h4 q1 q2 _ _ _ _
include hy
theorem key_get {M d : Nat} (f5 : (den (qR (btR T S K G Q b0 b1 b2 M d [.i 5]))).get = some (.bool true)) (f2 : (den (qR (btR T S K G Q b0 b1 b2 M d [.i 2]))).get = some (.bool true)) (fe : okT y S = true → (den (qR (btR T S K G Q b0 b1 b2 M 0 ([.i z, .i (slX S y)] ++ enX y 1 [2])))).get = some (.bool true)) : (den (qKey T S K G Q y z b0 b1 b2 M d)).get = some (.bool true) := by
  have _h := hR
  unfold qKey
  simp only [den, Tree.get_br, hy, if_true]
  split
  · exact f5
  · split
    · exact f5
    · cases hk : okT y S with
      | false => simpa using f2
      | true => simpa using fe hk
theorem call_get {M d : Nat} {D E : List Atom} (f2 : (den (qR (btR T S K G Q b0 b1 b2 M d D))).get = some (.bool true)) (fe : okT y S = true → (den (qR (btR T S K G Q b0 b1 b2 M 0 E))).get = some (.bool true)) : (den (qCall T S K G Q y b0 b1 b2 M d D E)).get = some (.bool true) := by
  have _h := hR
  unfold qCall
  simp only [den, Tree.get_br, hy, if_true]
  cases hk : okT y S with
  | false => simpa using f2
  | true => simpa using fe hk
end
theorem bl_get (T S K G Q x y z b0 b1 b2 : Int) (hy : isW y = true) : (den (pt_bl T S K G Q y z b0 b1 b2 x)).get = some (.bool true) := by
  unfold pt_bl
  simp only [den, Tree.get_br]
  cases hR : right T S K G Q with
  | false => rfl
  | true =>
    have hg := bt_good hR
    simp only [if_true]
    by_cases x0 : x < 1
    · rw [if_pos (decide_eq_true x0)]; rfl
    rw [if_neg (by simpa using x0)]
    by_cases x7 : x > 6
    · rw [if_pos (decide_eq_true x7)]; rfl
    rw [if_neg (by simpa using x7)]
    by_cases x1 : x = 1
    · subst x1
      exact bt_fin (fin_op mute_t hg rfl)
    rw [if_neg (by simpa using x1)]
    by_cases x2 : x = 2
    · rw [if_pos (by simpa using x2)]
      refine key_get hR hy (d_fin hR rb_1_1_9 rb_2_1_9 rb_4_1_9 rfl rfl [5] ow_d1) (d_fin hR rb_1_1_9 rb_2_1_9 rb_4_1_9 rfl rfl [2] ow_d1) fun hk => bt_fin ?_
      unfold slX
      rw [hk]
      exact fin_rd mute_t hg rfl hy hk
    rw [if_neg (by simpa using x2)]
    by_cases x3 : x = 3
    · rw [if_pos (by simpa using x3)]
      refine key_get hR hy (d_fin hR rb_1_2_11 rb_2_2_11 rb_4_2_11 rfl rfl [5] ow_d2) (d_fin hR rb_1_2_11 rb_2_2_11 rb_4_2_11 rfl rfl [2] ow_d2) fun hk => bt_fin ?_
      unfold slX
      rw [hk]
      exact fin_wr mute_t hg rfl hy hk
    rw [if_neg (by simpa using x3)]
    by_cases x4 : x = 4
    · rw [if_pos (by simpa using x4)]
      refine call_get hR hy (d_fin hR rb_1_3_15 rb_2_3_15 rb_4_3_15 rfl rfl [2, 0, 0] ow_d3) fun hk => bt_fin ?_
      unfold slX
      rw [hk]
      exact fin_cm mute_t hg rfl hy hk
    rw [if_neg (by simpa using x4)]
    by_cases x5 : x = 5
    · rw [if_pos (by simpa using x5)]
      refine call_get hR hy (d_fin hR rb_1_4_3 rb_2_4_3 rb_4_4_3 rfl rfl [2, 0, 0] ow_d4) fun hk => bt_fin ?_
      unfold slX
      rw [hk]
      exact fin_ab mute_t hg rfl hy hk
    rw [if_neg (by simpa using x5)]
    have x6 : x = 6 := by omega
    rw [if_pos (by simpa using x6)]
    refine call_get hR hy (d_fin hR rb_1_5_20 rb_2_5_20 rb_4_5_20 rfl rfl [2] ow_d5) fun hk => bt_fin ?_
    unfold swX slX
    rw [hk]
    exact fin_sw mute_t hg rfl hy hk
end Go.Proofs.YtifojacfedjedaaGreat.Bound
namespace Go.Proofs.YtifojacfedjedaaGreat.Pure
open Go.RowKit Go.Proofs.YtifojacfedjedaaGreat.Ev Go.Proofs.YtifojacfedjedaaGreat.Bound
set_option linter.unusedVariables false
set_option linter.unusedSimpArgs false
theorem walkThreadBusy (W : World) (T S K G Q : Int) (wT : (Lit.int .i64 T).wf = true) (wS : (Lit.int .i64 S).wf = true) (wK : (Lit.int .i64 K).wf = true) (wG : (Lit.int .i64 G).wf = true) (wQ : (Lit.int .u64 Q).wf = true) (x y z : Int) (wx : (Lit.int .i64 x).wf = true) (wy : (Lit.int .u64 y).wf = true) (wz : (Lit.int .i64 z).wf = true) (b0 b1 b2 : Int) (v0 : (Lit.int .i64 b0).wf = true) (v1 : (Lit.int .u64 b1).wf = true) (v2 : (Lit.int .i64 b2).wf = true) :
    Calls Tryz.prog 6 #[.agg #[.int .i64 T, .int .i64 S, .int .i64 K, .int .i64 G, .int .u64 Q], .agg #[.int .i64 x, .int .u64 y, .int .i64 z], .agg #[.int .i64 b0, .int .u64 b1, .int .i64 b2]] W fun e W' => e = .returned (.bool true) ∧ Below W.heap.size W W' := by
  have hy : isW y = true := by
    simp [Lit.wf, IntKind.has, IntKind.min, IntKind.max, IntKind.signed, IntKind.bits] at wy
    exact isW_iff.2 (by omega)
  exact calls_plain sumsBl_ok 60 _ _ _ rfl rfl (valT_out (cut_get (ct_bl T S K G Q x y z b0 b1 b2) (bl_get T S K G Q x y z b0 b1 b2 hy))) W
end Go.Proofs.YtifojacfedjedaaGreat.Pure
