/- The law ThreadPins: while an operation looks at words it is pinned, in an epoch that has begun; behind it it is not. No condition. -/
import Derived.Test.YtifojacfedjedaaGreatThPb
namespace Go.Proofs.YtifojacfedjedaaGreat.Bound
open Go.Proofs.YtifojacfedjedaaGreat.Ev Go.Proofs.YtifojacfedjedaaGreat.ChartMath
set_option linter.unusedVariables false
set_option linter.unusedSimpArgs false
open Classical in
noncomputable def runZ (x : List Atom) : Option (Nat → Int) :=
  if h : ∃ t : Nat → Int, ∃ n, iterR rdZ n x = some (.exit 0, .n 0 :: thA t) then some h.choose else none
theorem runZ_fin {x : List Atom} (h : FinZ x) : ∃ R, runZ x = some R := by
  obtain ⟨t, n, hn⟩ := h
  have hx : ∃ t : Nat → Int, ∃ n, iterR rdZ n x = some (.exit 0, .n 0 :: thA t) := ⟨t, n, hn⟩
  unfold runZ
  rw [dif_pos hx]
  exact ⟨_, rfl⟩
noncomputable def pz_o (x : List Atom) : Tree (Ex × List Atom) := .br (runZ x).isSome (.leaf (.exit 0, .n 0 :: thA ((runZ x).getD fun _ => 0))) .bad
theorem pz_step (x : List Atom) (r : Ex × List Atom) (h : (pz_o x).get = some r) : ∃ n, iterR rdZ n x = some r := by
  unfold pz_o at h
  obtain ⟨hs, g2⟩ := get_br h
  cases hv : runZ x with
  | none => rw [hv] at hs; cases hs
  | some R =>
    rw [hv] at g2
    simp only [Option.getD_some, Tree.get_leaf, Option.some.injEq] at g2
    unfold runZ at hv
    split at hv
    · rename_i hq
      cases hv
      obtain ⟨n, hn⟩ := hq.choose_spec
      exact ⟨n, hn.trans (by rw [← g2])⟩
    · cases hv
theorem bodyPz_is : bodyOf 3 = some ((bodyOf 3).getD .skip) := by kernel_rfl
theorem keysPz_is : keysOk (loopsIn ((bodyOf 3).getD .skip)) = true := by kernel_rfl
theorem PZ_heads : headsOk 0 PZ.F.heads = true := by kernel_rfl
noncomputable def sumsPl : Sums := withLoop sumsBz 3 10 (tmsum 0 PZ.F pz_o)
theorem sumsPl_ok : SumsOk sumsPl := loop_ssum (fuel := 60) (S := PZ) (out := pz_o) sumsBz_ok bodyPz_is keysPz_is PZ_heads pz_step
section
variable (T S K G Q y z id : Int)
def ptZ : MS := ⟨List.replicate (lenOf T S K).toNat 0, 0, 0, 0, 0, 0, 0, false⟩
def ptS : MS := mstore T S K (mload T S K (ptZ T S K) 2 0) 3 id (IntKind.u64.wrap (mat T S K (ptZ T S K) 2 0 + 1))
noncomputable def ptR (ph M k : Nat) (X : List Atom) : Option (Nat → Int) := runZ (pz (ph, M, k) id 0 (uL [T, S, K, G, Q, id, 0, 0, 0]) (X ++ mA T S K G Q (lenOf T S K).toNat (lenOf T S K).toNat (ptS T S K id)))
def qYes : PT Value := .leaf (.bool true)
def qZ (R : Option (Nat → Int)) : PT Value := .b (rowB T S K G Q (lenOf T S K).toNat (ptZ T S K)) (.cs 3 (.b (rowB T S K G Q (lenOf T S K).toNat (mload T S K (ptZ T S K) 2 0)) (.cs 2 (.b R.isSome (.cs 2 qYes) .bad)) .bad)) .bad
noncomputable def qZR (ph M k : Nat) (X : List Atom) : PT Value := qZ T S K G Q (ptR T S K G Q id ph M k X)
def slX : Int := if okT y S = true then slI y else 0
def enX (n : Nat) (w : List Int) : List Atom := [.i (slI y), .i 0, .i y, .n n, .n n, .b false, .b false, .i 0, .i 0, .ws w]
def swX : List Atom := [.i T, .i S, .i K, .i G, .i Q, .i id, .i (slX S y), .i (if okT y S = true then genI y else 0), .b false, .i 0] ++ enX y 4 [4, 5, 6, 7]
noncomputable def qKey (M d : Nat) : PT Value := .b (isW y) (.b (decide (z < 0)) (.cs 8 (qZR T S K G Q id 4 M d [.i 5])) (.cs 3 (.b (decide (z ≥ K)) (.cs 3 (qZR T S K G Q id 4 M d [.i 5])) (.b (!okT y S) (.cs 3 (qZR T S K G Q id 4 M d [.i 2]))
  (.cs 4 (.b (isW y) (.cs 3 (qZR T S K G Q id 3 M 0 ([.i z, .i (slX S y)] ++ enX y 1 [2]))) .bad)))))) .bad
noncomputable def qCall (M d : Nat) (D E : List Atom) : PT Value := .b (isW y) (.b (!okT y S) (.cs 3 (qZR T S K G Q id 4 M d D)) (.cs 4 (.b (isW y) (.cs 3 (qZR T S K G Q id 3 M 0 E)) .bad))) .bad
noncomputable def pt_pl (x : Int) : PT Value := .b (right T S K G Q) (.cs 6 (.b (decide (id < 0)) (.cs 6 qYes) (.cs 3 (.b (decide (id ≥ T)) (.cs 1 qYes) (.cs 3 (.b (decide (x < 1)) (.cs 9 (.b (decide (x < 1)) (.cs 6 qYes) .bad)) (.cs 2 (.b (decide (x > 6)) (.cs 5 (.b (decide (x < 1)) .bad (.cs 3 (.b (bif true then bif false then true else decide (x > 6) else false) (.cs 1 qYes) .bad))))
  (.b (x == 1) (.cs 3 (qZR T S K G Q id 3 0 0 [.i 0, .i 0, .i 0, .i 0, .i 0]))
  (.b (x == 2) (qKey T S K G Q y z id 1 9) (.b (x == 3) (qKey T S K G Q y z id 2 11) (.b (x == 4) (qCall T S K G Q y id 3 15 [.i 2, .i 0, .i 0] ([.i (slX S y)] ++ enX y 1 [2])) (.b (x == 5) (qCall T S K G Q y id 4 3 [.i 2, .i 0, .i 0] ([.i (slX S y)] ++ enX y 1 [2]))
  (.b (x == 6) (qCall T S K G Q y id 5 20 [.i 2] (swX T S K G Q y id)) .bad)))))))))))))) (.cs 15 qYes)
end
theorem ct_pl (T S K G Q x y z id : Int) : cutP (pt_pl T S K G Q y z id x) (valT (ev sumsPl 60 3 [.agg #[.int .i64 T, .int .i64 S, .int .i64 K, .int .i64 G, .int .u64 Q], .agg #[.int .i64 x, .int .u64 y, .int .i64 z], .int .i64 id] ⟨.nil, 0⟩)) = den (pt_pl T S K G Q y z id x) := by kernel_rfl
section
variable {T S K G Q y z id : Int} (hR : right T S K G Q = true) (h0 : 0 ≤ id) (h1 : id < T) (hy : isW y = true)
theorem pt_good (hR : right T S K G Q = true) : Good T S K G Q (lenOf T S K).toNat (ptZ T S K).ws := by
  have hR' := hR
  simp only [right, decide_eq_true_eq] at hR'
  have hlo : lenOf T S K = 2 + T + 4 * S + K := rfl
  exact ⟨hR, List.length_replicate, by omega, fun w hw => by rw [List.eq_of_mem_replicate hw]; omega⟩
include hR
theorem pt_fin {ph M k : Nat} {X : List Atom} (h : FinZ (pz (ph, M, k) id 0 (uL [T, S, K, G, Q, id, 0, 0, 0]) (X ++ mA T S K G Q (lenOf T S K).toNat (lenOf T S K).toNat (ptS T S K id)))) : (den (qZR T S K G Q id ph M k X)).get = some (.bool true) := by
  obtain ⟨R, hr⟩ := runZ_fin h
  unfold qZR ptR
  rw [hr]
  unfold qZ qYes
  simp only [den, Tree.get_br, Tree.get_leaf, Option.isSome_some, if_true, rowB_load, (pt_good hR).rowB]
theorem pt_ws : (ptS T S K id).ws = lset T S K (List.replicate (lenOf T S K).toNat 0) 3 id 1 := by
  have _h := hR
  unfold ptS
  rw [mstore_ws, mload_ws, show mat T S K (ptZ T S K) 2 0 = 0 from lat_zero]
  rfl
include h0 h1
theorem pd_fin {M : Nat} {X : List Atom} (h4 : Rz4Ok M) (l : List Int) (hX : mcOw M (mcDone M) (uL l) noB (nL []) enW = X) : (den (qZR T S K G Q id 4 M (mcDone M) X)).get = some (.bool true) := by
  refine pt_fin hR ?_
  rw [← hX]
  exact zd_done h0 h1 rfl (pt_good hR) (pt_ws hR) h4 _ _ _ _
include hy
theorem pkey_get {M d : Nat} (f5 : (den (qZR T S K G Q id 4 M d [.i 5])).get = some (.bool true)) (f2 : (den (qZR T S K G Q id 4 M d [.i 2])).get = some (.bool true)) (fe : okT y S = true → (den (qZR T S K G Q id 3 M 0 ([.i z, .i (slX S y)] ++ enX y 1 [2]))).get = some (.bool true)) : (den (qKey T S K G Q y z id M d)).get = some (.bool true) := by
  have _h := hR
  have _h0 := h0
  have _h1 := h1
  unfold qKey
  simp only [den, Tree.get_br, hy, if_true]
  split
  · exact f5
  · split
    · exact f5
    · cases hk : okT y S with
      | false => simpa using f2
      | true => simpa using fe hk
theorem pcall_get {M d : Nat} {D E : List Atom} (f2 : (den (qZR T S K G Q id 4 M d D)).get = some (.bool true)) (fe : okT y S = true → (den (qZR T S K G Q id 3 M 0 E)).get = some (.bool true)) : (den (qCall T S K G Q y id M d D E)).get = some (.bool true) := by
  have _h := hR
  have _h0 := h0
  have _h1 := h1
  unfold qCall
  simp only [den, Tree.get_br, hy, if_true]
  cases hk : okT y S with
  | false => simpa using f2
  | true => simpa using fe hk
end
theorem pl_get (T S K G Q x y z id : Int) (hy : isW y = true) : (den (pt_pl T S K G Q y z id x)).get = some (.bool true) := by
  unfold pt_pl
  simp only [den, Tree.get_br]
  cases hR : right T S K G Q with
  | false => rfl
  | true =>
    have hg := pt_good hR
    have hw := pt_ws (id := id) hR
    simp only [if_true]
    by_cases i0 : id < 0
    · rw [if_pos (decide_eq_true i0)]; rfl
    rw [if_neg (by simpa using i0)]
    by_cases i1 : id ≥ T
    · rw [if_pos (decide_eq_true i1)]; rfl
    rw [if_neg (by simpa using i1)]
    have h0 : 0 ≤ id := by omega
    have h1 : id < T := by omega
    by_cases x0 : x < 1
    · rw [if_pos (decide_eq_true x0), if_pos (decide_eq_true x0)]; rfl
    rw [if_neg (by simpa using x0)]
    by_cases x7 : x > 6
    · rw [if_pos (decide_eq_true x7), if_neg (by simpa using x0), if_pos (by simpa using x7)]; rfl
    rw [if_neg (by simpa using x7)]
    by_cases x1 : x = 1
    · rw [if_pos (by simpa using x1)]
      exact pt_fin hR (zd_op h0 h1 rfl hg hw)
    rw [if_neg (by simpa using x1)]
    by_cases x2 : x = 2
    · rw [if_pos (by simpa using x2)]
      refine pkey_get hR h0 h1 hy (pd_fin hR h0 h1 rz_4_1 [5] ow_d1) (pd_fin hR h0 h1 rz_4_1 [2] ow_d1) fun hk => pt_fin hR ?_
      unfold slX
      rw [hk]
      exact zd_rd h0 h1 rfl hg hw hy hk
    rw [if_neg (by simpa using x2)]
    by_cases x3 : x = 3
    · rw [if_pos (by simpa using x3)]
      refine pkey_get hR h0 h1 hy (pd_fin hR h0 h1 rz_4_2 [5] ow_d2) (pd_fin hR h0 h1 rz_4_2 [2] ow_d2) fun hk => pt_fin hR ?_
      unfold slX
      rw [hk]
      exact zd_wr h0 h1 rfl hg hw hy hk
    rw [if_neg (by simpa using x3)]
    by_cases x4 : x = 4
    · rw [if_pos (by simpa using x4)]
      refine pcall_get hR h0 h1 hy (pd_fin hR h0 h1 rz_4_3 [2, 0, 0] ow_d3) fun hk => pt_fin hR ?_
      unfold slX
      rw [hk]
      exact zd_cm h0 h1 rfl hg hw hy hk
    rw [if_neg (by simpa using x4)]
    by_cases x5 : x = 5
    · rw [if_pos (by simpa using x5)]
      refine pcall_get hR h0 h1 hy (pd_fin hR h0 h1 rz_4_4 [2, 0, 0] ow_d4) fun hk => pt_fin hR ?_
      unfold slX
      rw [hk]
      exact zd_ab h0 h1 rfl hg hw hy hk
    rw [if_neg (by simpa using x5)]
    by_cases x6 : x = 6
    · rw [if_pos (by simpa using x6)]
      refine pcall_get hR h0 h1 hy (pd_fin hR h0 h1 rz_4_5 [2] ow_d5) fun hk => pt_fin hR ?_
      unfold swX slX
      rw [hk]
      exact zd_sw h0 h1 rfl hg hw hy hk
    · omega
end Go.Proofs.YtifojacfedjedaaGreat.Bound
namespace Go.Proofs.YtifojacfedjedaaGreat.Pure
open Go.RowKit Go.Proofs.YtifojacfedjedaaGreat.Ev Go.Proofs.YtifojacfedjedaaGreat.Bound
set_option linter.unusedVariables false
set_option linter.unusedSimpArgs false
theorem walkThreadPins (W : World) (T S K G Q : Int) (wT : (Lit.int .i64 T).wf = true) (wS : (Lit.int .i64 S).wf = true) (wK : (Lit.int .i64 K).wf = true) (wG : (Lit.int .i64 G).wf = true) (wQ : (Lit.int .u64 Q).wf = true) (x y z : Int) (wx : (Lit.int .i64 x).wf = true) (wy : (Lit.int .u64 y).wf = true) (wz : (Lit.int .i64 z).wf = true) (id : Int) (wi : (Lit.int .i64 id).wf = true) :
    Calls Tryz.prog 3 #[.agg #[.int .i64 T, .int .i64 S, .int .i64 K, .int .i64 G, .int .u64 Q], .agg #[.int .i64 x, .int .u64 y, .int .i64 z], .int .i64 id] W fun e W' => e = .returned (.bool true) ∧ Below W.heap.size W W' := by
  have hy : isW y = true := by
    simp [Lit.wf, IntKind.has, IntKind.min, IntKind.max, IntKind.signed, IntKind.bits] at wy
    exact isW_iff.2 (by omega)
  exact calls_plain sumsPl_ok 60 _ _ _ rfl rfl (valT_out (cut_get (ct_pl T S K G Q x y z id) (pl_get T S K G Q x y z id hy))) W
end Go.Proofs.YtifojacfedjedaaGreat.Pure
