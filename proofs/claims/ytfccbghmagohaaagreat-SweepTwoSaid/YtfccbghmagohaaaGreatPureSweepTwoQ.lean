/- The law SweepTwo: two that let go of one transaction at once, however their steps are mixed, let go of it once. No condition. -/
import Derived.Test.YtfccbghmagohaaaGreatSwTk
import Derived.Test.YtfccbghmagohaaaGreatOpenBoolsQ
namespace Go.Proofs.YtfccbghmagohaaaGreat.Bound
open Go.Proofs.YtfccbghmagohaaaGreat.Ev Go.Proofs.YtfccbghmagohaaaGreat.ChartMath
set_option linter.unusedVariables false
set_option linter.unusedSimpArgs false
section
variable (S K G Q : Int)
def rB2 (s : MS) (p : PT Value) : PT Value := .b (rowB 2 S K G Q (lenOf 2 S K).toNat s) p .bad
def ifB2 (b : Bool) (p : PT Value) : PT Value := .b (bif true then b else false) p .bad
def qYes : PT Value := .leaf (.bool true)
def tailW (s : MS) : PT Value := rB2 S K G Q s (.cs 3 (ifB2 (mat 2 S K s 4 0 == newI 0 1) (.cs 2 (rB2 S K G Q (mload 2 S K s 4 0) (.cs 1 (ifB2 (mat 2 S K (mload 2 S K s 4 0) 8 0 == 0) (.cs 2 (rB2 S K G Q (mload 2 S K (mload 2 S K s 4 0) 8 0) (.cs 1 (.leaf (.bool (bif true then mat 2 S K (mload 2 S K (mload 2 S K s 4 0) 8 0) 2 0 == 2 else false))))))))))))
noncomputable def qRest (RA RB : Option ER) : PT Value := .b RA.isSome (.cs 1 (.b RB.isSome (.cs 7 (.b ((RA.getD dfR).e == 0)
  (.cs 2 (.b ((RB.getD dfR).e == 2) (.cs 13 (tailW S K G Q (RB.getD dfR).s)) (.cs 3 (.b (bif true then bif false then true else (RB.getD dfR).e == 3 else false) (.cs 8 (tailW S K G Q (RB.getD dfR).s)) .bad))))
  (.cs 8 (.b ((RB.getD dfR).e == 0) (.cs 2 (.b ((RA.getD dfR).e == 2) (.cs 7 (tailW S K G Q (RB.getD dfR).s)) (.cs 3 (.b (bif true then bif false then true else bif true then bif false then true else (RA.getD dfR).e == 3 else false else false) (.cs 2 (tailW S K G Q (RB.getD dfR).s)) .bad)))) .bad)))) .bad)) .bad
def chainP (R : TR) (f : Nat → Nat → PT Value) : List (Nat × Nat) → PT Value
  | [] => .bad
  | p :: l => .b (decide (R.ka = p.1 ∧ R.kb = p.2)) (f p.1 p.2) (chainP R f l)
def twZ : MS := ⟨List.replicate (lenOf 2 S K).toNat 0, 0, 0, 0, 0, 0, 0, false⟩
def twS1 : MS := mstore 2 S K (twZ S K) 4 0 (newI 5 0)
def twS2 : MS := mstore 2 S K (twS1 S K) 8 0 4097
noncomputable def twRA (R : TR) (ka : Nat) : Option ER := runG 2 S K G Q (lenOf 2 S K).toNat (lenOf 2 S K).toNat (400 - 0 : Int).toNat ka (R.A ka ++ mA 2 S K G Q (lenOf 2 S K).toNat (lenOf 2 S K).toNat R.s)
noncomputable def twRB (R : TR) (ka kb : Nat) : Option ER := runG 2 S K G Q (lenOf 2 S K).toNat (lenOf 2 S K).toNat (400 - 0 : Int).toNat kb (R.B kb ++ mA 2 S K G Q (lenOf 2 S K).toNat (lenOf 2 S K).toNat ((twRA S K G Q R ka).getD dfR).s)
noncomputable def qPairs (R : Option TR) : PT Value := .b R.isSome (chainP (R.getD dfT) (fun ka kb => .cs 1 (qRest S K G Q (twRA S K G Q (R.getD dfT) ka) (twRB S K G Q (R.getD dfT) ka kb))) pairsL) .bad
def noTwo : PT Value := .cs 1 (.b (!okT 1 S) (.cs 1 (.b (!okT 1 S) (.cs 15 qYes) .bad)) (.cs 6 (.b (!okT 1 S) .bad (.cs 20 qYes))))
noncomputable def pt_two (ln : Nat) (R : Option TR) : PT Value := .b (right 2 S K G Q) (.cs 1 (.b (!okT 1 S) .bad (.cs 6 (.b (!okT 1 S) .bad (.cs 14 (.b (decide ((ln : Int) > 200)) (.cs 3 qYes) (.cs 1 (rB2 S K G Q (twZ S K) (rB2 S K G Q (twS1 S K) (qPairs S K G Q R)))))))))) (noTwo S)
noncomputable def twR (ln cn : Nat) (rs : List (List Int)) : Option TR := runTw 2 S K G Q (lenOf 2 S K).toNat (lenOf 2 S K).toNat rs (twX S K G Q ln cn rs (lenOf 2 S K).toNat (if okT 1 S = true then slI 1 else 0) (if okT 1 S = true then genI 1 else 0) (twS2 S K))
noncomputable def twN (th : Int) (s : MS) : Option ER := runL 2 S K G Q (lenOf 2 S K).toNat (lenOf 2 S K).toNat (400 - 0 : Int).toNat (ow0 S K G Q th (if okT 1 S = true then slI 1 else 0) (if okT 1 S = true then genI 1 else 0) ++ mA 2 S K G Q (lenOf 2 S K).toNat (lenOf 2 S K).toNat s)
noncomputable def pt_twn (RA RB : Option ER) : PT Value := .b (right 2 S K G Q) (.cs 1 (.b (!okT 1 S) .bad (.cs 6 (.b (!okT 1 S) .bad (.cs 16 (rB2 S K G Q (twZ S K) (rB2 S K G Q (twS1 S K) (.cs 2 (qRest S K G Q RA RB))))))))) (noTwo S)
end
theorem ct_two (T S K G Q : Int) (rs : List (List Int)) (ln cn : Nat) : cutP (pt_two S K G Q ln (twR S K G Q ln cn rs)) (valT (ev sumsTwL 60 3 [.agg #[.int .i64 T, .int .i64 S, .int .i64 K, .int .i64 G, .int .u64 Q], .slice (some ⟨0, 0, some 4096⟩) ln cn] (winsH [⟨0, 0, 0, .recs [.bool] rs⟩]))) = den (pt_two S K G Q ln (twR S K G Q ln cn rs)) := by kernel_rfl
theorem ct_twn (T S K G Q : Int) : cutP (pt_twn S K G Q (twN S K G Q 0 (twS2 S K)) (twN S K G Q 1 ((twN S K G Q 0 (twS2 S K)).getD dfR).s)) (valT (ev sumsTw 60 3 [.agg #[.int .i64 T, .int .i64 S, .int .i64 K, .int .i64 G, .int .u64 Q], .slice none 0 0] ⟨.nil, 0⟩)) = den (pt_twn S K G Q (twN S K G Q 0 (twS2 S K)) (twN S K G Q 1 ((twN S K G Q 0 (twS2 S K)).getD dfR).s)) := by kernel_rfl
theorem chain_get {R : TR} {f : Nat → Nat → PT Value} : ∀ {l : List (Nat × Nat)}, (R.ka, R.kb) ∈ l → (den (chainP R f l)).get = (den (f R.ka R.kb)).get
  | [], h => by cases h
  | p :: l, h => by
    simp only [chainP, den, Tree.get_br]
    by_cases e : R.ka = p.1 ∧ R.kb = p.2
    · rw [if_pos (decide_eq_true e), e.1, e.2]
    · rw [if_neg (by simpa using e)]
      refine chain_get ?_
      simp only [List.mem_cons] at h
      rcases h with h | h
      · exact absurd ⟨congrArg Prod.fst h, congrArg Prod.snd h⟩ e
      · exact h
theorem rest_get {S K G Q : Int} {R1 R2 : ER} (hg : Good 2 S K G Q (lenOf 2 S K).toNat R2.s.ws) (he : (R1.e = 0 ∧ (R2.e = 2 ∨ R2.e = 3)) ∨ (R2.e = 0 ∧ (R1.e = 2 ∨ R1.e = 3))) (h4 : lat 2 S K R2.s.ws 4 0 = newI 0 1) (h8 : lat 2 S K R2.s.ws 8 0 = 0) (h2 : lat 2 S K R2.s.ws 2 0 = 2) :
    (den (qRest S K G Q (some R1) (some R2))).get = some (.bool true) := by
  have x4 : mat 2 S K R2.s 4 0 = newI 0 1 := h4
  have x8 : mat 2 S K (mload 2 S K R2.s 4 0) 8 0 = 0 := h8
  have x2 : mat 2 S K (mload 2 S K (mload 2 S K R2.s 4 0) 8 0) 2 0 = 2 := h2
  have ht : (den (tailW S K G Q R2.s)).get = some (.bool true) := by
    unfold tailW rB2 ifB2
    simp only [den, Tree.get_br, Tree.get_leaf, hg.rowB, rowB_load, x4, x8, x2, cond_true, beq_self_eq_true, if_true]
  unfold qRest
  simp only [den, Tree.get_br, Option.isSome_some, Option.getD_some, if_true, cond_true, cond_false]
  rcases he with ⟨e1, e2 | e2⟩ | ⟨e2, e1 | e1⟩
  · rw [e1, e2]; exact ht
  · rw [e1, e2]; exact ht
  · rw [e1, e2]; exact ht
  · rw [e1, e2]; exact ht
theorem no_get (S : Int) : (den (noTwo S)).get = some (.bool true) := by
  unfold noTwo qYes
  simp only [den, Tree.get_br]
  cases okT 1 S <;> rfl
theorem ok1 {S K G Q : Int} (hR : right 2 S K G Q = true) : okT 1 S = true := by
  simp only [right, decide_eq_true_eq] at hR
  have : okT 1 S = decide ((0 : Int) < S) := by simp [okT, slB, slI, genI]
  rw [this]; exact decide_eq_true (by omega)
theorem zg {S K G Q : Int} (hR : right 2 S K G Q = true) : Good 2 S K G Q (lenOf 2 S K).toNat (twZ S K).ws ∧ Good 2 S K G Q (lenOf 2 S K).toNat (twS1 S K).ws := by
  have hR' := hR
  simp only [right, decide_eq_true_eq] at hR'
  have hlo : lenOf 2 S K = 2 + 2 + 4 * S + K := rfl
  have gz : Good 2 S K G Q (lenOf 2 S K).toNat (twZ S K).ws := ⟨hR, List.length_replicate, by omega, fun w hw => by rw [List.eq_of_mem_replicate hw]; omega⟩
  exact ⟨gz, gz.lset (newI_word (by omega) (by omega) (by omega) (by omega)) 4 0⟩
theorem two_get (S K G Q : Int) (rs : List (List Int)) (ln cn : Nat) (hl : ln = rs.length) : (den (pt_two S K G Q ln (twR S K G Q ln cn rs))).get = some (.bool true) := by
  unfold pt_two
  simp only [den, Tree.get_br]
  cases hR : right 2 S K G Q with
  | false => exact no_get S
  | true =>
    have hk := ok1 hR
    simp only [if_true, hk, Bool.not_true, Bool.false_eq_true, if_false]
    by_cases h2 : (ln : Int) > 200
    · rw [if_pos (decide_eq_true h2)]; rfl
    rw [if_neg (by simpa using h2)]
    obtain ⟨gz, g1⟩ := zg hR
    obtain ⟨R, r1, r2⟩ := runTw_all hR (s := twS2 S K) rfl rs cn (by omega)
    have hr : twR S K G Q ln cn rs = some R := by
      unfold twR
      rw [hk, hl]
      exact r1
    rw [hr]
    unfold rB2 qPairs
    simp only [den, Tree.get_br, gz.rowB, g1.rowB, if_true, Option.isSome_some, Option.getD_some]
    obtain ⟨hm, R1, R2, q1, q2, q3, q4, q5, q6, q7⟩ := r2
    rw [chain_get hm]
    have e1 : twRA S K G Q R R.ka = some R1 := q1
    have e2 : twRB S K G Q R R.ka R.kb = some R2 := by
      unfold twRB
      rw [e1]
      exact q2
    rw [e1, e2]
    exact rest_get q3 q4 q5 q6 q7
theorem twn_get (S K G Q : Int) : (den (pt_twn S K G Q (twN S K G Q 0 (twS2 S K)) (twN S K G Q 1 ((twN S K G Q 0 (twS2 S K)).getD dfR).s))).get = some (.bool true) := by
  unfold pt_twn
  simp only [den, Tree.get_br]
  cases hR : right 2 S K G Q with
  | false => exact no_get S
  | true =>
    have hk := ok1 hR
    simp only [if_true, hk, Bool.not_true, Bool.false_eq_true, if_false]
    obtain ⟨gz, g1⟩ := zg hR
    obtain ⟨ea, eb, w1, w2, h1, h2, h3, h4⟩ := two_both hR (s := twS2 S K) rfl (two_jj hR rfl)
    obtain ⟨R1, r1, r2, r3⟩ := runL_ends2 h1
    obtain ⟨R2, q1, q2, q3⟩ := runL_ends2 (h2 R1.s r3)
    have e1 : twN S K G Q 0 (twS2 S K) = some R1 := by
      unfold twN
      rw [hk]
      exact r1
    have e2 : twN S K G Q 1 R1.s = some R2 := by
      unfold twN
      rw [hk]
      exact q1
    rw [e1]
    simp only [Option.getD_some]
    rw [e2]
    unfold rB2
    simp only [den, Tree.get_br, gz.rowB, g1.rowB, if_true]
    obtain ⟨k1, k2, k3, k4⟩ := h4
    rw [← q3] at k1 k2 k3 k4
    exact rest_get k1 (by rw [r2, q2]; exact h3) k2 k3 k4
end Go.Proofs.YtfccbghmagohaaaGreat.Bound
namespace Go.Proofs.YtfccbghmagohaaaGreat.Pure
open Go.RowKit Go.Proofs.YtfccbghmagohaaaGreat.Ev Go.Proofs.YtfccbghmagohaaaGreat.Bound
set_option linter.unusedVariables false
set_option linter.unusedSimpArgs false
theorem seen_bools {W : World} {b off room : Nat} {rs : List (List Int)} {len : Nat} {cs : Array Value} {t : TypeId} {fr : Nat × Nat} (hb : W.heap[b]? = some (.cells cs t fr)) (hl : rs.length = len)
    (hr : ∀ j, j < len → ∃ x : Bool, rs[j]? = some [if x = true then 1 else 0] ∧ cs[off + j]? = some (.bool x)) : Seen W ⟨b, room, off, .recs [.bool] rs⟩ := by
  refine ⟨plainL_recs _, rfl, cs, t, fr, hb, fun j v hv => ?_⟩
  have flat : ∀ (rs : List (List Int)) (j : Nat) v, (rs.flatMap (encR [.bool] 0))[j]? = some v → ∃ r, rs[j]? = some r ∧ v = .bool (decide (r.getD 0 0 = 1)) := by
    intro rs
    induction rs with
    | nil => intro j v h; simp at h
    | cons r rs ih =>
      intro j v h
      have e : ((r :: rs).flatMap (encR [.bool] 0)) = .bool (decide (r.getD 0 0 = 1)) :: rs.flatMap (encR [.bool] 0) := rfl
      rw [e] at h
      cases j with
      | zero => simp only [List.getElem?_cons_zero, Option.some.injEq] at h; exact ⟨r, rfl, h.symm⟩
      | succ j =>
        rw [List.getElem?_cons_succ] at h
        obtain ⟨r', h1, h2⟩ := ih j v h
        exact ⟨r', by simpa using h1, h2⟩
  obtain ⟨r, h1, h2⟩ := flat rs j v hv
  obtain ⟨x, q1, q2⟩ := hr j (by have := (List.getElem?_eq_some_iff.1 h1).1; omega)
  rw [h1] at q1
  cases q1
  rw [q2, h2]
  cases x <;> rfl
theorem walkSweepTwo (W : World) (T S K G Q : Int) (wT : (Lit.int .i64 T).wf = true) (wS : (Lit.int .i64 S).wf = true) (wK : (Lit.int .i64 K).wf = true) (wG : (Lit.int .i64 G).wf = true) (wQ : (Lit.int .u64 Q).wf = true) (A : Option Addr) (n c : Nat) (rs : List (List Int)) (h : Open.IsBools W A n c rs) :
    Calls Tryz.prog 3 #[.agg #[.int .i64 T, .int .i64 S, .int .i64 K, .int .i64 G, .int .u64 Q], .slice A n c] W fun e W' => e = .returned (.bool true) ∧ Below W.heap.size W W' := by
  rcases h with ⟨rfl, rfl, rfl, rfl⟩ | ⟨b, off, cs, t, fr, rfl, h1, hb, hl, hr⟩
  · exact calls_plain sumsTw_ok 60 _ _ _ rfl rfl (valT_out (cut_get (ct_twn T S K G Q) (twn_get S K G Q))) W
  · have := calls_wins sumsTwL_ok 60 3 [⟨b, c - n, off, .recs [.bool] rs⟩] [.agg #[.int .i64 T, .int .i64 S, .int .i64 K, .int .i64 G, .int .u64 Q], .slice (some ⟨0, 0, some 4096⟩) n n] (.bool true) W (fun w hw => by
      simp at hw; subst hw; exact seen_bools hb hl hr) (by simp [scL, sc, scA]) rfl (valT_out (cut_get (ct_two T S K G Q rs n n) (two_get S K G Q rs n n hl.symm)))
    have e : (⟨concL (winV [⟨b, c - n, off, .recs [.bool] rs⟩]) [.agg #[.int .i64 T, .int .i64 S, .int .i64 K, .int .i64 G, .int .u64 Q], .slice (some ⟨0, 0, some 4096⟩) n n]⟩ : Array Value) = #[.agg #[.int .i64 T, .int .i64 S, .int .i64 K, .int .i64 G, .int .u64 Q], .slice (some ⟨b, off, none⟩) n c] := by
      simp [concL, conc, concA, winV, caddr, ccap, exact_, show Nat.ble 1048576 4096 = false from rfl]
      omega
    rw [e] at this
    exact this
end Go.Proofs.YtfccbghmagohaaaGreat.Pure
