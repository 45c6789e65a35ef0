/- The law ThreadSerial: alone, of two transactions, both of which write the same key, the second one to write is told that they clash. No condition. -/
import Derived.Test.YtifojacfedjedaaGreatSrP
namespace Go.Proofs.YtifojacfedjedaaGreat.Bound
open Go.Proofs.YtifojacfedjedaaGreat.Ev Go.Proofs.YtifojacfedjedaaGreat.ChartMath
set_option linter.unusedVariables false
set_option linter.unusedSimpArgs false
noncomputable def sumsSr : Sums := withPure (withDn1 (withStart (withNew sumsTh))) 11 aliveS
theorem sumsSr_ok : SumsOk sumsSr := aliveS_ok (withDn1_ok (withStart_ok (withNew_ok sumsTh_ok)))
def qYes : PT Value := .leaf (.bool true)
def qNo : PT Value := .leaf (.bool false)
def tOf (R : TR) (j : Nat) : Int := nthD 0 [R.t 0, R.t 1, R.t 2, R.t 3, R.t 4, R.t 5, R.t 6, R.t 7, R.t 8] j
def nwS (T S K : Int) : MS := zeroS (List.replicate (lenOf T S K).toNat 0)
section
variable (T S K G Q key : Int)
noncomputable def doN (t : Nat → Int) (x y z : Int) (s : MS) : Option TR := doR T S K G Q (lenOf T S K).toNat t x y z s
noncomputable def qB (R : Option TR) (F : TR → PT Value) : PT Value := .b (decide ((lenOf T S K).toNat = (lenOf T S K).toNat)) (.b R.isSome (F (R.getD dfE)) .bad) .bad
noncomputable def endL (R3 R4 R5 R6 R7 R8 : TR) : PT Value := .cs 3 (.b (bif true then R3.t 6 == 0 else false) (.cs 2 (.b (bif true then R4.t 6 == 8 else false) (.cs 2 (.b (bif true then R5.t 6 == 0 && (R5.t 7 == 0 && (R5.t 8 == 1 && true)) else false) (.cs 2 (.b (bif true then R6.t 8 == 1 else false) (.cs 2 (.b (bif true then R7.t 6 == 0 else false)
  (.cs 2 (.leaf (.bool (bif true then R8.t 6 == 0 && (R8.t 7 == 0 && (R8.t 8 == 2 && true)) else false)))) (.cs 3 qNo))) (.cs 7 qNo))) (.cs 11 qNo))) (.cs 15 qNo))) (.cs 19 qNo))
noncomputable def opsL : PT Value := qB T S K (doN T S K G Q (thT T S K G Q 0) 1 0 0 (nwS T S K)) fun R1 => qB T S K (doN T S K G Q (tOf R1) 1 0 0 R1.s) fun R2 => qB T S K (doN T S K G Q (tOf R2) 3 (R1.t 7) key R2.s) fun R3 => qB T S K (doN T S K G Q (tOf R3) 3 (R2.t 7) key R3.s) fun R4 =>
  qB T S K (doN T S K G Q (tOf R4) 4 (R1.t 7) 0 R4.s) fun R5 => qB T S K (doN T S K G Q (tOf R5) 1 0 0 R5.s) fun R6 => qB T S K (doN T S K G Q (tOf R6) 3 (R6.t 7) key R6.s) fun R7 => qB T S K (doN T S K G Q (tOf R7) 4 (R6.t 7) 0 R7.s) fun R8 => endL R3 R4 R5 R6 R7 R8
noncomputable def pt_sr : PT Value := .b (right T S K G Q) (.cs 6 (.b (decide (key < 0)) (.cs 14 qYes) (.cs 3 (.b (decide (key ≥ K)) (.cs 9 qYes) (.cs 2 (.b (decide (S < 3)) (.cs 5 qYes) (.cs 2 (.b (decide (Q < 2)) (.cs 1 qYes) (opsL T S K G Q key))))))))) (.cs 23 qYes)
end
theorem ct_sr (T S K G Q key : Int) : cutP (pt_sr T S K G Q key) (valT (ev sumsSr 60 5 [.agg #[.int .i64 T, .int .i64 S, .int .i64 K, .int .i64 G, .int .u64 Q], .int .i64 key] ⟨.nil, 0⟩)) = den (pt_sr T S K G Q key) := by kernel_rfl
theorem lat_zero {T S K : Int} {n : Nat} {k o : Int} : lat T S K (List.replicate n 0) k o = 0 := by
  unfold lat
  split
  · rw [List.getD_eq_getElem?_getD, List.getElem?_replicate]
    split <;> rfl
  · rfl
theorem new_good {T S K G Q : Int} (hR : right T S K G Q = true) : Good T S K G Q (lenOf T S K).toNat (nwS T S K).ws := by
  have hR' := hR
  simp only [right, decide_eq_true_eq] at hR'
  have hlo : lenOf T S K = 2 + T + 4 * S + K := rfl
  exact ⟨hR, List.length_replicate, by omega, fun w hw => by rw [List.eq_of_mem_replicate hw]; omega⟩
theorem tOf_t {T S K G Q : Int} {R : TR} (h : ∀ i, i < 6 → R.t i = thT T S K G Q 0 i) : ∀ i, i < 6 → tOf R i = thT T S K G Q 0 i := by
  intro i hi
  rw [← h i hi]
  match i, hi with
  | 0, _ => rfl
  | 1, _ => rfl
  | 2, _ => rfl
  | 3, _ => rfl
  | 4, _ => rfl
  | 5, _ => rfl
def g0 : Int → Int → Int := fun _ _ => 0
theorem okT_lit {h j S : Int} (h1 : slB h = true) (h2 : slI h = j) (h3 : j < S) (h4 : decide (genI h ≤ 1073741823) = true) : okT h S = true := by
  unfold okT
  rw [h1, h2, h4, decide_eq_true h3]
  rfl
theorem qB_get {T S K : Int} {R : TR} {F : TR → PT Value} {v : Option Value} (h : (den (F R)).get = v) : (den (qB T S K (some R) F)).get = v := by
  unfold qB
  simp only [den, Tree.get_br, Option.isSome_some, Option.getD_some, if_true, decide_true]
  exact h
section
variable (T S K G Q key : Int)
def G1 : Int → Int → Int := fUn (fBeg (0 : Nat) (fPin g0))
def G2 : Int → Int → Int := fUn (fBeg (1 : Nat) (fPin G1))
def G3 : Int → Int → Int := fUn (fMk 0 key 4096 (fPin G2))
def G4 : Int → Int → Int := fUn (upd (fBz 1 (fPin (G3 key))) 4 1 (moveI (fBz 1 (fPin (G3 key)) 4 1) 5 false))
def G5 : Int → Int → Int := fUn (fCm 0 (fPin (G4 key)))
def G6 : Int → Int → Int := fUn (fBeg (2 : Nat) (fPin (G5 key)))
def G7 : Int → Int → Int := fUn (fMk 2 key 20480 (fPin (G6 key)))
end
theorem u8 {f : Int → Int → Int} {k o v key : Int} (h : k ≠ 8) : upd f k o v 8 key = f 8 key := upd_ne (.inl (Ne.symm h))
theorem k2 (key : Int) : fPin G2 8 key = 0 := rfl
theorem k3 (key : Int) : fPin (G3 key) 8 key = 4096 := by
  unfold fPin G3 fUn fMk
  rw [u8 (by decide), u8 (by decide), u8 (by decide), upd_same]
theorem k6 (key : Int) : fPin (G6 key) 8 key = 4096 := by
  have e : fPin (G6 key) 8 key = fPin (G3 key) 8 key := rfl
  rw [e, k3]
theorem sr_get (T S K G Q key : Int) : (den (pt_sr T S K G Q key)).get = some (.bool true) := by
  unfold pt_sr
  simp only [den, Tree.get_br]
  cases hR : right T S K G Q with
  | false => rfl
  | true =>
    simp only [if_true]
    by_cases q1 : key < 0
    · rw [if_pos (decide_eq_true q1)]; rfl
    rw [if_neg (by simpa using q1)]
    by_cases q2 : key ≥ K
    · rw [if_pos (decide_eq_true q2)]; rfl
    rw [if_neg (by simpa using q2)]
    by_cases q3 : S < 3
    · rw [if_pos (decide_eq_true q3)]; rfl
    rw [if_neg (by simpa using q3)]
    by_cases q4 : Q < 2
    · rw [if_pos (decide_eq_true q4)]; rfl
    rw [if_neg (by simpa using q4)]
    have hg := new_good hR
    have hz : 0 ≤ key ∧ key < K := by omega
    have hG : 0 ≤ G := by simp only [right, decide_eq_true_eq] at hR; omega
    have y1 : isW 1 = true := rfl
    have y2 : isW 2 = true := rfl
    have y3 : isW 3 = true := rfl
    have o1 : okT 1 S = true := okT_lit (j := 0) rfl rfl (by omega) rfl
    have o2 : okT 2 S = true := okT_lit (j := 1) rfl rfl (by omega) rfl
    have o3 : okT 3 S = true := okT_lit (j := 2) rfl rfl (by omega) rfl
    have r0 : Rep (pmAt T S K G Q 0 0 (lenOf T S K).toNat) (nwS T S K).ws g0 := ⟨hg, fun k o _ => lat_zero⟩
    have n0 : ∀ x : Int, 0 ≤ x → x < ((0 : Nat) : Int) → stI (fPin g0 4 x) ≠ 0 ∨ gnI (fPin g0 4 x) > G := fun x h0 h1 => by omega
    obtain ⟨R1, e1, v1⟩ := do_begin (t := thT T S K G Q 0) (h := 1) (n := 0) (fun _ _ => rfl) r0 (j := 0) (show ((0 : Nat) : Int) < S by omega) (by kernel_rfl) n0 (by kernel_rfl) (show (0 : Int) ≤ G from hG) (by kernel_rfl) (by kernel_rfl)
    have n1 : ∀ x : Int, 0 ≤ x → x < ((1 : Nat) : Int) → stI (fPin G1 4 x) ≠ 0 ∨ gnI (fPin G1 4 x) > G := fun x h0 h1 => by
      obtain rfl : x = 0 := by omega
      exact .inl (by decide)
    obtain ⟨R2, e2, v2⟩ := do_begin (t := tOf R1) (h := 2) (n := 0) (f := G1) (tOf_t v1.t) v1.r (j := 1) (show ((1 : Nat) : Int) < S by omega) (by kernel_rfl) n1 (by kernel_rfl) (show (0 : Int) ≤ G from hG) (by kernel_rfl) (by kernel_rfl)
    obtain ⟨R3, e3, v3⟩ := do_write (t := tOf R2) (f := G2) (tOf_t v2.t) v2.r (j := 0) (w := 0) (w' := 4096) y1 o1 rfl hz (by kernel_rfl) (by kernel_rfl) (by kernel_rfl) (k2 key) (by kernel_rfl) (by kernel_rfl) (by kernel_rfl) (fun x hx => by rw [show othL 0 1 0 = [] by kernel_rfl] at hx; cases hx)
    obtain ⟨R4, e4, v4⟩ := do_clash (t := tOf R3) (f := G3 key) (tOf_t v3.t) v3.r (j := 1) (w := 4096) (x := 0) (lo := []) y2 o2 rfl hz (by kernel_rfl) (by kernel_rfl) (by kernel_rfl) (k3 key) (by kernel_rfl) ⟨by omega, by omega⟩ (by kernel_rfl)
    obtain ⟨R5, e5, v5⟩ := do_commit (t := tOf R4) (f := G4 key) (z := 0) (n := 1) (tOf_t v4.t) v4.r (j := 0) y1 o1 rfl (by kernel_rfl) (by kernel_rfl) (by kernel_rfl) (by kernel_rfl) (by kernel_rfl) (show (0 : Int) < Q by omega) (by kernel_rfl) (by kernel_rfl) (by kernel_rfl)
    have n5 : ∀ x : Int, 0 ≤ x → x < ((2 : Nat) : Int) → stI (fPin (G5 key) 4 x) ≠ 0 ∨ gnI (fPin (G5 key) 4 x) > G := fun x h0 h1 => by
      rcases (show x = 0 ∨ x = 1 by omega) with rfl | rfl
      · exact .inl (by rw [show stI (fPin (G5 key) 4 0) = 4 by kernel_rfl]; decide)
      · exact .inl (by rw [show stI (fPin (G5 key) 4 1) = 5 by kernel_rfl]; decide)
    obtain ⟨R6, e6, v6⟩ := do_begin (t := tOf R5) (h := 3) (n := 1) (f := G5 key) (tOf_t v5.t) v5.r (j := 2) (show ((2 : Nat) : Int) < S by omega) (by kernel_rfl) n5 (by kernel_rfl) (show (0 : Int) ≤ G from hG) (by kernel_rfl) (by kernel_rfl)
    obtain ⟨R7, e7, v7⟩ := do_write (t := tOf R6) (f := G6 key) (tOf_t v6.t) v6.r (j := 2) (w := 4096) (w' := 20480) y3 o3 rfl hz (by kernel_rfl) (by kernel_rfl) (by kernel_rfl) (k6 key) (by kernel_rfl) (by kernel_rfl) (by kernel_rfl) (fun x hx => by
      rw [show othL 4096 1 2 = [0] by kernel_rfl] at hx
      obtain rfl := List.mem_singleton.1 hx
      refine ⟨⟨by omega, by kernel_rfl, ?_, ?_⟩, by omega⟩
      · rw [show fBz 2 (fPin (G6 key)) 6 0 = 1 by kernel_rfl]; decide
      · rw [show fBz 2 (fPin (G6 key)) 6 0 = 1 by kernel_rfl, show fPin (G6 key) 5 2 = 1 by kernel_rfl]; decide)
    obtain ⟨R8, e8, v8⟩ := do_commit (t := tOf R7) (f := G7 key) (z := 0) (n := 2) (tOf_t v7.t) v7.r (j := 2) y3 o3 rfl (by kernel_rfl) (by kernel_rfl) (by kernel_rfl) (by kernel_rfl) (by kernel_rfl) (show (1 : Int) < Q by omega) (by kernel_rfl) (by kernel_rfl) (by kernel_rfl)
    unfold opsL doN
    rw [e1]; refine qB_get ?_
    rw [e2]; refine qB_get ?_
    rw [v1.h, e3]; refine qB_get ?_
    rw [v2.h, e4]; refine qB_get ?_
    rw [e5]; refine qB_get ?_
    rw [e6]; refine qB_get ?_
    rw [v6.h, e7]; refine qB_get ?_
    rw [e8]; refine qB_get ?_
    unfold endL
    simp only [den, Tree.get_br, Tree.get_leaf, v3.e, v4.e, v5.e, v5.h, v5.n, v6.n, v7.e, v8.e, v8.h, v8.n]
    rfl
end Go.Proofs.YtifojacfedjedaaGreat.Bound
namespace Go.Proofs.YtifojacfedjedaaGreat.Pure
open Go.RowKit Go.Proofs.YtifojacfedjedaaGreat.Ev Go.Proofs.YtifojacfedjedaaGreat.Bound
set_option linter.unusedVariables false
set_option linter.unusedSimpArgs false
theorem walkThreadSerial (W : World) (T S K G Q : Int) (wT : (Lit.int .i64 T).wf = true) (wS : (Lit.int .i64 S).wf = true) (wK : (Lit.int .i64 K).wf = true) (wG : (Lit.int .i64 G).wf = true) (wQ : (Lit.int .u64 Q).wf = true) (x : Int) (wx : (Lit.int .i64 x).wf = true) :
    Calls Tryz.prog 5 #[.agg #[.int .i64 T, .int .i64 S, .int .i64 K, .int .i64 G, .int .u64 Q], .int .i64 x] W fun e W' => e = .returned (.bool true) ∧ Below W.heap.size W W' :=
  calls_plain sumsSr_ok 60 _ _ _ rfl rfl (valT_out (cut_get (ct_sr T S K G Q x) (sr_get T S K G Q x))) W
end Go.Proofs.YtifojacfedjedaaGreat.Pure
