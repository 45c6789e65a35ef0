/- A new thread, and its start, as sums. No condition. A thread alone: what an operation comes to. Conditions stand in the statements. A thread alone: what an operation comes to, by the words. Conditions stand in the statements. A thread alone: starts that are done at once. Conditions stand in the statements. -/
import Derived.Test.YtifojacfedjedaaGreatThX
import Derived.Test.YtifojacfedjedaaGreatThAliveQ
section
namespace Go.Proofs.YtifojacfedjedaaGreat.Bound
open Go.Proofs.YtifojacfedjedaaGreat.Ev Go.Proofs.YtifojacfedjedaaGreat.ChartMath
set_option linter.unusedVariables false
set_option linter.unusedSimpArgs false
def starts : List (Nat × Nat) := [(0,0),(1,0),(2,0),(3,0),(4,0),(5,0),(1,9),(2,11),(3,15),(4,3),(5,20)]
def stOut (q : Nat × Nat × Nat) : SPat := ⟨[(0, .bool)], 1, thB q.1 q.2.1 q.2.2 0 1, 1 + thLen q.1 q.2.1 q.2.2, [0]⟩
def StartF : FForm := ⟨[.ptr 0 0 none, .agg [i6, u6, i6]], thB 0 0 0 0 1, stOut (0, 0, 0) :: starts.map fun q => stOut (1, q.1, q.2)⟩
def TNewF : FForm := ⟨[.agg [i6, i6, i6, i6, u6], i6], [], [⟨[(0, .ptr 0 0 none)], 1, thB 0 0 0 0 1, 1, []⟩]⟩
def tnew_o : List Atom → Tree (Nat × List Atom)
  | [.i T, .i S, .i K, .i G, .i Q, .i id] => .leaf (0, [.i T, .i S, .i K, .i G, .i Q, .i id, .i 0, .i 0, .i 0])
  | _ => .bad
theorem ct_tnew (T S K G Q id : Int) : (endF (ev sumsTh 60 10) TNewF [.i T, .i S, .i K, .i G, .i Q, .i id]).get = some (0, [.i T, .i S, .i K, .i G, .i Q, .i id, .i 0, .i 0, .i 0]) := by kernel_rfl
theorem tnew_st (x : List Atom) (r : Nat × List Atom) (h : (tnew_o x).get = some r) : (endF (ev sumsTh 60 10) TNewF x).get = some r := by
  unfold tnew_o at h
  split at h
  · rw [ct_tnew]; exact h
  · cases h
def stSl (S y : Int) : Int := if okT y S = true then slI y else 0
def stGn (S y : Int) : Int := if okT y S = true then genI y else 0
def stEn (y : Int) (n : Nat) (w : List Int) : List Atom := [.i (slI y), .i 0, .i y, .n n, .n n, .b false, .b false, .i 0, .i 0, .ws w]
section
variable {α : Type} (L : Nat → Nat → List Atom → PT α) (no : PT α) (T S K G Q id y z : Int)
def ptKey (M d : Nat) : PT α := .b (isW y) (.b (decide (z < 0)) (.cs 5 (L M d [.i 5])) (.cs 3 (.b (decide (z ≥ K)) (L M d [.i 5]) (.b (!okT y S) (L M d [.i 2]) (.cs 4 (.b (isW y) (L M 0 ([.i z, .i (stSl S y)] ++ stEn y 1 [2])) .bad)))))) .bad
def ptCall (M d : Nat) (D E : List Atom) : PT α := .b (isW y) (.b (!okT y S) (L M d D) (.cs 4 (.b (isW y) (L M 0 E) .bad))) .bad
/-- A start, by its kind. -/
def ptStart (x : Int) : PT α := .cs 3 (.b (decide (x < 1)) (.cs 4 no) (.cs 2 (.b (decide (x > 6)) no (.b (x == 1) (L 0 0 [.i 0, .i 0, .i 0, .i 0, .i 0])
  (.b (x == 2) (ptKey L S K y z 1 9) (.b (x == 3) (ptKey L S K y z 2 11) (.b (x == 4) (ptCall L S y 3 15 [.i 2, .i 0, .i 0] ([.i (stSl S y)] ++ stEn y 1 [2])) (.b (x == 5) (ptCall L S y 4 3 [.i 2, .i 0, .i 0] ([.i (stSl S y)] ++ stEn y 1 [2]))
  (.b (x == 6) (ptCall L S y 5 20 [.i 2] ([.i T, .i S, .i K, .i G, .i Q, .i id, .i (stSl S y), .i (stGn S y), .b false, .i 0] ++ stEn y 4 [4, 5, 6, 7])) .bad)))))))))
end
/-- Which start it is. -/
def stAt (M k : Nat) : Nat := cond (Nat.beq k 0) (M + 1) (M + 6)
def stLf (t : Nat → Int) (M k : Nat) (X : List Atom) : PT (Nat × List Atom) := .leaf (stAt M k, .b true :: stX t (t 5) 0 X)
def stNo (t : Nat → Int) : PT (Nat × List Atom) := .leaf (0, .b false :: thA t)
theorem ct_st (t : Nat → Int) (x y z : Int) : cutP (ptStart (stLf t) (stNo t) (t 0) (t 1) (t 2) (t 3) (t 4) (t 5) y z x) (endF (ev sumsTh 60 12) StartF ([.i x, .i y, .i z] ++ thA t)) = den (ptStart (stLf t) (stNo t) (t 0) (t 1) (t 2) (t 3) (t 4) (t 5) y z x) := by kernel_rfl
def start_o : List Atom → Tree (Nat × List Atom)
  | .i x :: .i y :: .i z :: l => match l with
    | [.i a0, .i a1, .i a2, .i a3, .i a4, .i a5, .i a6, .i a7, .i a8] => den (ptStart (stLf fun j => nthD 0 [a0, a1, a2, a3, a4, a5, a6, a7, a8] j) (stNo fun j => nthD 0 [a0, a1, a2, a3, a4, a5, a6, a7, a8] j) a0 a1 a2 a3 a4 a5 y z x)
    | _ => .bad
  | _ => .bad
theorem start_st (x : List Atom) (r : Nat × List Atom) (h : (start_o x).get = some r) : (endF (ev sumsTh 60 12) StartF x).get = some r := by
  unfold start_o at h
  split at h
  · split at h
    · rename_i a0 a1 a2 a3 a4 a5 a6 a7 a8
      exact cut_get (ct_st (fun j => nthD 0 [a0, a1, a2, a3, a4, a5, a6, a7, a8] j) _ _ _) h
    · cases h
  · cases h
/-- A thread that is made, and is started. -/
noncomputable def withStart (sums : Sums) : Sums := withT (withT sums 10 [(TNewF, tnew_o)]) 12 [(StartF, start_o)]
theorem withStart_ok {sums : Sums} (h : SumsOk sums) : SumsOk (withStart sums) := withT_ok (withT_ok h sumsTh_ok 60 (by kernel_rfl) (fun a ha => by
  simp only [List.mem_cons, List.not_mem_nil, or_false] at ha
  subst ha
  exact tnew_st)) sumsTh_ok 60 (by kernel_rfl) fun a ha => by
  simp only [List.mem_cons, List.not_mem_nil, or_false] at ha
  subst ha
  exact start_st
end Go.Proofs.YtifojacfedjedaaGreat.Bound
end

section
namespace Go.Proofs.YtifojacfedjedaaGreat.Bound
open Go.Proofs.YtifojacfedjedaaGreat.Ev Go.Proofs.YtifojacfedjedaaGreat.ChartMath
set_option linter.unusedVariables false
set_option linter.unusedSimpArgs false
/-- The loop's forms, by the start. -/
def clM (M k : Nat) : Nat := cond (Nat.beq k 0) (nthD 3 [4, 5, 5, 7, 8, 5] M) 3
def clQ (M k : Nat) : List (Nat × Nat × Nat) := cond (Nat.beq k 0) (nthD QE [QA, QB, QB, QC, QD, QB] M) QE
noncomputable def stRun (most T S K G Q : Int) (l : Nat) (t : Nat → Int) (M k : Nat) (X : List Atom) (s : MS) : Option TR := runE (clM M k) (clQ M k) T S K G Q l l (hd1 (clQ M k) M k most (stX t (t 5) 0 (X ++ mA T S K G Q l l s)))
/-- The pin. -/
def pinS (T S K o : Int) (s : MS) : MS := mstore T S K (mload T S K s 2 0) 3 o (IntKind.u64.wrap (mat T S K s 2 0 + 1))
structure Cls (m : Nat) (Q : List (Nat × Nat × Nat)) (M : Nat) : Prop where
  R : Rounds m Q
  m : clM M 0 = m
  q : clQ M 0 = Q
  h00 : inQ Q (0, 0, 0) = true
  i1 : inQ Q (1, M, 0) = true
  i2 : inQ Q (2, M, 0) = true
  hQ : ∀ j, j ≤ mcDone M → inQ Q (nxQ M j) = true
theorem hQ_all {Q : List (Nat × Nat × Nat)} {M : Nat} (h : ((List.range (mcDone M + 1)).all fun j => inQ Q (nxQ M j)) = true) : ∀ j, j ≤ mcDone M → inQ Q (nxQ M j) = true := fun j hj => List.all_eq_true.1 h j (List.mem_range.2 (by omega))
theorem cls_0 : Cls 4 QA 0 := ⟨roundsA, rfl, rfl, rfl, rfl, rfl, hQ_all (by kernel_rfl)⟩
theorem cls_1 : Cls 5 QB 1 := ⟨roundsB, rfl, rfl, rfl, rfl, rfl, hQ_all (by kernel_rfl)⟩
theorem cls_2 : Cls 5 QB 2 := ⟨roundsB, rfl, rfl, rfl, rfl, rfl, hQ_all (by kernel_rfl)⟩
theorem cls_5 : Cls 5 QB 5 := ⟨roundsB, rfl, rfl, rfl, rfl, rfl, hQ_all (by kernel_rfl)⟩
theorem cls_3 : Cls 7 QC 3 := ⟨roundsC, rfl, rfl, rfl, rfl, rfl, hQ_all (by kernel_rfl)⟩
theorem cls_4 : Cls 8 QD 4 := ⟨roundsD, rfl, rfl, rfl, rfl, rfl, hQ_all (by kernel_rfl)⟩
theorem iter_nx {f : List Atom → Tree (Ex × List Atom)} {j : Nat} {x y : List Atom} {r : Ex × List Atom} (h : (f x).get = some (.normal, y)) (h2 : iterR f j y = some r) : iterR f (j + 1) x = some r := by
  simp only [iterR, h]
  exact h2
theorem iter_end {f : List Atom → Tree (Ex × List Atom)} {j : Nat} {x : List Atom} {r : Ex × List Atom} (h : (f x).get = some r) (hr : r.1 ≠ .normal) : iterR f (j + 1) x = some r := by
  obtain ⟨e, y⟩ := r
  simp only [iterR, h]
  cases e <;> first | rfl | exact absurd rfl hr
section
variable {m M : Nat} {Q : List (Nat × Nat × Nat)} {most T S K G Qq : Int} {l : Nat} {t : Nat → Int} {s s3 : MS} {X Y : List Atom} {n : Nat}
theorem st_run (C : Cls m Q M) (hX : tagsOf X = some (tgM M 0)) (hg : Good T S K G Qq l s.ws) (hr : MRun M n (0, X ++ mA T S K G Qq l l (pinS T S K (t 5) s)) (Y ++ mA T S K G Qq l l s3)) (hg3 : Good T S K G Qq l s3.ws)
    {u' : Nat → Int} (hY : ∀ bo na wl, mcOw M (mcDone M) u' bo na wl = Y) (hn : (n : Int) + 3 < most) (h999 : most ≤ 999) :
    ∃ R, stRun most T S K G Qq l t M 0 X s = some R ∧ R.n = (n : Int) + 3 ∧ R.s.ws = lset T S K s3.ws 3 (t 5) 0 ∧ ∀ i, i < 9 → R.t i = t4 t M u' i := by
  obtain ⟨u, bo, na, wl, e⟩ := atomsT_all hX 0 0 0 0
  have e : X = mcOw M 0 u bo na wl := e
  obtain ⟨j, hj⟩ := run1 (most := most) (t := t) (pp := t 5) (e := 0) (u := u) (u' := u') (bo := bo) (na := na) (wl := wl) (bo' := bo) (na' := na) (wl' := wl) (c := l) C.R C.h00 C.i1 C.i2 C.hQ h999 hn hg rfl (by rw [← e, hY]; exact hr) hg3
  obtain ⟨R, r1, r2, r3, r4⟩ := runE_is hj
  refine ⟨R, ?_, r2, by rw [r3]; rfl, r4⟩
  unfold stRun
  rw [C.m, C.q, e]
  exact r1
/-- A start whose machine is done at once. -/
theorem st_done (i1 : inQ QE (1, M, mcDone M) = true) (i2 : inQ QE (2, M, mcDone M) = true) (i4 : inQ QE (4, M, mcDone M) = true) (hm : clM M (mcDone M) = 3) (hq : clQ M (mcDone M) = QE) (hg : Good T S K G Qq l s.ws)
    {u' : Nat → Int} (hY : ∀ bo na wl, mcOw M (mcDone M) u' bo na wl = X) (hn : (3 : Int) < most) (h999 : most ≤ 999) :
    ∃ R, stRun most T S K G Qq l t M (mcDone M) X s = some R ∧ R.n = 3 ∧ R.s.ws = lset T S K (pinS T S K (t 5) s).ws 3 (t 5) 0 ∧ ∀ i, i < 9 → R.t i = t4 t M u' i := by
  have h00 : inQ QE (0, 0, 0) = true := rfl
  have nx : nxQ M (mcDone M) = (4, M, mcDone M) := nx_done M
  have e1 : hd1 QE M (mcDone M) most (stX t (t 5) 0 (X ++ mA T S K G Qq l l s)) = hdQ QE (1, M, mcDone M) most most 0 t (pinA (t 5) 0 ++ (X ++ mA T S K G Qq l l s)) := rfl
  have hp : Good T S K G Qq l (pinS T S K (t 5) s).ws := hg.lset (u64_range _) _ _
  have key : ∃ j, iterR (rdQ 3 QE) j (hd1 QE M (mcDone M) most (stX t (t 5) 0 (X ++ mA T S K G Qq l l s))) = some (.ret, .n 0 :: .i 3 :: (thA (t4 t M u') ++ mA T S K G Qq l l (mstore T S K (pinS T S K (t 5) s) 3 (t 5) 0))) := by
    refine ⟨4, ?_⟩
    rw [e1, ← hY (fun _ => false) (fun _ => 0) (fun _ => [])]
    have hr2 : rowB T S K G Qq l (mload T S K s 2 0) = true := Good.rowB (s := mload T S K s 2 0) hg
    have hr3 : rowB T S K G Qq l (pinS T S K (t 5) s) = true := hp.rowB
    refine iter_nx (y := hdQ QE (2, M, mcDone M) most most (0 + 1) t (pinA (t 5) (mat T S K s 2 0) ++ (mcOw M (mcDone M) u' (fun _ => false) (fun _ => 0) (fun _ => []) ++ mA T S K G Qq l l (mload T S K s 2 0)))) ?_ ?_
    · rw [roundsE.r1 M _ i1]
      rw [Tree.get_br, if_pos (decide_eq_true (show (0 : Int) < most by omega)), Tree.get_br, if_pos hg.rowB]
      exact goQ_get i2 (by omega) (by omega)
    refine iter_nx (y := hdQ QE (4, M, mcDone M) most most (0 + 1 + 1) t (mcOw M (mcDone M) u' (fun _ => false) (fun _ => 0) (fun _ => []) ++ mA T S K G Qq l l (pinS T S K (t 5) s))) ?_ ?_
    · rw [roundsE.r2 M _ i2]
      rw [Tree.get_br, if_pos (decide_eq_true (show (0 : Int) + 1 < most by omega)), Tree.get_br, if_pos hr2, nx]
      exact goQ_get i4 (by omega) (by omega)
    refine iter_nx (y := hdQ QE (0, 0, 0) most most (0 + 1 + 1 + 1) (t4 t M u') (mA T S K G Qq l l (mstore T S K (pinS T S K (t 5) s) 3 (t 5) 0))) ?_ ?_
    · rw [roundsE.r4 M i4]
      rw [Tree.get_br, if_pos (decide_eq_true (show (0 : Int) + 1 + 1 < most by omega)), Tree.get_br, if_pos hr3]
      exact goQ_get h00 (by omega) (by omega)
    refine iter_end ?_ (by simp)
    rw [roundsE.r0]
    rw [Tree.get_br, if_pos (decide_eq_true (show (0 : Int) + 1 + 1 + 1 < most by omega)), Tree.get_leaf]
    rfl
  obtain ⟨j, hj⟩ := key
  obtain ⟨R, r1, r2, r3, r4⟩ := runE_is hj
  refine ⟨R, ?_, r2, by rw [r3]; rfl, r4⟩
  unfold stRun
  rw [hm, hq]
  exact r1
end
end Go.Proofs.YtifojacfedjedaaGreat.Bound
end

section
namespace Go.Proofs.YtifojacfedjedaaGreat.Bound
open Go.Proofs.YtifojacfedjedaaGreat.Ev Go.Proofs.YtifojacfedjedaaGreat.ChartMath
set_option linter.unusedVariables false
set_option linter.unusedSimpArgs false
theorem okT_sl {h s : Int} (ho : okT h s = true) : 0 ≤ slI h ∧ slI h ≤ 11 ∧ slI h < s ∧ slI h = h % 16 - 1 := by
  simp only [okT, Bool.and_eq_true, decide_eq_true_eq] at ho
  obtain ⟨⟨a, b⟩, c⟩ := ho
  have a' := a
  simp only [slB, decide_eq_true_eq] at a'
  have e : slI h = h % 16 - 1 := by unfold slI; rw [if_pos a]
  omega
theorem okT_gen {h s : Int} (h0 : 0 ≤ h) (ho : okT h s = true) : 0 ≤ genI h ∧ genI h ≤ 1073741823 := by
  simp only [okT, Bool.and_eq_true, decide_eq_true_eq] at ho
  refine ⟨?_, ho.2⟩
  unfold genI
  split <;> omega
/-- What a run comes to. -/
def Came (p : Pm) (t : Nat → Int) (e h n : Int) (ws' : List Int) (R : TR) : Prop := R.t 6 = e ∧ R.t 7 = h ∧ R.t 8 = n ∧ (∀ i, i < 6 → R.t i = t i) ∧ R.s.ws = p.set ws' 3 (t 5) 0 ∧ p.good ws'
section
variable {m M : Nat} {Q : List (Nat × Nat × Nat)} {most : Int} {p : Pm} {a : Ar} {t : Nat → Int} {s : MS} {X : List Atom}
theorem came_of {u : Nat → Int} {e h n : Int} {ws' : List Int} {R : TR} (h0 : tell M u 0 = e) (h1 : tell M u 1 = h) (h2 : tell M u 2 = n) (hw : R.s.ws = p.set ws' 3 (t 5) 0) (hg : p.good ws') (ht : ∀ i, i < 9 → R.t i = t4 t M u i) : Came p t e h n ws' R := by
  refine ⟨(ht 6 (by omega)).trans h0, (ht 7 (by omega)).trans h1, (ht 8 (by omega)).trans h2, fun i hi => ?_, hw, hg⟩
  rw [ht i (by omega)]
  match i, hi with
  | 0, _ => rfl
  | 1, _ => rfl
  | 2, _ => rfl
  | 3, _ => rfl
  | 4, _ => rfl
  | 5, _ => rfl
theorem st_loc {f : Nat → List Atom → Tree (Nat × List Atom)} {At : Loc → Nat → List Atom → Prop} (C : Cls m Q M) (hA : AtOk p a M f At) (hcl : p.c = p.l) (ha : 0 ≤ a.sl ∧ a.sl < p.S) (hk : a.kd = 0 ∨ a.kd = 1)
    (hsim : ∀ x k X s, p.good s.ws → VL p a x → At x k X → k ≠ mcDone M → Sim p f At k X s (locS p a s.ws x)) (hY : ∀ e h n Y, At (.done e h n) (mcDone M) Y → ∃ u, (∀ bo na wl, mcOw M (mcDone M) u bo na wl = Y) ∧ tell M u 0 = e ∧ tell M u 1 = h ∧ tell M u 2 = n)
    {x : Loc} (hg : p.good s.ws) (hv : VL p a x) (hat : At x 0 X) {b : Nat} {Qp : Int → Int → Int → List Int → Prop} (hE : EndsL p a b x (pinS p.T p.S p.K (t 5) s).ws Qp) (hb : (b : Int) + 3 < most) (h999 : most ≤ 999) :
    ∃ R e h n ws', stRun most p.T p.S p.K p.G p.Q p.l t M 0 X s = some R ∧ Came p t e h n ws' R ∧ Qp e h n ws' := by
  obtain ⟨j, e, h, n, ws', hj, hit, hg', hq⟩ := hE
  have hp : p.good (pinS p.T p.S p.K (t 5) s).ws := hg.lset (u64_range _) _ _
  obtain ⟨i, Y, s', hi, hr, hYat, hws⟩ := mrun_of hA ha hk hsim j x 0 X _ e h n ws' hp hv hat hit
  obtain ⟨u, hu, t0, t1, t2⟩ := hY _ _ _ _ hYat
  have hr' : MRun M i (0, X ++ mA p.T p.S p.K p.G p.Q p.l p.l (pinS p.T p.S p.K (t 5) s)) (Y ++ mA p.T p.S p.K p.G p.Q p.l p.l s') := by
    have e1 : ∀ s, p.mem s = mA p.T p.S p.K p.G p.Q p.l p.l s := fun s => by show mA p.T p.S p.K p.G p.Q p.l p.c s = _; rw [hcl]
    rw [← e1, ← e1]
    exact hr
  obtain ⟨R, r1, r2, r3, r4⟩ := st_run (most := most) C (hA.tag _ _ _ hv hat) hg hr' (by rw [hws]; exact hg') hu (by omega) h999
  exact ⟨R, e, h, n, ws', r1, came_of t0 t1 t2 (by rw [r3, hws]) hg' r4, hq⟩
end
/-- What an operation is about. -/
def arOf (M : Nat) (y z : Int) : Ar := ⟨M, z, slI y, y, cond (Nat.beq M 2) 1 0⟩
def pmAt (T S K G Q th y : Int) (l : Nat) : Pm := ⟨T, S, K, G, Q, th, slI y, genI y, l, l⟩
section
variable {most T S K G Q th y z : Int} {l : Nat} {t : Nat → Int} {s : MS}
theorem arOf_ok {M : Nat} (hy : isW y = true) (hk : okT y S = true) : Ar.Ok (pmAt T S K G Q th y l) (arOf M y z) := by
  obtain ⟨a, b, c, d⟩ := okT_sl hk
  refine ⟨hy, hk, a, c, ?_⟩
  unfold arOf
  cases Nat.beq M 2
  · exact .inl rfl
  · exact .inr rfl
theorem yi1 (e h n : Int) (Y : List Atom) (a : Ar) (hh : At1 a (.done e h n) (mcDone 1) Y) : ∃ u, (∀ bo na wl, mcOw 1 (mcDone 1) u bo na wl = Y) ∧ tell 1 u 0 = e ∧ tell 1 u 1 = h ∧ tell 1 u 2 = n := by
  obtain ⟨_, rfl, rfl, rfl⟩ := hh
  exact ⟨fun _ => e, fun _ _ _ => rfl, rfl, rfl, rfl⟩
theorem yi2 (e h n : Int) (Y : List Atom) (a : Ar) (hh : At2 a (.done e h n) (mcDone 2) Y) : ∃ u, (∀ bo na wl, mcOw 2 (mcDone 2) u bo na wl = Y) ∧ tell 2 u 0 = e ∧ tell 2 u 1 = h ∧ tell 2 u 2 = n := by
  obtain ⟨_, rfl, rfl, rfl⟩ := hh
  exact ⟨fun _ => e, fun _ _ _ => rfl, rfl, rfl, rfl⟩
theorem yi0 (e h n : Int) (Y : List Atom) (hh : At0 (.done e h n) (mcDone 0) Y) : ∃ u, (∀ bo na wl, mcOw 0 (mcDone 0) u bo na wl = Y) ∧ tell 0 u 0 = e ∧ tell 0 u 1 = h ∧ tell 0 u 2 = n := by
  obtain ⟨_, rfl⟩ := hh
  exact ⟨fun j => nthD 0 [e, h, n] j, fun _ _ _ => rfl, rfl, rfl, rfl⟩
theorem yi3 (e h n : Int) (Y : List Atom) (a : Ar) (hh : At3 a (.done e h n) (mcDone 3) Y) : ∃ u, (∀ bo na wl, mcOw 3 (mcDone 3) u bo na wl = Y) ∧ tell 3 u 0 = e ∧ tell 3 u 1 = h ∧ tell 3 u 2 = n := by
  obtain ⟨_, rfl⟩ := hh
  exact ⟨fun j => nthD 0 [e, h, n] j, fun _ _ _ => rfl, rfl, rfl, rfl⟩
theorem yi4 (e h n : Int) (Y : List Atom) (a : Ar) (hh : At4 a (.done e h n) (mcDone 4) Y) : ∃ u, (∀ bo na wl, mcOw 4 (mcDone 4) u bo na wl = Y) ∧ tell 4 u 0 = e ∧ tell 4 u 1 = h ∧ tell 4 u 2 = n := by
  obtain ⟨_, rfl⟩ := hh
  exact ⟨fun j => nthD 0 [e, h, n] j, fun _ _ _ => rfl, rfl, rfl, rfl⟩
/-- The pin's words. -/
def pinW (T S K o : Int) (ws : List Int) : List Int := lset T S K ws 3 o (IntKind.u64.wrap (lat T S K ws 2 0 + 1))
theorem pinS_ws {o : Int} : (pinS T S K o s).ws = pinW T S K o s.ws := rfl
variable {b : Nat} {Qp : Int → Int → Int → List Int → Prop} (hg : Good T S K G Q l s.ws) (hb : (b : Int) + 3 < most) (h999 : most ≤ 999)
include hg hb h999
theorem op_en1 (hy : isW y = true) (hk : okT y S = true) (hE : EndsL (pmAt T S K G Q th y l) (arOf 1 y z) b (.en false 0) (pinW T S K (t 5) s.ws) Qp) :
    ∃ R e h n ws', stRun most T S K G Q l t 1 0 ([.i z, .i (slI y)] ++ stEn y 1 [2]) s = some R ∧ Came (pmAt T S K G Q th y l) t e h n ws' R ∧ Qp e h n ws' := by
  have ok : Ar.Ok (pmAt T S K G Q th y l) (arOf 1 y z) := arOf_ok hy hk
  exact st_loc (p := pmAt T S K G Q th y l) (a := arOf 1 y z) cls_1 (at1_ok _ _) rfl ⟨ok.s0, ok.s1⟩ ok.kd (fun x k X s g hv hat hd => sim1 g ok rfl rfl hv hat hd) (fun e h n Y => yi1 e h n Y _) (x := .en false 0) hg rfl ⟨rfl, 1, 0, rfl⟩ hE hb h999
theorem op_en2 (hy : isW y = true) (hk : okT y S = true) (hE : EndsL (pmAt T S K G Q th y l) (arOf 2 y z) b (.en false 0) (pinW T S K (t 5) s.ws) Qp) :
    ∃ R e h n ws', stRun most T S K G Q l t 2 0 ([.i z, .i (slI y)] ++ stEn y 1 [2]) s = some R ∧ Came (pmAt T S K G Q th y l) t e h n ws' R ∧ Qp e h n ws' := by
  have ok : Ar.Ok (pmAt T S K G Q th y l) (arOf 2 y z) := arOf_ok hy hk
  exact st_loc (p := pmAt T S K G Q th y l) (a := arOf 2 y z) cls_2 (at2_ok _ _) rfl ⟨ok.s0, ok.s1⟩ ok.kd (fun x k X s g hv hat hd => sim2 g ok rfl rfl hv hat hd) (fun e h n Y => yi2 e h n Y _) (x := .en false 0) hg rfl ⟨rfl, 1, 0, rfl⟩ hE hb h999
theorem op_en3 (hy : isW y = true) (hk : okT y S = true) (hE : EndsL (pmAt T S K G Q th y l) (arOf 3 y z) b (.en false 0) (pinW T S K (t 5) s.ws) Qp) :
    ∃ R e h n ws', stRun most T S K G Q l t 3 0 ([.i (slI y)] ++ stEn y 1 [2]) s = some R ∧ Came (pmAt T S K G Q th y l) t e h n ws' R ∧ Qp e h n ws' := by
  have ok : Ar.Ok (pmAt T S K G Q th y l) (arOf 3 y z) := arOf_ok hy hk
  exact st_loc (p := pmAt T S K G Q th y l) (a := arOf 3 y z) cls_3 (at3_ok _ _) rfl ⟨ok.s0, ok.s1⟩ ok.kd (fun x k X s g hv hat hd => sim3 g ok rfl hv hat hd) (fun e h n Y => yi3 e h n Y _) (x := .en false 0) hg rfl ⟨rfl, 1, 0, rfl⟩ hE hb h999
theorem op_en4 (hy : isW y = true) (hk : okT y S = true) (hE : EndsL (pmAt T S K G Q th y l) (arOf 4 y z) b (.en false 0) (pinW T S K (t 5) s.ws) Qp) :
    ∃ R e h n ws', stRun most T S K G Q l t 4 0 ([.i (slI y)] ++ stEn y 1 [2]) s = some R ∧ Came (pmAt T S K G Q th y l) t e h n ws' R ∧ Qp e h n ws' := by
  have ok : Ar.Ok (pmAt T S K G Q th y l) (arOf 4 y z) := arOf_ok hy hk
  exact st_loc (p := pmAt T S K G Q th y l) (a := arOf 4 y z) cls_4 (at4_ok _ _) rfl ⟨ok.s0, ok.s1⟩ ok.kd (fun x k X s g hv hat hd => sim4 g ok rfl hv hat hd) (fun e h n Y => yi4 e h n Y _) (x := .en false 0) hg rfl ⟨rfl, 1, 0, rfl⟩ hE hb h999
/-- An Open. -/
def arO : Ar := ⟨0, 0, 0, 0, 0⟩
theorem op_open (hE : EndsL (pmAt T S K G Q th y l) arO b (.olook 0) (pinW T S K (t 5) s.ws) Qp) :
    ∃ R e h n ws', stRun most T S K G Q l t 0 0 [.i 0, .i 0, .i 0, .i 0, .i 0] s = some R ∧ Came (pmAt T S K G Q th y l) t e h n ws' R ∧ Qp e h n ws' := by
  have hc := hg.cfg
  exact st_loc (p := pmAt T S K G Q th y l) (a := arO) cls_0 (at0_ok _ _) rfl ⟨Int.le_refl _, show (0 : Int) < S by omega⟩ (.inl rfl) (fun x k X s g hv hat hd => sim0 g hv hat hd) (fun e h n Y => yi0 e h n Y) (x := .olook 0) hg ⟨Int.le_refl _, show (0 : Int) < S by omega⟩ ⟨rfl, rfl⟩ hE hb h999
end
section
variable {most T S K G Q y : Int} {l : Nat} {t : Nat → Int} {s : MS} (hg : Good T S K G Q l s.ws) (hb : (153 : Int) < most) (h999 : most ≤ 999)
theorem pm_ok {th : Int} (hy : isW y = true) (hk : okT y S = true) : (pmAt T S K G Q th y l).Ok := by
  obtain ⟨a, b, c, d⟩ := okT_sl hk
  obtain ⟨g0, g1⟩ := okT_gen (isW_iff.1 hy).1 hk
  exact ⟨a, c, b, g0, g1⟩
theorem retire_ok {p : Pm} (hp : p.Ok) {ws : List Int} (h : p.good ws) (st : Int) : p.good (retireW p ws st) := by
  have _h := hp
  unfold retireW noteW
  exact ((h.lset (mv_word _ _ _ (h.lat _ _)) _ _).lset (u64_range _) _ _).lset (h.lat _ _) _ _
theorem sw_endT {p : Pm} (hp : p.Ok) {ws : List Int} (h : p.good ws) (r : Int) : p.good (endT p ws r).2 ∧ ((endT p ws r).1 = 0 ∨ (endT p ws r).1 = 9) := by
  have g0 := hp.g0
  have g1 := hp.g1
  unfold endT
  split
  · exact ⟨h, .inr rfl⟩
  · exact ⟨(h.lset (by omega) _ _).lset (newI_word (by omega) (by omega) (by omega) (by omega)) _ _, .inl rfl⟩
theorem sw_endB {p : Pm} (hp : p.Ok) {ws : List Int} (h : p.good ws) (r : Int) : p.good (endB p ws r).2 ∧ ((endB p ws r).1 = 0 ∨ (endB p ws r).1 = 9) := by
  unfold endB
  split
  · exact ⟨h, .inr rfl⟩
  · exact sw_endT hp (retire_ok hp (drop_good hp h) 7) _
/-- How a sweep ends, alone. -/
def Qs (ws0 : List Int) (e h n : Int) (ws : List Int) : Prop := (e = 0 ∨ e = 9) ∨ ((e = 2 ∨ e = 3 ∨ e = 4) ∧ ws = ws0)
theorem sw_out {p : Pm} (hp : p.Ok) {ws : List Int} (h : p.good ws) : p.good (sweptI p ws).2 ∧ Qs ws (sweptI p ws).1 0 0 (sweptI p ws).2 := by
  unfold sweptI
  repeat' split
  · exact ⟨h, .inr ⟨.inl rfl, rfl⟩⟩
  · exact ⟨h, .inr ⟨.inr (.inl rfl), rfl⟩⟩
  · exact ⟨h, .inr ⟨.inr (.inr rfl), rfl⟩⟩
  · exact ⟨h, .inl (.inr rfl)⟩
  · exact ⟨(sw_endT hp h _).1, .inl (sw_endT hp h _).2⟩
  · exact ⟨(sw_endB hp h _).1, .inl (sw_endB hp h _).2⟩
  · exact ⟨(sw_endB hp (retire_ok hp h 6) _).1, .inl (sw_endB hp (retire_ok hp h 6) _).2⟩
def swX0 (T S K G Q th y : Int) : List Atom := [.i T, .i S, .i K, .i G, .i Q, .i th, .i (slI y), .i (genI y), .b false, .i 0] ++ stEn y 4 [4, 5, 6, 7]
include hg hb h999
theorem op_sweep {th : Int} (hy : isW y = true) (hk : okT y S = true) :
    ∃ R, stRun most T S K G Q l t 5 0 (swX0 T S K G Q th y) s = some R ∧ Came (pmAt T S K G Q th y l) t (sweptI (pmAt T S K G Q th y l) (pinW T S K (t 5) s.ws)).1 0 0 (sweptI (pmAt T S K G Q th y l) (pinW T S K (t 5) s.ws)).2 R := by
  have hp := pm_ok (T := T) (K := K) (G := G) (Q := Q) (l := l) (th := th) hy hk
  have hgp : Good T S K G Q l (pinS T S K (t 5) s).ws := hg.lset (u64_range _) _ _
  have hE := e_all (p := pmAt T S K G Q th y l) hp (s := pinS T S K (t 5) s) (es := 0) (eh := y) (ew := 0) (ec := 4) hgp hy hk rfl
  obtain ⟨n, s', hn, hr, hws⟩ := mrun_swE hE
  have hg' := (sw_out hp (show (pmAt T S K G Q th y l).good (pinS T S K (t 5) s).ws from hgp)).1
  obtain ⟨R, r1, r2, r3, r4⟩ := st_run (M := 5) (most := most) (T := T) (S := S) (K := K) (Qq := Q) (l := l) (t := t) (s := s) (X := swX0 T S K G Q th y) (Y := [.i (sweptI (pmAt T S K G Q th y l) (pinS T S K (t 5) s).ws).1]) cls_5 rfl hg hr (by rw [hws]; exact hg') (u' := fun _ => (sweptI (pmAt T S K G Q th y l) (pinS T S K (t 5) s).ws).1) (fun _ _ _ => rfl) (by omega) h999
  exact ⟨R, r1, came_of (p := pmAt T S K G Q th y l) rfl rfl rfl (by rw [r3, hws]; rfl) hg' r4⟩
end
end Go.Proofs.YtifojacfedjedaaGreat.Bound
end

section
namespace Go.Proofs.YtifojacfedjedaaGreat.Bound
open Go.Proofs.YtifojacfedjedaaGreat.Ev Go.Proofs.YtifojacfedjedaaGreat.ChartMath
set_option linter.unusedVariables false
set_option linter.unusedSimpArgs false
/-- A start that is done at once. -/
theorem op_dn {most T S K G Q : Int} {l : Nat} {t : Nat → Int} {s : MS} {p : Pm} {M : Nat} {X : List Atom} {e h n : Int} (hpT : p.T = T ∧ p.S = S ∧ p.K = K ∧ p.G = G ∧ p.Q = Q ∧ p.l = l) (hg : Good T S K G Q l s.ws) (i1 : inQ QE (1, M, mcDone M) = true) (i2 : inQ QE (2, M, mcDone M) = true) (i4 : inQ QE (4, M, mcDone M) = true) (hm : clM M (mcDone M) = 3) (hq : clQ M (mcDone M) = QE)
    {u : Nat → Int} (hY : ∀ bo na wl, mcOw M (mcDone M) u bo na wl = X) (t0 : tell M u 0 = e) (t1 : tell M u 1 = h) (t2 : tell M u 2 = n) (hn : (3 : Int) < most) (h999 : most ≤ 999) :
    ∃ R, stRun most T S K G Q l t M (mcDone M) X s = some R ∧ Came p t e h n (pinW T S K (t 5) s.ws) R := by
  obtain ⟨rfl, rfl, rfl, rfl, rfl, rfl⟩ := hpT
  obtain ⟨R, r1, r2, r3, r4⟩ := st_done (t := t) i1 i2 i4 hm hq hg hY hn h999
  exact ⟨R, r1, came_of t0 t1 t2 r3 (hg.lset (u64_range _) _ _) r4⟩
def thT (T S K G Q id : Int) (j : Nat) : Int := nthD 0 [T, S, K, G, Q, id, 0, 0, 0] j
def zeroS (ws : List Int) : MS := ⟨ws, 0, 0, 0, 0, 0, 0, false⟩
end Go.Proofs.YtifojacfedjedaaGreat.Bound
end
