/- A worked example of a thread: it comes out. No condition. The law ThreadRefused: the thread's part. No condition. -/
import Derived.Test.YtifojacfedjedaaGreatThFQ
import Derived.Test.YtifojacfedjedaaGreatThW
section
namespace Go.Proofs.YtifojacfedjedaaGreat.Bound
open Go.Proofs.YtifojacfedjedaaGreat.Ev Go.Proofs.YtifojacfedjedaaGreat.ChartMath
set_option linter.unusedVariables false
def eqA : Atom → Atom → Bool
  | .i a, .i b => decide (a = b)
  | .b a, .b b => decide (a = b)
  | .n a, .n b => decide (a = b)
  | .ws a, .ws b => decide (a = b)
  | _, _ => false
theorem eqA_eq {a b : Atom} (h : eqA a b = true) : a = b := by
  cases a <;> cases b <;> simp [eqA] at h <;> rw [h]
def eqAL : List Atom → List Atom → Bool
  | [], [] => true
  | a :: l, b :: m => eqA a b && eqAL l m
  | _, _ => false
theorem eqAL_eq : ∀ {l m : List Atom}, eqAL l m = true → l = m
  | [], [], _ => rfl
  | [], _ :: _, h => by simp [eqAL] at h
  | _ :: _, [], h => by simp [eqAL] at h
  | a :: l, b :: m, h => by
    simp only [eqAL, Bool.and_eq_true] at h
    rw [eqA_eq h.1, eqAL_eq h.2]
def aOut (m : Nat) : SPat := ⟨[(0, i6)], 1, thB 0 0 0 0 (m + 2) ++ memBk m, m + 2, upTo (m + 2) []⟩
def aCfg : List Atom := [.i 1, .i 1, .i 1, .i 9, .i 9]
def aMem (tk ts : Int) (told : Int) (td : Bool) (many : Int) (ws : List Int) : List Atom := aCfg ++ [.n 8, .n 8, .i tk, .i ts, .i 0, .i told, .i 0, .b td, .i many, .ws ws]
def aF1 : FForm := ⟨[.ptr 0 0 none, .ptr 4 0 none, i6], [(0, 113, .vals [i6, i6, i6, i6, u6, i6, bnd 35 0, .ptr 1 0 none, .iface (mcTy 0) (.ptr 2 0 none), i6, u6, u6]), pinB 1 1, (2, 194, .vals [bnd 82 2, .func 132 [] [.ptr 3 0 none], i6, u6, u6, .nilPtr, i6, u6, u6]), (3, 3, .vals [i6])] ++ memBk 4, [aOut 4]⟩
def a1x : List Atom := .i 100 :: (aCfg ++ [.i 0, .i 0, .i 0, .i 0, .i 0, .i 0, .i 0, .i 0, .i 0, .i 0, .i 0, .i 0, .i 0] ++ aMem 0 0 0 false 0 [0, 0, 0, 0, 0, 0, 0, 0])
def a1y : List Atom := .i 8 :: (aCfg ++ [.i 0, .i 0, .i 1, .i 0] ++ aMem 2 3 1 true 8 [0, 0, 0, 268435456, 0, 0, 0, 0])
def aF2 : FForm := ⟨[.ptr 0 0 none, .ptr 7 0 none, i6], [(0, 113, partC 12 (thKnown 1 3 0 1 2)), pinB 1 1, (2, 208, .vals [.func 146 [] [.ptr 3 0 none, .ptr 4 0 none], i6, .ptr 5 0 none, .nilPtr, i6, u6, u6, u6, u6, .nilPtr]), clB 2 3, (4, 108, .vals [bnd 88 2])] ++ enB 5 ++ memBk 7, [aOut 7]⟩
def a2x : List Atom := .i 100 :: (aCfg ++ [.i 0, .i 0, .i 1, .i 0, .i 0, .i 0, .i 0, .i 0, .i 0, .i 0, .i 0, .i 0, .i 0, .i 0, .i 1, .n 1, .n 1, .b false, .b false, .i 0, .i 0, .ws [2]] ++ aMem 2 3 1 true 8 [0, 0, 0, 268435456, 0, 0, 0, 0])
def a2y : List Atom := .i 15 :: (aCfg ++ [.i 0, .i 0, .i 0, .i 1] ++ aMem 2 3 1 true 23 [16, 0, 0, 536870912, 0, 1, 0, 0])
set_option maxRecDepth 100000 in
theorem a1_ev : (endF (ev noSums 100000 18) aF1 a1x).get = some (0, a1y) := by kernel_rfl
set_option maxRecDepth 100000 in
theorem a2_ev : (endF (ev noSums 100000 18) aF2 a2x).get = some (0, a2y) := by kernel_rfl
def aO (x0 y0 : List Atom) (x : List Atom) : Tree (Nat × List Atom) := .br (eqAL x x0) (.leaf (0, y0)) .bad
theorem aO_st {F : FForm} {x0 y0 : List Atom} (h0 : (endF (ev noSums 100000 18) F x0).get = some (0, y0)) (x : List Atom) (r : Nat × List Atom) (h : (aO x0 y0 x).get = some r) : (endF (ev noSums 100000 18) F x).get = some r := by
  obtain ⟨h1, h2⟩ := get_br h
  rw [eqAL_eq h1, h0]
  exact h2
def anyG (l : List FForm) (args : List Value) (H : TH) : Bool := match l with
  | [] => false
  | F :: l => (matF F args H).isSome || anyG l args H
noncomputable def sumsAl : Sums := withCall noSums 18 (canon (orSum (fun args H => anyG [aF1, aF2] args H) (tsums [(aF1, aO a1x a1y), (aF2, aO a2x a2y)]) (ev noSums 100000 18)))
theorem sumsAl_ok : SumsOk sumsAl := withCall_ok noSums_ok (canon_ok (orSum_ok (tsums_ok (ev_sound noSums_ok 100000 _) fun a ha => by
  simp only [List.mem_cons, List.not_mem_nil, or_false] at ha
  rcases ha with rfl | rfl
  · exact aO_st a1_ev
  · exact aO_st a2_ev) (ev_sound noSums_ok 100000 _))) (by kernel_rfl)
set_option maxRecDepth 100000 in
theorem alive_ev : outV (ev sumsAl 100000 11 [] ⟨.nil, 0⟩) = some (.bool true) := by kernel_rfl
def aliveS : List Value → Option Value
  | [] => some (.bool true)
  | _ => none
theorem aliveS_ok {sums : Sums} (hs : SumsOk sums) : SumsOk (withPure sums 11 aliveS) := withPure_ok hs sumsAl_ok 100000 (by kernel_rfl) fun al v h => by
  unfold aliveS at h
  split at h
  · cases h; exact ⟨rfl, rfl, alive_ev⟩
  · cases h
end Go.Proofs.YtifojacfedjedaaGreat.Bound
end

section
namespace Go.Proofs.YtifojacfedjedaaGreat.Bound
open Go.Proofs.YtifojacfedjedaaGreat.Ev Go.Proofs.YtifojacfedjedaaGreat.ChartMath
set_option linter.unusedVariables false
set_option linter.unusedSimpArgs false
noncomputable def sumsRf : Sums := withPure (withStart (withEn sumsTh)) 11 aliveS
theorem sumsRf_ok : SumsOk sumsRf := aliveS_ok (withStart_ok (withEn_ok sumsTh_ok))
/-- The starts of a call. -/
inductive StX (T S K G Q id y z : Int) : Nat → Nat → List Atom → Prop
  | op : StX T S K G Q id y z 0 0 [.i 0, .i 0, .i 0, .i 0, .i 0]
  | rd5 : StX T S K G Q id y z 1 9 [.i 5]
  | rd2 : StX T S K G Q id y z 1 9 [.i 2]
  | rd : okT y S = true → 0 ≤ z → z < K → StX T S K G Q id y z 1 0 ([.i z, .i (slI y)] ++ stEn y 1 [2])
  | wr5 : StX T S K G Q id y z 2 11 [.i 5]
  | wr2 : StX T S K G Q id y z 2 11 [.i 2]
  | wr : okT y S = true → 0 ≤ z → z < K → StX T S K G Q id y z 2 0 ([.i z, .i (slI y)] ++ stEn y 1 [2])
  | cm2 : StX T S K G Q id y z 3 15 [.i 2, .i 0, .i 0]
  | cm : okT y S = true → StX T S K G Q id y z 3 0 ([.i (slI y)] ++ stEn y 1 [2])
  | ab2 : StX T S K G Q id y z 4 3 [.i 2, .i 0, .i 0]
  | ab : okT y S = true → StX T S K G Q id y z 4 0 ([.i (slI y)] ++ stEn y 1 [2])
  | sw2 : StX T S K G Q id y z 5 20 [.i 2]
  | sw : okT y S = true → StX T S K G Q id y z 5 0 (swX0 T S K G Q id y)
section
variable (L : Nat → Nat → List Atom → PT Value) (T S K G Q id y z : Int)
def lKey (M d : Nat) : PT Value := .b (isW y) (.b (decide (z < 0)) (L M d [.i 5]) (.b (decide (z ≥ K)) (L M d [.i 5]) (.b (!okT y S) (L M d [.i 2]) (.b (isW y) (L M 0 ([.i z, .i (stSl S y)] ++ stEn y 1 [2])) .bad)))) .bad
def lCall (M d : Nat) (D E : List Atom) : PT Value := .b (isW y) (.b (!okT y S) (L M d D) (.b (isW y) (L M 0 E) .bad)) .bad
def lStart (x : Int) : PT Value := .b (x == 1) (L 0 0 [.i 0, .i 0, .i 0, .i 0, .i 0])
  (.b (x == 2) (lKey L S K y z 1 9) (.b (x == 3) (lKey L S K y z 2 11) (.b (x == 4) (lCall L S y 3 15 [.i 2, .i 0, .i 0] ([.i (stSl S y)] ++ stEn y 1 [2])) (.b (x == 5) (lCall L S y 4 3 [.i 2, .i 0, .i 0] ([.i (stSl S y)] ++ stEn y 1 [2]))
  (.b (x == 6) (lCall L S y 5 20 [.i 2] ([.i T, .i S, .i K, .i G, .i Q, .i id, .i (stSl S y), .i (stGn S y), .b false, .i 0] ++ stEn y 4 [4, 5, 6, 7])) .bad)))))
end
section
variable {L : Nat → Nat → List Atom → PT Value} {T S K G Q id y z : Int} {v : Option Value} (hy : isW y = true) (hL : ∀ M k X, StX T S K G Q id y z M k X → (den (L M k X)).get = v)
include hy hL
theorem lKey_get {M d : Nat} (h5 : (den (L M d [.i 5])).get = v) (h2 : (den (L M d [.i 2])).get = v) (h : okT y S = true → 0 ≤ z → z < K → (den (L M 0 ([.i z, .i (slI y)] ++ stEn y 1 [2]))).get = v) : (den (lKey L S K y z M d)).get = v := by
  have _h := hL
  unfold lKey
  simp only [den, Tree.get_br, hy, if_true]
  split
  · exact h5
  · rename_i q1
    split
    · exact h5
    · rename_i q2
      cases hk : okT y S with
      | false => simpa using h2
      | true =>
        have e : stSl S y = slI y := by unfold stSl; rw [if_pos hk]
        rw [e]
        simp only [decide_eq_true_eq] at q1 q2
        simpa using h hk (by omega) (by omega)
theorem lCall_get {M d : Nat} {D E : List Atom} (h2 : (den (L M d D)).get = v) (h : okT y S = true → (den (L M 0 E)).get = v) : (den (lCall L S y M d D E)).get = v := by
  have _h := hL
  unfold lCall
  simp only [den, Tree.get_br, hy, if_true]
  cases hk : okT y S with
  | false => simpa using h2
  | true => simpa using h hk
theorem lStart_get {x : Int} (h1 : 1 ≤ x) (h6 : x ≤ 6) : (den (lStart L T S K G Q id y z x)).get = v := by
  have e : okT y S = true → stSl S y = slI y := fun hk => by unfold stSl; rw [if_pos hk]
  have e2 : okT y S = true → stGn S y = genI y := fun hk => by unfold stGn; rw [if_pos hk]
  unfold lStart
  simp only [den, Tree.get_br]
  by_cases x1 : x = 1
  · rw [if_pos (by simpa using x1)]; exact hL _ _ _ .op
  rw [if_neg (by simpa using x1)]
  by_cases x2 : x = 2
  · rw [if_pos (by simpa using x2)]; exact lKey_get hy hL (hL _ _ _ .rd5) (hL _ _ _ .rd2) fun a b c => hL _ _ _ (.rd a b c)
  rw [if_neg (by simpa using x2)]
  by_cases x3 : x = 3
  · rw [if_pos (by simpa using x3)]; exact lKey_get hy hL (hL _ _ _ .wr5) (hL _ _ _ .wr2) fun a b c => hL _ _ _ (.wr a b c)
  rw [if_neg (by simpa using x3)]
  by_cases x4 : x = 4
  · rw [if_pos (by simpa using x4)]; exact lCall_get hy hL (hL _ _ _ .cm2) fun a => by rw [e a]; exact hL _ _ _ (.cm a)
  rw [if_neg (by simpa using x4)]
  by_cases x5 : x = 5
  · rw [if_pos (by simpa using x5)]; exact lCall_get hy hL (hL _ _ _ .ab2) fun a => by rw [e a]; exact hL _ _ _ (.ab a)
  rw [if_neg (by simpa using x5), if_pos (by simpa using show x = 6 by omega)]
  exact lCall_get hy hL (hL _ _ _ .sw2) fun a => by rw [e a, e2 a]; exact hL _ _ _ (.sw a)
end
/-- A start that is done at once. -/
theorem op_dn {most T S K G Q : Int} {l : Nat} {t : Nat → Int} {s : MS} {p : Pm} {M : Nat} {X : List Atom} {e h n : Int} (hpT : p.T = T ∧ p.S = S ∧ p.K = K ∧ p.G = G ∧ p.Q = Q ∧ p.l = l) (hg : Good T S K G Q l s.ws) (i1 : inQ QE (1, M, mcDone M) = true) (i2 : inQ QE (2, M, mcDone M) = true) (i4 : inQ QE (4, M, mcDone M) = true) (hm : clM M (mcDone M) = 3) (hq : clQ M (mcDone M) = QE)
    {u : Nat → Int} (hY : ∀ bo na wl, mcOw M (mcDone M) u bo na wl = X) (t0 : tell M u 0 = e) (t1 : tell M u 1 = h) (t2 : tell M u 2 = n) (hn : (3 : Int) < most) (h999 : most ≤ 999) :
    ∃ R, stRun most T S K G Q l t M (mcDone M) X s = some R ∧ Came p t e h n (pinW T S K (t 5) s.ws) R := by
  obtain ⟨rfl, rfl, rfl, rfl, rfl, rfl⟩ := hpT
  obtain ⟨R, r1, r2, r3, r4⟩ := st_done (t := t) i1 i2 i4 hm hq hg hY hn h999
  exact ⟨R, r1, came_of t0 t1 t2 r3 (hg.lset (u64_range _) _ _) r4⟩
/-- How an operation ends, alone, whatever it was. -/
def RfOk (T S K G Q : Int) (l : Nat) (cells : List Int) (y : Int) (R : TR) : Prop := Good T S K G Q l R.s.ws ∧
  ((R.t 6 = 0 ∨ R.t 6 = 6 ∨ R.t 6 = 9) ∨ ((R.t 6 = 7 ∨ R.t 6 = 8) ∧ okT y S = true ∧ stI (lat T S K R.s.ws 4 (slI y)) = 5) ∨ ((R.t 6 = 2 ∨ R.t 6 = 3 ∨ R.t 6 = 4 ∨ R.t 6 = 5) ∧ R.s.ws = cells.set 2 0))
def thT (T S K G Q id : Int) (j : Nat) : Int := nthD 0 [T, S, K, G, Q, id, 0, 0, 0] j
def zeroS (ws : List Int) : MS := ⟨ws, 0, 0, 0, 0, 0, 0, false⟩
section
variable {T S K G Q y z : Int} {l : Nat} {cells : List Int} (hg : Good T S K G Q l cells)
include hg
theorem pin_back : lset T S K (pinW T S K 0 cells) 3 0 0 = cells.set 2 0 := by
  have hc := hg.cfg
  have e : cellOf T S K 3 0 = 2 := by rw [cell_pin (by omega) (by omega)]; rfl
  unfold pinW lset
  rw [e, if_pos (by omega), if_pos (by omega), List.set_set]
  rfl
theorem rf_good {p : Pm} {ws' : List Int} {e h n : Int} {R : TR} (c : Came p (thT T S K G Q 0) e h n ws' R) : p.good R.s.ws := by
  have _h := hg
  rw [c.2.2.2.2.1]
  exact c.2.2.2.2.2.lset (by omega) _ _
theorem rf_of_qe {M : Nat} {R : TR} {e h n : Int} {ws' : List Int} (hk : okT y S = true) (c : Came (pmAt T S K G Q 0 y l) (thT T S K G Q 0) e h n ws' R) (q : Qe (pmAt T S K G Q 0 y l) (arOf M y z) (pinW T S K 0 cells) e h n ws') : RfOk T S K G Q l cells y R := by
  have hc := hg.cfg
  obtain ⟨s0, s1, s2, s3⟩ := okT_sl hk
  have g := rf_good hg c
  obtain ⟨c1, c2, c3, c4, c5, c6⟩ := c
  refine ⟨g, ?_⟩
  rw [c1]
  rcases q with (q | q) | q
  · rcases q with q | q
    · exact .inl (.inl q)
    · exact .inl (.inr (.inl q))
  · refine .inr (.inl ⟨q.1, hk, ?_⟩)
    rw [c5]
    have e : lat T S K (lset T S K ws' 3 0 0) 4 (slI y) = lat T S K ws' 4 (slI y) := lat_other (by rw [cell_pin (by omega) (by omega), cell_st (by omega) (by omega) s0 s2]; omega)
    exact (congrArg stI e).trans q.2
  · refine .inr (.inr ⟨?_, ?_⟩)
    · omega
    · rw [c5, q.2]
      exact pin_back hg
theorem rf_dn {p : Pm} {e h n : Int} {R : TR} (hp : p.T = T ∧ p.S = S ∧ p.K = K ∧ p.G = G ∧ p.Q = Q ∧ p.l = l) (he : e = 2 ∨ e = 5) (c : Came p (thT T S K G Q 0) e h n (pinW T S K 0 cells) R) : RfOk T S K G Q l cells y R := by
  have g := rf_good hg c
  obtain ⟨rfl, rfl, rfl, rfl, rfl, rfl⟩ := hp
  obtain ⟨c1, c2, c3, c4, c5, c6⟩ := c
  refine ⟨g, .inr (.inr ⟨by rw [c1]; omega, ?_⟩)⟩
  rw [c5]
  exact pin_back hg
theorem rf_all (hy : isW y = true) : ∀ M k X, StX T S K G Q 0 y z M k X → ∃ R, stRun 500 T S K G Q l (thT T S K G Q 0) M k X (zeroS cells) = some R ∧ RfOk T S K G Q l cells y R := by
  have hc := hg.cfg
  have gp : Good T S K G Q l (pinW T S K 0 cells) := hg.lset (u64_range _) _ _
  intro M k X hX
  have ar : ∀ M, okT y S = true → 0 ≤ (arOf M y z).sl ∧ (arOf M y z).sl < (pmAt T S K G Q 0 y l).S := fun M hk => ⟨(okT_sl hk).1, (okT_sl hk).2.2.1⟩
  cases hX with
  | op =>
    have hE := t_open (p := pmAt T S K G Q 0 0 l) (a := arO) (ws := pinW T S K 0 cells) ⟨Int.le_refl _, show (0 : Int) < S by omega⟩ gp S.toNat 0 (Int.le_refl _) (show 0 + (S.toNat : Int) = S by omega)
    rw [if_neg (show ¬ (0 : Int) ≥ (pmAt T S K G Q 0 0 l).S from by show ¬ (0 : Int) ≥ S; omega)] at hE
    obtain ⟨R, e, h, n, ws', r1, c, q⟩ := op_open (th := 0) (y := 0) (t := thT T S K G Q 0) (s := zeroS cells) (most := 500) hg (show ((S.toNat + 9 : Nat) : Int) + 3 < 500 by omega) (by omega) hE
    have g := rf_good hg c
    exact ⟨R, r1, g, .inl (by rw [c.1]; rcases q with q | q <;> omega)⟩
  | rd5 => obtain ⟨R, r1, c⟩ := op_dn (M := 1) (X := [.i 5]) (p := pmAt T S K G Q 0 y l) (t := thT T S K G Q 0) (s := zeroS cells) (most := 500) ⟨rfl, rfl, rfl, rfl, rfl, rfl⟩ hg rfl rfl rfl rfl rfl (u := fun _ => 5) (fun _ _ _ => rfl) rfl rfl rfl (by omega) (by omega); exact ⟨R, r1, rf_dn hg ⟨rfl, rfl, rfl, rfl, rfl, rfl⟩ (.inr rfl) c⟩
  | rd2 => obtain ⟨R, r1, c⟩ := op_dn (M := 1) (X := [.i 2]) (p := pmAt T S K G Q 0 y l) (t := thT T S K G Q 0) (s := zeroS cells) (most := 500) ⟨rfl, rfl, rfl, rfl, rfl, rfl⟩ hg rfl rfl rfl rfl rfl (u := fun _ => 2) (fun _ _ _ => rfl) rfl rfl rfl (by omega) (by omega); exact ⟨R, r1, rf_dn hg ⟨rfl, rfl, rfl, rfl, rfl, rfl⟩ (.inl rfl) c⟩
  | wr5 => obtain ⟨R, r1, c⟩ := op_dn (M := 2) (X := [.i 5]) (p := pmAt T S K G Q 0 y l) (t := thT T S K G Q 0) (s := zeroS cells) (most := 500) ⟨rfl, rfl, rfl, rfl, rfl, rfl⟩ hg rfl rfl rfl rfl rfl (u := fun _ => 5) (fun _ _ _ => rfl) rfl rfl rfl (by omega) (by omega); exact ⟨R, r1, rf_dn hg ⟨rfl, rfl, rfl, rfl, rfl, rfl⟩ (.inr rfl) c⟩
  | wr2 => obtain ⟨R, r1, c⟩ := op_dn (M := 2) (X := [.i 2]) (p := pmAt T S K G Q 0 y l) (t := thT T S K G Q 0) (s := zeroS cells) (most := 500) ⟨rfl, rfl, rfl, rfl, rfl, rfl⟩ hg rfl rfl rfl rfl rfl (u := fun _ => 2) (fun _ _ _ => rfl) rfl rfl rfl (by omega) (by omega); exact ⟨R, r1, rf_dn hg ⟨rfl, rfl, rfl, rfl, rfl, rfl⟩ (.inl rfl) c⟩
  | cm2 => obtain ⟨R, r1, c⟩ := op_dn (M := 3) (X := [.i 2, .i 0, .i 0]) (p := pmAt T S K G Q 0 y l) (t := thT T S K G Q 0) (s := zeroS cells) (most := 500) ⟨rfl, rfl, rfl, rfl, rfl, rfl⟩ hg rfl rfl rfl rfl rfl (u := fun j => nthD 0 [2, 0, 0] j) (fun _ _ _ => rfl) rfl rfl rfl (by omega) (by omega); exact ⟨R, r1, rf_dn hg ⟨rfl, rfl, rfl, rfl, rfl, rfl⟩ (.inl rfl) c⟩
  | ab2 => obtain ⟨R, r1, c⟩ := op_dn (M := 4) (X := [.i 2, .i 0, .i 0]) (p := pmAt T S K G Q 0 y l) (t := thT T S K G Q 0) (s := zeroS cells) (most := 500) ⟨rfl, rfl, rfl, rfl, rfl, rfl⟩ hg rfl rfl rfl rfl rfl (u := fun j => nthD 0 [2, 0, 0] j) (fun _ _ _ => rfl) rfl rfl rfl (by omega) (by omega); exact ⟨R, r1, rf_dn hg ⟨rfl, rfl, rfl, rfl, rfl, rfl⟩ (.inl rfl) c⟩
  | sw2 => obtain ⟨R, r1, c⟩ := op_dn (M := 5) (X := [.i 2]) (p := pmAt T S K G Q 0 y l) (t := thT T S K G Q 0) (s := zeroS cells) (most := 500) ⟨rfl, rfl, rfl, rfl, rfl, rfl⟩ hg rfl rfl rfl rfl rfl (u := fun _ => 2) (fun _ _ _ => rfl) rfl rfl rfl (by omega) (by omega); exact ⟨R, r1, rf_dn hg ⟨rfl, rfl, rfl, rfl, rfl, rfl⟩ (.inl rfl) c⟩
  | rd hk h0 h1 =>
    obtain ⟨R, e, h, n, ws', r1, c, q⟩ := op_en1 (th := 0) (z := z) (t := thT T S K G Q 0) (s := zeroS cells) (most := 500) hg (show ((91 : Nat) : Int) + 3 < 500 by omega) (by omega) hy hk (t_en (es := 0) (ar 1 hk) (.inl rfl) gp (fun _ => ⟨h0, h1⟩) ⟨show 1 ≤ 1 by omega, show 1 ≤ 4 by omega⟩)
    exact ⟨R, r1, rf_of_qe hg hk c q⟩
  | wr hk h0 h1 =>
    obtain ⟨R, e, h, n, ws', r1, c, q⟩ := op_en2 (th := 0) (z := z) (t := thT T S K G Q 0) (s := zeroS cells) (most := 500) hg (show ((91 : Nat) : Int) + 3 < 500 by omega) (by omega) hy hk (t_en (es := 0) (ar 2 hk) (.inr rfl) gp (fun _ => ⟨h0, h1⟩) ⟨show 1 ≤ 2 by omega, show 2 ≤ 4 by omega⟩)
    exact ⟨R, r1, rf_of_qe hg hk c q⟩
  | cm hk =>
    obtain ⟨R, e, h, n, ws', r1, c, q⟩ := op_en3 (th := 0) (z := z) (t := thT T S K G Q 0) (s := zeroS cells) (most := 500) hg (show ((91 : Nat) : Int) + 3 < 500 by omega) (by omega) hy hk (t_en (es := 0) (ar 3 hk) (.inl rfl) gp (fun q => by rcases q with q | q <;> cases q) ⟨show 1 ≤ 3 by omega, show 3 ≤ 4 by omega⟩)
    exact ⟨R, r1, rf_of_qe hg hk c q⟩
  | ab hk =>
    obtain ⟨R, e, h, n, ws', r1, c, q⟩ := op_en4 (th := 0) (z := z) (t := thT T S K G Q 0) (s := zeroS cells) (most := 500) hg (show ((91 : Nat) : Int) + 3 < 500 by omega) (by omega) hy hk (t_en (es := 0) (ar 4 hk) (.inl rfl) gp (fun q => by rcases q with q | q <;> cases q) ⟨show 1 ≤ 4 by omega, show 4 ≤ 4 by omega⟩)
    exact ⟨R, r1, rf_of_qe hg hk c q⟩
  | sw hk =>
    obtain ⟨R, r1, c⟩ := op_sweep (t := thT T S K G Q 0) (s := zeroS cells) (most := 500) (th := 0) hg (by omega) (by omega) hy hk
    refine ⟨R, r1, ?_⟩
    have g := rf_good hg c
    obtain ⟨c1, c2, c3, c4, c5, c6⟩ := c
    refine ⟨g, ?_⟩
    rw [c1]
    have q := (sw_out (pm_ok (T := T) (K := K) (G := G) (Q := Q) (l := l) (th := 0) hy hk) gp).2
    rcases q with q | q
    · exact .inl (by have q := q; rcases q with q | q; exact .inl q; exact .inr (.inr q))
    · refine .inr (.inr ⟨?_, ?_⟩)
      · have q := q.1
        rcases q with q | q | q
        · exact .inl q
        · exact .inr (.inl q)
        · exact .inr (.inr (.inl q))
      · rw [c5]
        exact (congrArg (fun w => lset T S K w 3 0 0) q.2).trans (pin_back hg)
end
end Go.Proofs.YtifojacfedjedaaGreat.Bound
end
