/- A Write's steps are those functions. Conditions stand in the statements. A machine that goes on alone, to its end. Conditions stand in the statements. A machine that goes on alone comes to its end, whatever the words are. Conditions stand in the statements. A sweep alone, as a machine's run. No condition. -/
import Derived.Test.YtifojacfedjedaaGreatLcA
import Derived.Test.YtifojacfedjedaaGreatMcWQ
import Derived.Test.YtifojacfedjedaaGreatThSQ
section
namespace Go.Proofs.YtifojacfedjedaaGreat.Bound
open Go.Proofs.YtifojacfedjedaaGreat.Ev Go.Proofs.YtifojacfedjedaaGreat.ChartMath
set_option linter.unusedVariables false
set_option linter.unusedSimpArgs false
def wrF (k : Nat) (x : List Atom) : Tree (Nat × List Atom) := nthD (fun _ => .bad) wrOs k x
/-- Where a Write stands. -/
def At2 (a : Ar) : Loc → Nat → List Atom → Prop
  | .en tk es, k, X => k = 0 ∧ ∃ ec ew, X = [.i a.ky, .i a.sl, .i a.sl, .i es, .i a.eh, .n 1, .n ec, .b tk, .b false, .i 0, .i ew, .ws [2]]
  | .snap, k, X => k = 1 ∧ X = [.i a.ky, .i a.sl]
  | .look n, k, X => k = 2 ∧ X = [.i a.ky, .i a.sl, .i n]
  | .rival n w l, k, X => k = 3 ∧ ∃ (ro : Nat) (ls : List Int), l = ls.drop ro ∧ ro < ls.length ∧ ls.length ≤ 12 ∧ X = [.i a.ky, .i a.sl, .i n, .i w, .n ro, .n (ls.length - ro), .n (ls.length - ro), .ws ls]
  | .num n w l, k, X => k = 4 ∧ ∃ (ro : Nat) (ls : List Int), l = ls.drop ro ∧ ro < ls.length ∧ ls.length ≤ 12 ∧ X = [.i a.ky, .i a.sl, .i n, .i w, .n ro, .n (ls.length - ro), .n (ls.length - ro), .ws ls]
  | .mark n w, k, X => k = 5 ∧ X = [.i a.ky, .i a.sl, .i n, .i w]
  | .join j n js l, k, X => k = 6 + j ∧ ∃ (oo : Nat) (ls : List Int), l = ls.drop oo ∧ oo < ls.length ∧ ls.length ≤ 12 ∧ X = [.i a.ky, .i a.sl, .i n, .n oo, .n (ls.length - oo), .n (ls.length - oo), .ws ls, .i (ls.getD oo 0), .i 0, .i a.sl, .i js, .i n, .i 0]
  | .own lk n os l, k, X => k = 9 ∧ ∃ (oo : Nat) (ls : List Int), l = ls.drop oo ∧ oo < ls.length ∧ ls.length ≤ 12 ∧ X = [.i a.ky, .i a.sl, .i n, .n oo, .n (ls.length - oo), .n (ls.length - oo), .ws ls, .i a.sl, .i 1, .i (ls.getD oo 0), .i os, .b lk, .b false]
  | .lv lk ls st e h n, k, X => k = 10 ∧ h = 0 ∧ n = 0 ∧ X = [.i e, .i a.sl, .i ls, .i st, .b lk, .b false]
  | .done e h n, k, X => k = 11 ∧ h = 0 ∧ n = 0 ∧ X = [.i e]
  | _, _, _ => False
section
variable {p : Pm} {a : Ar} {k : Nat} {X : List Atom} {s : MS}
theorem w_en {tk : Bool} {es : Int} (g : p.good s.ws) (ha : Ar.Ok p a) (hM : a.M = 2) (hv : isW es = true) {ec : Nat} {ew : Int} : Sim p wrF (At2 a) 0 [.i a.ky, .i a.sl, .i a.sl, .i es, .i a.eh, .n 1, .n ec, .b tk, .b false, .i 0, .i ew, .ws [2]] s (locS p a s.ws (.en tk es)) := by
  have e0 : [(2 : Int)].getD 0 0 = 2 := rfl
  cases tk
  · have hW := g.isW 4 a.sl
    have q1 := bool_two (gnI (p.at s.ws 4 a.sl) != genI a.eh)
    have q2 := bool_two (stI (p.at s.ws 4 a.sl) == 0)
    have q3 := bool_two (stI (p.at s.ws 4 a.sl) == 1)
    have q4 := bool_two (bitI (p.at s.ws 4 a.sl) 26)
    have q5 := bool_two (stI (p.at s.ws 4 a.sl) == 2)
    rcases q1 with q1 | q1 <;> rcases q2 with q2 | q2 <;> rcases q3 with q3 | q3 <;> rcases q4 with q4 | q4 <;> rcases q5 with q5 | q5 <;>
      simp only [locS, q1, q2, q3, q4, q5, cond_true, cond_false] <;>
      refine Sim.load (kd := 4) (o := a.sl) (brI ⟨rfl, rfl, rfl, rfl, rfl⟩ (by simp only [pt_wr0, den, Tree.get, ha.eh, ha.named, g.rowB, mat_lat, hW, q1, q2, q3, q4, q5, e0, Bool.not_true, Bool.not_false, cond_true, cond_false] <;> rfl)) ?_ <;>
      first | exact ⟨rfl, rfl, rfl, rfl⟩ | exact ⟨rfl, _, _, rfl⟩
  · refine Sim.swap (fun h => ⟨brI ⟨rfl, rfl, rfl, rfl, rfl⟩ (by simp only [pt_wr0, den, Tree.get, ha.eh, ha.named, g.rowB, hv, show mok p.T p.S p.K s 4 a.sl es = true from h, Bool.not_true, Bool.not_false, cond_true, cond_false] <;> rfl), ?_⟩) (fun h => ⟨brI ⟨rfl, rfl, rfl, rfl, rfl⟩ (by simp only [pt_wr0, den, Tree.get, ha.eh, ha.named, g.rowB, hv, show mok p.T p.S p.K s 4 a.sl es = false from h, Bool.not_true, Bool.not_false, cond_true, cond_false] <;> rfl), ?_⟩)
    · unfold fstL
      rw [hM, if_neg (by decide), if_neg (by decide)]
      exact ⟨rfl, rfl⟩
    · exact ⟨rfl, _, _, rfl⟩
theorem w_snap (g : p.good s.ws) : Sim p wrF (At2 a) 1 [.i a.ky, .i a.sl] s (locS p a s.ws .snap) :=
  Sim.load (kd := 5) (o := a.sl) (by show (den (pt_wr1 _ _ _ _ _ _ _ _ _ _)).get = _; simp only [pt_wr1, den, Tree.get, g.rowB, cond_true] <;> rfl) ⟨rfl, rfl⟩
theorem f1 (hk : a.kd = 1) (n w : Int) : foundL a n w = nextO n (othL w 0 a.sl) := by unfold foundL; rw [hk]; rfl
theorem j1 (hk : a.kd = 1) (n w : Int) (l : List Int) : judgeJ a n w l = bif bitI w (12 * 0 + a.sl) then .own false n 0 l else bif stI w != 2 && anyB w 1 then lvNo 7 else .join 2 n w l := by unfold judgeJ; rw [hk]; rfl
theorem g1 (hk : a.kd = 1) (n w : Int) (l : List Int) : goesL a n w l = match l with
    | [] => bif bitI w (12 * 1 + a.sl) then nextO n (othL w 0 a.sl) else .mark n w
    | x :: r => .rival n w (x :: r) := by
  cases l with
  | nil => unfold goesL; rw [f1 hk, hk]
  | cons x r => rfl
theorem d_mw (ha : Ar.Ok p a) (g : p.good s.ws) : decide ((0 : Int) ≤ 1 ∧ (1 : Int) ≤ 1 ∧ (0 : Int) ≤ a.sl ∧ a.sl ≤ 11) = true := decide_eq_true (by have := ha.s0; have := ha.s1; have := g.cfg; omega)
theorem d_00 : decide ((0 : Int) = 0 ∨ (0 : Int) = 1) = true := rfl
theorem d_e {x : Int} {r : List Int} : (((x :: r).length : Int) == 0) = false := by
  rw [beq_eq_false_iff_ne]
  simp only [List.length_cons]
  omega
theorem d_g {x : Int} {r : List Int} : decide (((x :: r).length : Int) > 0) = true := decide_eq_true (by simp only [List.length_cons]; omega)
theorem w_look {n : Int} (g : p.good s.ws) (ha : Ar.Ok p a) (hk : a.kd = 1) : Sim p wrF (At2 a) 2 [.i a.ky, .i a.sl, .i n] s (locS p a s.ws (.look n)) := by
  have hW := g.isW 8 a.ky
  have hd := d_mw ha g
  have e : locS p a s.ws (.look n) = (goesL a n (p.at s.ws 8 a.ky) (othL (p.at s.ws 8 a.ky) 1 a.sl), s.ws) := by
    simp only [locS]
    rw [hk, if_neg (by decide)]
  rw [e, g1 hk]
  have hlen := othL_len (p.at s.ws 8 a.ky) 1 a.sl
  cases hR : othL (p.at s.ws 8 a.ky) 1 a.sl with
  | cons x r =>
    rw [hR] at hlen
    exact Sim.load (kd := 8) (o := a.ky) (by show (den (pt_wr2 _ _ _ _ _ _ _ _ _ _ _)).get = _; simp only [pt_wr2, den, Tree.get, g.rowB, mat_lat, hW, hd, hR, d_10, d_e, d_g, List.isEmpty_cons, Bool.and_self, cond_true, cond_false] <;> rfl) ⟨rfl, 0, x :: r, rfl, by simp, hlen, rfl⟩
  | nil =>
    have hlen := othL_len (p.at s.ws 8 a.ky) 0 a.sl
    rcases bool_two (bitI (p.at s.ws 8 a.ky) (12 * 1 + a.sl)) with q1 | q1
    · simp only [q1, cond_true]
      cases hL : othL (p.at s.ws 8 a.ky) 0 a.sl with
      | nil => exact Sim.load (kd := 8) (o := a.ky) (by show (den (pt_wr2 _ _ _ _ _ _ _ _ _ _ _)).get = _; simp only [pt_wr2, den, Tree.get, g.rowB, mat_lat, hW, hd, hR, hL, q1, d_10, d_00, List.isEmpty_nil, Bool.and_self, cond_true, cond_false] <;> rfl) ⟨rfl, rfl, rfl, rfl⟩
      | cons x r =>
        rw [hL] at hlen
        exact Sim.load (kd := 8) (o := a.ky) (by show (den (pt_wr2 _ _ _ _ _ _ _ _ _ _ _)).get = _; simp only [pt_wr2, den, Tree.get, g.rowB, mat_lat, hW, hd, hR, hL, q1, d_10, d_00, d_b, d_c, d_e, List.isEmpty_nil, List.isEmpty_cons, Bool.and_self, cond_true, cond_false] <;> rfl) ⟨rfl, 0, x :: r, rfl, by simp, hlen, rfl⟩
    · simp only [q1, cond_false]
      exact Sim.load (kd := 8) (o := a.ky) (by show (den (pt_wr2 _ _ _ _ _ _ _ _ _ _ _)).get = _; simp only [pt_wr2, den, Tree.get, g.rowB, mat_lat, hW, hd, hR, q1, d_10, List.isEmpty_nil, Bool.and_self, cond_true, cond_false] <;> rfl) ⟨rfl, rfl⟩
theorem w_mark {n w : Int} (g : p.good s.ws) (ha : Ar.Ok p a) (hk : a.kd = 1) (hw : isW w = true) : Sim p wrF (At2 a) 5 [.i a.ky, .i a.sl, .i n, .i w] s (locS p a s.ws (.mark n w)) := by
  have hd := d_mw ha g
  have hlen := othL_len w 0 a.sl
  have e : locS p a s.ws (.mark n w) = p.swap s.ws 8 a.ky w (putI w (12 * 1 + a.sl) true) (nextO n (othL w 0 a.sl)) (.look n) := by
    simp only [locS, f1 hk]
    rw [hk]
  rw [e]
  cases hL : othL w 0 a.sl with
  | nil =>
    exact Sim.swap (fun h => ⟨by show (den (pt_wr5 _ _ _ _ _ _ _ _ _ _ _ _)).get = _; simp only [pt_wr5, den, Tree.get, g.rowB, hw, hd, hL, d_00, show mok p.T p.S p.K s 8 a.ky w = true from h, List.isEmpty_nil, Bool.and_self, cond_true, cond_false] <;> rfl, ⟨rfl, rfl, rfl, rfl⟩⟩)
      (fun h => ⟨by show (den (pt_wr5 _ _ _ _ _ _ _ _ _ _ _ _)).get = _; simp only [pt_wr5, den, Tree.get, g.rowB, hw, hd, show mok p.T p.S p.K s 8 a.ky w = false from h, Bool.and_self, cond_true, cond_false] <;> rfl, ⟨rfl, rfl⟩⟩)
  | cons x r =>
    rw [hL] at hlen
    exact Sim.swap (fun h => ⟨by show (den (pt_wr5 _ _ _ _ _ _ _ _ _ _ _ _)).get = _; simp only [pt_wr5, den, Tree.get, g.rowB, hw, hd, hL, d_00, d_b, d_c, d_e, show mok p.T p.S p.K s 8 a.ky w = true from h, List.isEmpty_cons, Bool.and_self, cond_true, cond_false] <;> rfl, ⟨rfl, 0, x :: r, rfl, by simp, hlen, rfl⟩⟩)
      (fun h => ⟨by show (den (pt_wr5 _ _ _ _ _ _ _ _ _ _ _ _)).get = _; simp only [pt_wr5, den, Tree.get, g.rowB, hw, hd, show mok p.T p.S p.K s 8 a.ky w = false from h, Bool.and_self, cond_true, cond_false] <;> rfl, ⟨rfl, rfl⟩⟩)
/-! A row's first one, and what is left. -/
theorem c_in {i m : Nat} (h : i < m) : decide ((0 : Int) ≤ 0 ∧ (0 : Int) < ((m - i : Nat) : Int)) = true := decide_eq_true (by omega)
theorem c_at {i m : Nat} (h : i < m) : decide (i < m) = true := decide_eq_true h
theorem c_more {i m : Nat} (h : i + 1 < m) : decide ((0 : Int) ≤ 1 ∧ (1 : Int) ≤ ((m - i : Nat) : Int) ∧ ((m - i : Nat) : Int) ≤ ((m - i : Nat) : Int) ∧ m - i ≤ m - i ∧ ((1 : Int) < ((m - i : Nat) : Int) ∨ (1 : Int) = 0)) = true ∧ decide (((m - i - 1 : Nat) : Int) > 0) = true ∧ (((m - i - 1 : Nat) : Int) == 0) = false ∧ decide ((0 : Int) ≤ 0 ∧ (0 : Int) < ((m - i - 1 : Nat) : Int)) = true ∧ decide (i + 1 < m) = true :=
  ⟨decide_eq_true (by omega), decide_eq_true (by omega), by rw [beq_eq_false_iff_ne]; omega, decide_eq_true (by omega), decide_eq_true h⟩
theorem c_last {i m : Nat} (h0 : i < m) (h : ¬ i + 1 < m) : decide ((0 : Int) ≤ 1 ∧ (1 : Int) ≤ ((m - i : Nat) : Int) ∧ ((m - i : Nat) : Int) ≤ ((m - i : Nat) : Int) ∧ m - i ≤ m - i ∧ ((1 : Int) < ((m - i : Nat) : Int) ∨ (1 : Int) = 0)) = false ∧ decide ((0 : Int) ≤ 1 ∧ (1 : Int) = ((m - i : Nat) : Int) ∧ True ∧ m - i ≤ m - i) = true :=
  ⟨decide_eq_false (by omega), decide_eq_true ⟨by omega, by omega, trivial, by omega⟩⟩
theorem x_no (i j : Nat) : exact_ { block := i, off := j } = false := rfl
theorem g1_ne (hk : a.kd = 1) {n w : Int} {l : List Int} (h : l ≠ []) : goesL a n w l = .rival n w l := by
  cases l with
  | nil => exact absurd rfl h
  | cons x r => rfl
section
variable {n w js os : Int} {oo : Nat} {ls : List Int} (g : p.good s.ws) (ha : Ar.Ok p a) (hk : a.kd = 1) (h1 : oo < ls.length) (h2 : ls.length ≤ 12)
include g ha hk h1 h2
theorem w_rival (hv : isW w = true) : Sim p wrF (At2 a) 3 [.i a.ky, .i a.sl, .i n, .i w, .n oo, .n (ls.length - oo), .n (ls.length - oo), .ws ls] s (locS p a s.ws (.rival n w (ls.drop oo))) := by
  have hd := d_mw ha g
  have hW := g.isW 4 (ls.getD oo 0)
  simp only [locS, head_drop h1, tail_drop]
  rcases bool_two (stI (p.at s.ws 4 (ls.getD oo 0)) == 2) with q1 | q1
  · simp only [q1, cond_true]
    exact Sim.load (kd := 4) (o := ls.getD oo 0) (by show (den (pt_wr3 a.ky a.sl n w oo (ls.length - oo) (ls.length - oo) ls p.T p.S p.K p.G p.Q p.l p.c s)).get = _; simp only [pt_wr3, den, Tree.get, g.rowB, mat_lat, c_in h1, c_at h1, hW, q1, cond_true, cond_false] <;> rfl) ⟨rfl, rfl, rfl, rfl⟩
  rcases bool_two (stI (p.at s.ws 4 (ls.getD oo 0)) == 3) with q2 | q2
  · simp only [q1, q2, cond_true, cond_false]
    exact Sim.load (kd := 4) (o := ls.getD oo 0) (by show (den (pt_wr3 a.ky a.sl n w oo (ls.length - oo) (ls.length - oo) ls p.T p.S p.K p.G p.Q p.l p.c s)).get = _; simp only [pt_wr3, den, Tree.get, g.rowB, mat_lat, c_in h1, c_at h1, hW, q1, q2, cond_true, cond_false] <;> rfl) ⟨rfl, rfl, rfl, rfl⟩
  rcases bool_two (stI (p.at s.ws 4 (ls.getD oo 0)) == 4) with q3 | q3
  · simp only [q1, q2, q3, cond_true, cond_false]
    exact Sim.load (kd := 4) (o := ls.getD oo 0) (by show (den (pt_wr3 a.ky a.sl n w oo (ls.length - oo) (ls.length - oo) ls p.T p.S p.K p.G p.Q p.l p.c s)).get = _; simp only [pt_wr3, den, Tree.get, g.rowB, mat_lat, c_in h1, c_at h1, hW, q1, q2, q3, cond_true, cond_false] <;> rfl) ⟨rfl, oo, ls, rfl, h1, h2, rfl⟩
  simp only [q1, q2, q3, cond_false]
  by_cases hm : oo + 1 < ls.length
  · obtain ⟨c1, c2, c3, c4, c5⟩ := c_more hm
    rw [g1_ne hk (drop_ne hm)]
    exact Sim.load (kd := 4) (o := ls.getD oo 0) (by show (den (pt_wr3 a.ky a.sl n w oo (ls.length - oo) (ls.length - oo) ls p.T p.S p.K p.G p.Q p.l p.c s)).get = _; simp only [pt_wr3, den, Tree.get, g.rowB, c_in h1, c_at h1, mat_lat, hW, q1, q2, q3, c1, c2, c3, Bool.and_self, cond_true, cond_false] <;> rfl) ⟨rfl, oo + 1, ls, rfl, hm, h2, rfl⟩
  · obtain ⟨c1, c2⟩ := c_last h1 hm
    rw [List.drop_eq_nil_of_le (show ls.length ≤ oo + 1 by omega), g1 hk]
    have hlen := othL_len w 0 a.sl
    rcases bool_two (bitI w (12 * 1 + a.sl)) with q | q
    · simp only [q, cond_true]
      cases hL : othL w 0 a.sl with
      | nil => exact Sim.load (kd := 4) (o := ls.getD oo 0) (by show (den (pt_wr3 a.ky a.sl n w oo (ls.length - oo) (ls.length - oo) ls p.T p.S p.K p.G p.Q p.l p.c s)).get = _; simp only [pt_wr3, den, Tree.get, g.rowB, c_in h1, c_at h1, mat_lat, hW, q1, q2, q3, c1, c2, x_no, hv, hd, hL, q, d_00, List.isEmpty_nil, Bool.not_false, Bool.true_and, Bool.and_self, cond_true, cond_false] <;> rfl) ⟨rfl, rfl, rfl, rfl⟩
      | cons x r =>
        rw [hL] at hlen
        exact Sim.load (kd := 4) (o := ls.getD oo 0) (by show (den (pt_wr3 a.ky a.sl n w oo (ls.length - oo) (ls.length - oo) ls p.T p.S p.K p.G p.Q p.l p.c s)).get = _; simp only [pt_wr3, den, Tree.get, g.rowB, c_in h1, c_at h1, mat_lat, hW, q1, q2, q3, c1, c2, x_no, hv, hd, hL, q, d_00, d_b, d_c, d_e, List.isEmpty_cons, Bool.not_false, Bool.true_and, Bool.and_self, cond_true, cond_false] <;> rfl) ⟨rfl, 0, x :: r, rfl, by simp, hlen, rfl⟩
    · simp only [q, cond_false]
      exact Sim.load (kd := 4) (o := ls.getD oo 0) (by show (den (pt_wr3 a.ky a.sl n w oo (ls.length - oo) (ls.length - oo) ls p.T p.S p.K p.G p.Q p.l p.c s)).get = _; simp only [pt_wr3, den, Tree.get, g.rowB, c_in h1, c_at h1, mat_lat, hW, q1, q2, q3, c1, c2, x_no, hv, hd, q, Bool.not_false, Bool.true_and, Bool.and_self, cond_true, cond_false] <;> rfl) ⟨rfl, rfl⟩
theorem w_num (hv : isW w = true) : Sim p wrF (At2 a) 4 [.i a.ky, .i a.sl, .i n, .i w, .n oo, .n (ls.length - oo), .n (ls.length - oo), .ws ls] s (locS p a s.ws (.num n w (ls.drop oo))) := by
  have hd := d_mw ha g
  simp only [locS, head_drop h1, tail_drop]
  rcases bool_two (p.at s.ws 6 (ls.getD oo 0) != 0) with q1 | q1
  case inr =>
    have q1m : (mat p.T p.S p.K s 6 (ls.getD oo 0) != 0) = false := q1
    simp only [q1, Bool.false_and, cond_false]
    exact Sim.load (kd := 6) (o := ls.getD oo 0) (by show (den (pt_wr4 a.ky a.sl n w oo (ls.length - oo) (ls.length - oo) ls p.T p.S p.K p.G p.Q p.l p.c s)).get = _; simp only [pt_wr4, den, Tree.get, g.rowB, c_in h1, c_at h1, q1m, cond_true, cond_false] <;> rfl) ⟨rfl, rfl, rfl, rfl⟩
  have q1m : (mat p.T p.S p.K s 6 (ls.getD oo 0) != 0) = true := q1
  rcases bool_two (decide (p.at s.ws 6 (ls.getD oo 0) ≤ n)) with q2 | q2
  case inr =>
    have q2m : decide (mat p.T p.S p.K s 6 (ls.getD oo 0) ≤ n) = false := q2
    simp only [q1, q2, Bool.and_false, cond_false]
    exact Sim.load (kd := 6) (o := ls.getD oo 0) (by show (den (pt_wr4 a.ky a.sl n w oo (ls.length - oo) (ls.length - oo) ls p.T p.S p.K p.G p.Q p.l p.c s)).get = _; simp only [pt_wr4, den, Tree.get, g.rowB, c_in h1, c_at h1, q1m, q2m, cond_true, cond_false] <;> rfl) ⟨rfl, rfl, rfl, rfl⟩
  have q2m : decide (mat p.T p.S p.K s 6 (ls.getD oo 0) ≤ n) = true := q2
  simp only [q1, q2, Bool.and_self, cond_true]
  by_cases hm : oo + 1 < ls.length
  · obtain ⟨c1, c2, c3, c4, c5⟩ := c_more hm
    rw [g1_ne hk (drop_ne hm)]
    exact Sim.load (kd := 6) (o := ls.getD oo 0) (by show (den (pt_wr4 a.ky a.sl n w oo (ls.length - oo) (ls.length - oo) ls p.T p.S p.K p.G p.Q p.l p.c s)).get = _; simp only [pt_wr4, den, Tree.get, g.rowB, c_in h1, c_at h1, q1m, q2m, c1, c2, c3, Bool.and_self, cond_true, cond_false] <;> rfl) ⟨rfl, oo + 1, ls, rfl, hm, h2, rfl⟩
  · obtain ⟨c1, c2⟩ := c_last h1 hm
    rw [List.drop_eq_nil_of_le (show ls.length ≤ oo + 1 by omega), g1 hk]
    have hlen := othL_len w 0 a.sl
    rcases bool_two (bitI w (12 * 1 + a.sl)) with q | q
    · simp only [q, cond_true]
      cases hL : othL w 0 a.sl with
      | nil => exact Sim.load (kd := 6) (o := ls.getD oo 0) (by show (den (pt_wr4 a.ky a.sl n w oo (ls.length - oo) (ls.length - oo) ls p.T p.S p.K p.G p.Q p.l p.c s)).get = _; simp only [pt_wr4, den, Tree.get, g.rowB, c_in h1, c_at h1, q1m, q2m, c1, c2, x_no, hv, hd, hL, q, d_00, List.isEmpty_nil, Bool.not_false, Bool.true_and, Bool.and_self, cond_true, cond_false] <;> rfl) ⟨rfl, rfl, rfl, rfl⟩
      | cons x r =>
        rw [hL] at hlen
        exact Sim.load (kd := 6) (o := ls.getD oo 0) (by show (den (pt_wr4 a.ky a.sl n w oo (ls.length - oo) (ls.length - oo) ls p.T p.S p.K p.G p.Q p.l p.c s)).get = _; simp only [pt_wr4, den, Tree.get, g.rowB, c_in h1, c_at h1, q1m, q2m, c1, c2, x_no, hv, hd, hL, q, d_00, d_b, d_c, d_e, List.isEmpty_cons, Bool.not_false, Bool.true_and, Bool.and_self, cond_true, cond_false] <;> rfl) ⟨rfl, 0, x :: r, rfl, by simp, hlen, rfl⟩
    · simp only [q, cond_false]
      exact Sim.load (kd := 6) (o := ls.getD oo 0) (by show (den (pt_wr4 a.ky a.sl n w oo (ls.length - oo) (ls.length - oo) ls p.T p.S p.K p.G p.Q p.l p.c s)).get = _; simp only [pt_wr4, den, Tree.get, g.rowB, c_in h1, c_at h1, q1m, q2m, c1, c2, x_no, hv, hd, q, Bool.not_false, Bool.true_and, Bool.and_self, cond_true, cond_false] <;> rfl) ⟨rfl, rfl⟩
theorem w_join0 : Sim p wrF (At2 a) 6 [.i a.ky, .i a.sl, .i n, .n oo, .n (ls.length - oo), .n (ls.length - oo), .ws ls, .i (ls.getD oo 0), .i 0, .i a.sl, .i js, .i n, .i 0] s (locS p a s.ws (.join 0 n js (ls.drop oo))) := by
  have hW := g.isW 4 (ls.getD oo 0)
  have hsd : sideOk 0 a.sl = true := decide_eq_true (by have := ha.s0; have := ha.s1; have := g.cfg; omega)
  have hz : decide (IntKind.i64.wrap (1 - 0) = 0 ∨ IntKind.i64.wrap (1 - 0) = 1) = true := rfl
  have hz2 : IntKind.i64.wrap (1 - 0) = 1 := rfl
  simp only [locS, head_drop h1, tail_drop, j1 hk]
  have q4 := bool_two (bitI (p.at s.ws 4 (ls.getD oo 0)) (12 * 0 + a.sl))
  have q5 := bool_two (anyB (p.at s.ws 4 (ls.getD oo 0)) 1)
  have q6 : (stI (p.at s.ws 4 (ls.getD oo 0)) != 2) = !(stI (p.at s.ws 4 (ls.getD oo 0)) == 2) := rfl
  rcases bool_two (stI (p.at s.ws 4 (ls.getD oo 0)) == 4) with q1 | q1
  · simp only [q1, cond_true]
    exact Sim.load (kd := 4) (o := ls.getD oo 0) (brI ⟨rfl, rfl, rfl, rfl⟩ (by simp only [pt_wr6, den, Tree.get, g.rowB, mat_lat, hW, q1, cond_true, cond_false] <;> rfl)) ⟨rfl, oo, ls, rfl, h1, h2, rfl⟩
  rcases bool_two (stI (p.at s.ws 4 (ls.getD oo 0)) == 2) with q2 | q2
  · rcases q4 with q4 | q4 <;> simp only [q1, q2, q4, q6, cond_true, cond_false, Bool.not_true, Bool.false_and] <;>
      exact Sim.load (kd := 4) (o := ls.getD oo 0) (brI ⟨rfl, rfl, rfl, rfl⟩ (by simp only [pt_wr6, den, Tree.get, g.rowB, mat_lat, hW, hsd, c_in h1, c_at h1, q1, q2, q4, q6, Bool.not_true, Bool.and_self, cond_true, cond_false] <;> rfl)) ⟨rfl, oo, ls, rfl, h1, h2, rfl⟩
  rcases bool_two (stI (p.at s.ws 4 (ls.getD oo 0)) == 3) with q3 | q3
  · rcases q4 with q4 | q4 <;> rcases q5 with q5 | q5 <;> simp only [q1, q2, q3, q4, q5, q6, cond_true, cond_false, Bool.not_false, Bool.true_and] <;>
      refine Sim.load (kd := 4) (o := ls.getD oo 0) (brI ⟨rfl, rfl, rfl, rfl⟩ (by simp only [pt_wr6, den, Tree.get, g.rowB, mat_lat, hW, hsd, hz, hz2, c_in h1, c_at h1, q1, q2, q3, q4, q5, q6, Bool.not_false, Bool.and_self, cond_true, cond_false] <;> rfl)) ?_ <;>
      first | exact ⟨rfl, oo, ls, rfl, h1, h2, rfl⟩ | exact ⟨rfl, rfl, rfl, rfl⟩
  simp only [q1, q2, q3, cond_false]
  by_cases hm : oo + 1 < ls.length
  · obtain ⟨c1, c2, c3, c4, c5⟩ := c_more hm
    rw [nextO_ne (drop_ne hm)]
    exact Sim.load (kd := 4) (o := ls.getD oo 0) (brI ⟨rfl, rfl, rfl, rfl⟩ (by simp only [pt_wr6, den, Tree.get, g.rowB, mat_lat, hW, q1, q2, q3, c1, c3, c4, c5, Bool.and_self, cond_true, cond_false] <;> rfl)) ⟨rfl, oo + 1, ls, rfl, hm, h2, rfl⟩
  · obtain ⟨c1, c2⟩ := c_last h1 hm
    rw [List.drop_eq_nil_of_le (show ls.length ≤ oo + 1 by omega)]
    exact Sim.load (kd := 4) (o := ls.getD oo 0) (brI ⟨rfl, rfl, rfl, rfl⟩ (by simp only [pt_wr6, den, Tree.get, g.rowB, mat_lat, hW, q1, q2, q3, c1, c2, x_no, Bool.not_false, Bool.true_and, Bool.and_self, cond_true, cond_false] <;> rfl)) ⟨rfl, rfl, rfl, rfl⟩
theorem w_join1 (hv : isW js = true) : Sim p wrF (At2 a) 7 [.i a.ky, .i a.sl, .i n, .n oo, .n (ls.length - oo), .n (ls.length - oo), .ws ls, .i (ls.getD oo 0), .i 0, .i a.sl, .i js, .i n, .i 0] s (locS p a s.ws (.join 1 n js (ls.drop oo))) := by
  have hsd : sideOk 0 a.sl = true := decide_eq_true (by have := ha.s0; have := ha.s1; have := g.cfg; omega)
  have hz : decide (IntKind.i64.wrap (1 - 0) = 0 ∨ IntKind.i64.wrap (1 - 0) = 1) = true := rfl
  have hz2 : IntKind.i64.wrap (1 - 0) = 1 := rfl
  simp only [locS, head_drop h1, tail_drop, j1 hk]
  have q1 := bool_two (p.at s.ws 6 (ls.getD oo 0) != 0)
  have q2 := bool_two (decide (p.at s.ws 6 (ls.getD oo 0) ≤ n))
  have q3 := bool_two (stI js != 2)
  have q4 := bool_two (bitI js (12 * 0 + a.sl))
  have q5 := bool_two (anyB js 1)
  have J : ∀ r : Loc, (r = bif bitI js (12 * 0 + a.sl) then .own false n 0 (ls.drop oo) else bif stI js != 2 && anyB js 1 then lvNo 7 else .join 2 n js (ls.drop oo)) → ((p.at s.ws 6 (ls.getD oo 0) != 0) && decide (p.at s.ws 6 (ls.getD oo 0) ≤ n)) = false → Sim p wrF (At2 a) 7 [.i a.ky, .i a.sl, .i n, .n oo, .n (ls.length - oo), .n (ls.length - oo), .ws ls, .i (ls.getD oo 0), .i 0, .i a.sl, .i js, .i n, .i 0] s (r, s.ws) := by
    rintro r rfl hq
    rcases q3 with q3 | q3 <;> rcases q4 with q4 | q4 <;> rcases q5 with q5 | q5 <;> rcases q1 with q1 | q1 <;> rcases q2 with q2 | q2 <;> rw [q1, q2] at hq
    all_goals first | (cases hq; done) | skip
    all_goals have q1m : (mat p.T p.S p.K s 6 (ls.getD oo 0) != 0) = _ := q1
    all_goals have q2m : decide (mat p.T p.S p.K s 6 (ls.getD oo 0) ≤ n) = _ := q2
    all_goals simp only [q3, q4, q5, cond_true, cond_false, Bool.and_self, Bool.false_and, Bool.and_false, Bool.true_and]
    all_goals refine Sim.load (kd := 6) (o := ls.getD oo 0) (brI ⟨rfl, rfl, rfl, rfl⟩ (by simp only [pt_wr7, den, Tree.get, g.rowB, hv, hsd, hz, hz2, c_in h1, c_at h1, q1m, q2m, q3, q4, q5, Bool.and_self, cond_true, cond_false] <;> rfl)) ?_
    all_goals first | exact ⟨rfl, oo, ls, rfl, h1, h2, rfl⟩ | exact ⟨rfl, rfl, rfl, rfl⟩
  rcases q1 with q1 | q1
  case inr =>
    simp only [q1, Bool.false_and, cond_false]
    exact J _ rfl (by rw [q1]; rfl)
  rcases q2 with q2 | q2
  case inr =>
    simp only [q1, q2, Bool.and_false, cond_false]
    exact J _ rfl (by rw [q1, q2]; rfl)
  have q1m : (mat p.T p.S p.K s 6 (ls.getD oo 0) != 0) = true := q1
  have q2m : decide (mat p.T p.S p.K s 6 (ls.getD oo 0) ≤ n) = true := q2
  simp only [q1, q2, Bool.and_self, cond_true]
  by_cases hm : oo + 1 < ls.length
  · obtain ⟨c1, c2, c3, c4, c5⟩ := c_more hm
    rw [nextO_ne (drop_ne hm)]
    exact Sim.load (kd := 6) (o := ls.getD oo 0) (brI ⟨rfl, rfl, rfl, rfl⟩ (by simp only [pt_wr7, den, Tree.get, g.rowB, q1m, q2m, c1, c3, c4, c5, Bool.and_self, cond_true, cond_false] <;> rfl)) ⟨rfl, oo + 1, ls, rfl, hm, h2, rfl⟩
  · obtain ⟨c1, c2⟩ := c_last h1 hm
    rw [List.drop_eq_nil_of_le (show ls.length ≤ oo + 1 by omega)]
    exact Sim.load (kd := 6) (o := ls.getD oo 0) (brI ⟨rfl, rfl, rfl, rfl⟩ (by simp only [pt_wr7, den, Tree.get, g.rowB, q1m, q2m, c1, c2, x_no, Bool.not_false, Bool.true_and, Bool.and_self, cond_true, cond_false] <;> rfl)) ⟨rfl, rfl, rfl, rfl⟩
theorem w_join2 (hv : isW js = true) : Sim p wrF (At2 a) 8 [.i a.ky, .i a.sl, .i n, .n oo, .n (ls.length - oo), .n (ls.length - oo), .ws ls, .i (ls.getD oo 0), .i 0, .i a.sl, .i js, .i n, .i 0] s (locS p a s.ws (.join 2 n js (ls.drop oo))) := by
  have hsd : sideOk 0 a.sl = true := decide_eq_true (by have := ha.s0; have := ha.s1; have := g.cfg; omega)
  have e : locS p a s.ws (.join 2 n js (ls.drop oo)) = p.swap s.ws 4 (ls.getD oo 0) js (putI js (12 * 0 + a.sl) true) (.own false n 0 (ls.drop oo)) (.join 0 n js (ls.drop oo)) := by
    simp only [locS, head_drop h1]
    rw [hk]
    rfl
  rw [e]
  exact Sim.swap (fun h => ⟨brI ⟨rfl, rfl, rfl, rfl⟩ (by simp only [pt_wr8, den, Tree.get, g.rowB, hv, hsd, c_in h1, c_at h1, show mok p.T p.S p.K s 4 (ls.getD oo 0) js = true from h, Bool.and_self, cond_true, cond_false] <;> rfl), ⟨rfl, oo, ls, rfl, h1, h2, rfl⟩⟩)
    (fun h => ⟨brI ⟨rfl, rfl, rfl, rfl⟩ (by simp only [pt_wr8, den, Tree.get, g.rowB, hv, hsd, show mok p.T p.S p.K s 4 (ls.getD oo 0) js = false from h, Bool.and_self, cond_true, cond_false] <;> rfl), ⟨rfl, oo, ls, rfl, h1, h2, rfl⟩⟩)
theorem w_ownF (hs : slotsOk (ls.drop oo)) : Sim p wrF (At2 a) 9 [.i a.ky, .i a.sl, .i n, .n oo, .n (ls.length - oo), .n (ls.length - oo), .ws ls, .i a.sl, .i 1, .i (ls.getD oo 0), .i os, .b false, .b false] s (locS p a s.ws (.own false n os (ls.drop oo))) := by
  have _h := ha
  have hW := g.isW 4 a.sl
  have ho := hs (ls.getD oo 0) (by rw [← head_drop h1]; cases h : ls.drop oo with | nil => exact absurd h (drop_ne h1) | cons x r => simp)
  have hsd : sideOk 1 (ls.getD oo 0) = true := decide_eq_true (by omega)
  have e : locS p a s.ws (.own false n os (ls.drop oo)) = (bif putI (p.at s.ws 4 a.sl) (12 * 1 + ls.getD oo 0) true == p.at s.ws 4 a.sl then nextO n (ls.drop (oo + 1)) else .own true n (p.at s.ws 4 a.sl) (ls.drop oo), s.ws) := by
    simp only [locS, head_drop h1, tail_drop]
    rw [hk]
  rw [e]
  rcases bool_two (putI (p.at s.ws 4 a.sl) (12 * 1 + ls.getD oo 0) true == p.at s.ws 4 a.sl) with q1 | q1
  case inr =>
    rw [q1, cond_false]
    exact Sim.load (kd := 4) (o := a.sl) (brI ⟨rfl, rfl, rfl⟩ (by simp only [pt_wr9, den, Tree.get, g.rowB, mat_lat, hW, hsd, q1, Bool.and_self, cond_true, cond_false] <;> rfl)) ⟨rfl, oo, ls, rfl, h1, h2, rfl⟩
  rw [q1, cond_true]
  by_cases hm : oo + 1 < ls.length
  · obtain ⟨c1, c2, c3, c4, c5⟩ := c_more hm
    rw [nextO_ne (drop_ne hm)]
    exact Sim.load (kd := 4) (o := a.sl) (brI ⟨rfl, rfl, rfl⟩ (by simp only [pt_wr9, den, Tree.get, g.rowB, mat_lat, hW, hsd, q1, c1, c3, c4, c5, Bool.and_self, cond_true, cond_false] <;> rfl)) ⟨rfl, oo + 1, ls, rfl, hm, h2, rfl⟩
  · obtain ⟨c1, c2⟩ := c_last h1 hm
    rw [List.drop_eq_nil_of_le (show ls.length ≤ oo + 1 by omega)]
    exact Sim.load (kd := 4) (o := a.sl) (brI ⟨rfl, rfl, rfl⟩ (by simp only [pt_wr9, den, Tree.get, g.rowB, mat_lat, hW, hsd, q1, c1, c2, x_no, Bool.not_false, Bool.true_and, Bool.and_self, cond_true, cond_false] <;> rfl)) ⟨rfl, rfl, rfl, rfl⟩
theorem w_ownT (hs : slotsOk (ls.drop oo)) (hv : isW os = true) : Sim p wrF (At2 a) 9 [.i a.ky, .i a.sl, .i n, .n oo, .n (ls.length - oo), .n (ls.length - oo), .ws ls, .i a.sl, .i 1, .i (ls.getD oo 0), .i os, .b true, .b false] s (locS p a s.ws (.own true n os (ls.drop oo))) := by
  have _h := ha
  have ho := hs (ls.getD oo 0) (by rw [← head_drop h1]; cases h : ls.drop oo with | nil => exact absurd h (drop_ne h1) | cons x r => simp)
  have hsd : sideOk 1 (ls.getD oo 0) = true := decide_eq_true (by omega)
  have e : locS p a s.ws (.own true n os (ls.drop oo)) = p.swap s.ws 4 a.sl os (putI os (12 * 1 + ls.getD oo 0) true) (nextO n (ls.drop (oo + 1))) (.own false n os (ls.drop oo)) := by
    simp only [locS, head_drop h1, tail_drop]
    rw [hk]
  rw [e]
  by_cases hm : oo + 1 < ls.length
  · obtain ⟨c1, c2, c3, c4, c5⟩ := c_more hm
    rw [nextO_ne (drop_ne hm)]
    exact Sim.swap (fun h => ⟨brI ⟨rfl, rfl, rfl⟩ (by simp only [pt_wr9, den, Tree.get, g.rowB, hv, hsd, show mok p.T p.S p.K s 4 a.sl os = true from h, c1, c3, c4, c5, Bool.and_self, cond_true, cond_false] <;> rfl), ⟨rfl, oo + 1, ls, rfl, hm, h2, rfl⟩⟩)
      (fun h => ⟨brI ⟨rfl, rfl, rfl⟩ (by simp only [pt_wr9, den, Tree.get, g.rowB, hv, hsd, show mok p.T p.S p.K s 4 a.sl os = false from h, Bool.and_self, cond_true, cond_false] <;> rfl), ⟨rfl, oo, ls, rfl, h1, h2, rfl⟩⟩)
  · obtain ⟨c1, c2⟩ := c_last h1 hm
    rw [List.drop_eq_nil_of_le (show ls.length ≤ oo + 1 by omega)]
    exact Sim.swap (fun h => ⟨brI ⟨rfl, rfl, rfl⟩ (by simp only [pt_wr9, den, Tree.get, g.rowB, hv, hsd, show mok p.T p.S p.K s 4 a.sl os = true from h, c1, c2, x_no, Bool.not_false, Bool.true_and, Bool.and_self, cond_true, cond_false] <;> rfl), ⟨rfl, rfl, rfl, rfl⟩⟩)
      (fun h => ⟨brI ⟨rfl, rfl, rfl⟩ (by simp only [pt_wr9, den, Tree.get, g.rowB, hv, hsd, show mok p.T p.S p.K s 4 a.sl os = false from h, Bool.and_self, cond_true, cond_false] <;> rfl), ⟨rfl, oo, ls, rfl, h1, h2, rfl⟩⟩)
end
theorem w_lv {lk : Bool} {ls st e : Int} (g : p.good s.ws) (hv : isW ls = true) : Sim p wrF (At2 a) 10 [.i e, .i a.sl, .i ls, .i st, .b lk, .b false] s (locS p a s.ws (.lv lk ls st e 0 0)) := by
  cases lk
  · exact Sim.load (kd := 4) (o := a.sl) (brI rfl (by simp only [pt_wr10, den, Tree.get, g.rowB, Bool.not_false, cond_true, cond_false] <;> rfl)) ⟨rfl, rfl, rfl, rfl⟩
  · have q1 := bool_two (decide (st < 0))
    have q2 := bool_two (decide (st > 7))
    simp only [locS]
    rcases q1 with q1 | q1 <;> rcases q2 with q2 | q2 <;> simp only [q1, q2, Bool.or_true, Bool.true_or, Bool.or_self, cond_true, cond_false] <;>
      exact Sim.swap (fun h => ⟨brI rfl (by simp only [pt_wr10, den, Tree.get, g.rowB, hv, q1, q2, show mok p.T p.S p.K s 4 a.sl ls = true from h, Bool.not_true, cond_true, cond_false] <;> rfl), ⟨rfl, rfl, rfl, rfl⟩⟩)
        (fun h => ⟨brI rfl (by simp only [pt_wr10, den, Tree.get, g.rowB, hv, q1, q2, show mok p.T p.S p.K s 4 a.sl ls = false from h, Bool.not_true, cond_true, cond_false] <;> rfl), ⟨rfl, rfl, rfl, rfl⟩⟩)
/-- A Write goes on as is said. -/
theorem sim2 {x : Loc} (g : p.good s.ws) (ha : Ar.Ok p a) (hM : a.M = 2) (hk : a.kd = 1) (hv : VL p a x) (hat : At2 a x k X) (hd : k ≠ 11) : Sim p wrF (At2 a) k X s (locS p a s.ws x) := by
  cases x with
  | en tk es => obtain ⟨rfl, ec, ew, rfl⟩ := hat; exact w_en g ha hM hv
  | snap => obtain ⟨rfl, rfl⟩ := hat; exact w_snap g
  | look n => obtain ⟨rfl, rfl⟩ := hat; exact w_look g ha hk
  | mark n w => obtain ⟨rfl, rfl⟩ := hat; exact w_mark g ha hk hv
  | rival n w l => obtain ⟨rfl, oo, ls, rfl, h1, h2, rfl⟩ := hat; exact w_rival g ha hk h1 h2 hv.1
  | num n w l => obtain ⟨rfl, oo, ls, rfl, h1, h2, rfl⟩ := hat; exact w_num g ha hk h1 h2 hv.1
  | join j n js l =>
    obtain ⟨rfl, oo, ls, rfl, h1, h2, rfl⟩ := hat
    obtain ⟨v0, v1, v2, v3, v4⟩ := hv
    match j, v0 with
    | 0, _ => exact w_join0 g ha hk h1 h2
    | 1, _ => exact w_join1 g ha hk h1 h2 v1
    | 2, _ => exact w_join2 g ha hk h1 h2 v1
  | own lk n os l =>
    obtain ⟨rfl, oo, ls, rfl, h1, h2, rfl⟩ := hat
    obtain ⟨v1, v2, v3, v4⟩ := hv
    cases lk
    · exact w_ownF g ha hk h1 h2 v3
    · exact w_ownT g ha hk h1 h2 v3 v1
  | lv lk ls st e h n => obtain ⟨rfl, rfl, rfl, rfl⟩ := hat; exact w_lv g hv
  | done e h n => exact absurd hat.1 hd
  | _ => exact hat.elim
end
end Go.Proofs.YtifojacfedjedaaGreat.Bound
end

section
namespace Go.Proofs.YtifojacfedjedaaGreat.Bound
open Go.Proofs.YtifojacfedjedaaGreat.Ev Go.Proofs.YtifojacfedjedaaGreat.ChartMath
set_option linter.unusedVariables false
set_option linter.unusedSimpArgs false
/-- So many steps. -/
def iterL (p : Pm) (a : Ar) : Nat → Loc × List Int → Loc × List Int
  | 0, r => r
  | k + 1, r => iterL p a k (locS p a r.2 r.1)
theorem iterL_done (p : Pm) (a : Ar) (e h n : Int) (ws : List Int) : ∀ k, iterL p a k (.done e h n, ws) = (.done e h n, ws)
  | 0 => rfl
  | k + 1 => iterL_done p a e h n ws k
/-- It ends, within so many steps. -/
def EndsL (p : Pm) (a : Ar) (m : Nat) (x : Loc) (ws : List Int) (Q : Int → Int → Int → List Int → Prop) : Prop := ∃ k e h n ws', k ≤ m ∧ iterL p a k (x, ws) = (.done e h n, ws') ∧ p.good ws' ∧ Q e h n ws'
theorem EndsL.done {p : Pm} {a : Ar} {e h n : Int} {ws : List Int} {Q : Int → Int → Int → List Int → Prop} (g : p.good ws) (hq : Q e h n ws) : EndsL p a 0 (.done e h n) ws Q := ⟨0, e, h, n, ws, Nat.le_refl _, rfl, g, hq⟩
theorem EndsL.mono {p : Pm} {a : Ar} {m m' : Nat} {x : Loc} {ws : List Int} {Q Q' : Int → Int → Int → List Int → Prop} (h : EndsL p a m x ws Q) (hm : m ≤ m') (hq : ∀ e h n w, Q e h n w → Q' e h n w) : EndsL p a m' x ws Q' := by
  obtain ⟨k, e, hh, n, ws', h1, h2, h3, h4⟩ := h
  exact ⟨k, e, hh, n, ws', Nat.le_trans h1 hm, h2, h3, hq _ _ _ _ h4⟩
theorem EndsL.step {p : Pm} {a : Ar} {m : Nat} {x : Loc} {ws : List Int} {Q : Int → Int → Int → List Int → Prop} {r : Loc × List Int} (e : locS p a ws x = r) (h : EndsL p a m r.1 r.2 Q) : EndsL p a (m + 1) x ws Q := by
  obtain ⟨k, e1, hh, n, ws', h1, h2, h3, h4⟩ := h
  refine ⟨k + 1, e1, hh, n, ws', by omega, ?_, h3, h4⟩
  show iterL p a k (locS p a ws x) = _
  rw [e]
  exact h2
section
variable {p : Pm} {a : Ar} {ws : List Int} {k o v : Int}
theorem good_set (g : p.good ws) (hv : 0 ≤ v ∧ v < 18446744073709551616) : p.good (p.set ws k o v) := g.lset hv k o
theorem good_swap {old : Int} {x y : Loc} (g : p.good ws) (hv : 0 ≤ v ∧ v < 18446744073709551616) : p.good (p.swap ws k o old v x y).2 := by
  unfold Pm.swap
  cases p.cas ws k o old
  · exact g
  · exact good_set g hv
theorem put_w {w n : Int} (h : isW w = true) (h2 : 0 ≤ n) (h3 : n ≤ 40) : 0 ≤ putI w n true ∧ putI w n true < 18446744073709551616 := by
  have := isW_iff.1 h
  exact put_word true this.1 this.2 h2 h3
theorem good_help {hw hs : Int} {b : Nat → Int → Loc} {z : Loc} {j : Nat} (g : p.good ws) (h1 : isW hw = true) (h2 : isW hs = true) : p.good (helpL p ws hw hs b z j).2 := by
  have e1 := isW_iff.1 h1
  have e2 := isW_iff.1 h2
  match j with
  | 0 => exact good_swap g (by omega)
  | 1 => exact g
  | 2 => exact good_swap g (mv_word _ _ _ e2)
  | j + 3 => exact good_swap g (by unfold setI; omega)
theorem head_slot {l : List Int} (h0 : l ≠ []) (h1 : slotsOk l) : 0 ≤ l.headD 0 ∧ l.headD 0 ≤ 11 := by
  cases l with
  | nil => exact absurd rfl h0
  | cons x r => exact h1 x (by simp)
/-- Words stay words. -/
theorem step_good (g : p.good ws) (x : Loc) (h : VL p a x) (ha : 0 ≤ a.sl ∧ a.sl < p.S) (hk : a.kd = 0 ∨ a.kd = 1) : p.good (locS p a ws x).2 := by
  have hc := g.cfg
  cases x with
  | en tk es =>
    cases tk
    · exact g
    · exact good_swap g (mv_word _ _ _ (isW_iff.1 h))
  | mark n w => exact good_swap g (put_w h (by omega) (by omega))
  | join j n js l =>
    match j, h.1 with
    | 0, _ => exact g
    | 1, _ => exact g
    | 2, _ => exact good_swap g (put_w h.2.1 (by omega) (by omega))
  | own lk n os l =>
    have := head_slot h.2.1 h.2.2.1
    cases lk
    · exact g
    · exact good_swap g (put_w h.1 (by omega) (by omega))
  | doom s => exact good_swap g (mv_word _ _ _ (isW_iff.1 h))
  | promise s => exact good_swap g (mv_word _ _ _ (isW_iff.1 h))
  | help j hw hs => exact good_help g h.2.1 h.2.2
  | number w =>
    refine good_swap g ?_
    rw [h.2, if_pos rfl]
    exact isW_iff.1 (next_w h.1 h.2 ha.1 (by omega)).1
  | note j w hw hs => exact good_help g h.2.2.1 h.2.2.2
  | otake sl w => exact good_swap g (mv_word _ _ _ (isW_iff.1 h.2.2.1))
  | ohelp j sl w hw hs => exact good_help g h.2.2.2.2.2.1 h.2.2.2.2.2.2
  | onote sl w q => exact good_set g (isW_iff.1 h.2.2.2.2)
  | ostart sl w q => exact good_set g (mv_word _ _ _ (isW_iff.1 h.2.2.1))
  | lv lk ls st e h' n =>
    cases lk
    · exact g
    · exact good_swap g (mv_word _ _ _ (isW_iff.1 h))
  | _ => exact g
end
/-- Places of a machine's kind. -/
def tgM (M k : Nat) : List Tg := tgB (mcBlk M k 0 1 :: mcSubs M k 0 1)
/-- It is a machine's, and the memory. -/
def IsOw (M k : Nat) (x : List Atom) : Prop := ∃ u bo na wl T S K G Q l c s, x = mcOw M k u bo na wl ++ mA T S K G Q l c s
theorem isOw_of {M k : Nat} {X : List Atom} {T S K G Q : Int} {l c : Nat} {s : MS} (h : tagsOf X = some (tgM M k)) : IsOw M k (X ++ mA T S K G Q l c s) := by
  obtain ⟨u, bo, na, wl, e⟩ := atomsT_all h 0 0 0 0
  exact ⟨u, bo, na, wl, T, S, K, G, Q, l, c, s, by rw [e]; rfl⟩
/-- A machine's steps, to its end. -/
inductive MRun (M : Nat) : Nat → Nat × List Atom → List Atom → Prop
  | nil {x : List Atom} : IsOw M (mcDone M) x → MRun M 0 (mcDone M, x) x
  | cons {k n : Nat} {x y : List Atom} {r : Nat × List Atom} : k ≠ mcDone M → IsOw M k x → (mcT M k x).get = some r → MRun M n r y → MRun M (n + 1) (k, x) y
/-- What is said of where a machine stands. -/
structure AtOk (p : Pm) (a : Ar) (M : Nat) (f : Nat → List Atom → Tree (Nat × List Atom)) (At : Loc → Nat → List Atom → Prop) : Prop where
  f : ∀ k x, mcT M k x = f k x
  tag : ∀ x k X, VL p a x → At x k X → tagsOf X = some (tgM M k)
  done : ∀ e h n k X, At (.done e h n) k X → k = mcDone M
  fin : ∀ x X, VL p a x → At x (mcDone M) X → ∃ e h n, x = .done e h n
theorem mrun_of {M : Nat} {f : Nat → List Atom → Tree (Nat × List Atom)} {At : Loc → Nat → List Atom → Prop} {p : Pm} {a : Ar} (hA : AtOk p a M f At) (ha : 0 ≤ a.sl ∧ a.sl < p.S) (hk : a.kd = 0 ∨ a.kd = 1)
    (hsim : ∀ x k X s, p.good s.ws → VL p a x → At x k X → k ≠ mcDone M → Sim p f At k X s (locS p a s.ws x)) :
    ∀ (j : Nat) (x : Loc) (k : Nat) (X : List Atom) (s : MS) (e h n : Int) (ws' : List Int), p.good s.ws → VL p a x → At x k X → iterL p a j (x, s.ws) = (.done e h n, ws') →
      ∃ m Y s', m ≤ j ∧ MRun M m (k, X ++ p.mem s) (Y ++ p.mem s') ∧ At (.done e h n) (mcDone M) Y ∧ s'.ws = ws'
  | j, x, k, X, s, e, h, n, ws', g, hv, hat, hit => by
    by_cases hd : k = mcDone M
    · subst hd
      obtain ⟨e1, h1, n1, rfl⟩ := hA.fin x X hv hat
      rw [iterL_done] at hit
      simp only [Prod.mk.injEq, Loc.done.injEq] at hit
      obtain ⟨⟨rfl, rfl, rfl⟩, rfl⟩ := hit
      exact ⟨0, X, s, Nat.zero_le _, .nil (isOw_of (hA.tag _ _ _ hv hat)), hat, rfl⟩
    · obtain ⟨k', X', s', hget, hat', hws, _⟩ := hsim x k X s g hv hat hd
      cases j with
      | zero =>
        simp only [iterL, Prod.mk.injEq] at hit
        obtain ⟨rfl, _⟩ := hit
        exact absurd (hA.done _ _ _ _ _ hat) hd
      | succ j =>
        have hit2 : iterL p a j ((locS p a s.ws x).1, s'.ws) = (.done e h n, ws') := by rw [hws]; exact hit
        obtain ⟨m, Y, s2, hm, hr, hY, hw⟩ := mrun_of hA ha hk hsim j _ k' X' s' e h n ws' (by rw [hws]; exact step_good g x hv ha hk) (step_v g x hv ha) hat' hit2
        exact ⟨m + 1, Y, s2, by omega, .cons hd (isOw_of (hA.tag _ _ _ hv hat)) (by rw [hA.f]; exact hget) hr, hY, hw⟩
theorem at0_ok (p : Pm) (a : Ar) : AtOk p a 0 opF At0 := by
  refine ⟨fun k x => rfl, fun x k X hv h => ?_, fun e h n k X hh => hh.1, fun x X hv h => ?_⟩
  · cases x with
    | olook sl => obtain ⟨rfl, rfl⟩ := h; rfl
    | otake sl w => obtain ⟨rfl, rfl⟩ := h; rfl
    | otally sl w => obtain ⟨rfl, rfl⟩ := h; rfl
    | ohelp j sl w hw hs =>
      obtain ⟨rfl, rfl⟩ := h
      match j, hv.1 with
      | 0, _ => rfl
      | 1, _ => rfl
      | 2, _ => rfl
      | 3, _ => rfl
    | onote sl w q => obtain ⟨rfl, rfl⟩ := h; rfl
    | ostart sl w q => obtain ⟨rfl, rfl⟩ := h; rfl
    | done e hh n => obtain ⟨rfl, rfl⟩ := h; rfl
    | _ => exact h.elim
  · cases x with
    | done e hh n => exact ⟨_, _, _, rfl⟩
    | olook sl => exact absurd h.1 (by decide)
    | otake sl w => exact absurd h.1 (by decide)
    | otally sl w => exact absurd h.1 (by decide)
    | ohelp j sl w hw hs => have h1 : 9 = 3 + j := h.1; have h2 : j ≤ 3 := hv.1; omega
    | onote sl w q => exact absurd h.1 (by decide)
    | ostart sl w q => exact absurd h.1 (by decide)
    | _ => exact h.elim
theorem at1_ok (p : Pm) (a : Ar) : AtOk p a 1 rdF (At1 a) := by
  refine ⟨fun k x => rfl, fun x k X hv h => ?_, fun e h n k X hh => hh.1, fun x X hv h => ?_⟩
  · cases x with
    | en tk es => obtain ⟨rfl, ec, ew, rfl⟩ := h; rfl
    | snap => obtain ⟨rfl, rfl⟩ := h; rfl
    | look n => obtain ⟨rfl, rfl⟩ := h; rfl
    | mark n w => obtain ⟨rfl, rfl⟩ := h; rfl
    | join j n js l =>
      obtain ⟨rfl, at_, lc, ls, h1, h2, h3, rfl⟩ := h
      match j, hv.1 with
      | 0, _ => rfl
      | 1, _ => rfl
      | 2, _ => rfl
    | own lk n os l => obtain ⟨rfl, at_, lc, ls, h1, h2, h3, rfl⟩ := h; rfl
    | lv lk ls st e hh n => obtain ⟨rfl, _, _, rfl⟩ := h; rfl
    | done e hh n => obtain ⟨rfl, _, _, rfl⟩ := h; rfl
    | _ => exact h.elim
  · cases x with
    | done e hh n => exact ⟨_, _, _, rfl⟩
    | en tk es => exact absurd h.1 (by decide)
    | snap => exact absurd h.1 (by decide)
    | look n => exact absurd h.1 (by decide)
    | mark n w => exact absurd h.1 (by decide)
    | join j n js l => have h1 : 9 = 4 + j := h.1; have h2 : j ≤ 2 := hv.1; omega
    | own lk n os l => exact absurd h.1 (by decide)
    | lv lk ls st e hh n => exact absurd h.1 (by decide)
    | _ => exact h.elim
theorem at2_ok (p : Pm) (a : Ar) : AtOk p a 2 wrF (At2 a) := by
  refine ⟨fun k x => rfl, fun x k X hv h => ?_, fun e h n k X hh => hh.1, fun x X hv h => ?_⟩
  · cases x with
    | en tk es => obtain ⟨rfl, ec, ew, rfl⟩ := h; rfl
    | snap => obtain ⟨rfl, rfl⟩ := h; rfl
    | look n => obtain ⟨rfl, rfl⟩ := h; rfl
    | mark n w => obtain ⟨rfl, rfl⟩ := h; rfl
    | rival n w l => obtain ⟨rfl, oo, ls, h1, h2, h3, rfl⟩ := h; rfl
    | num n w l => obtain ⟨rfl, oo, ls, h1, h2, h3, rfl⟩ := h; rfl
    | join j n js l =>
      obtain ⟨rfl, oo, ls, h1, h2, h3, rfl⟩ := h
      match j, hv.1 with
      | 0, _ => rfl
      | 1, _ => rfl
      | 2, _ => rfl
    | own lk n os l => obtain ⟨rfl, oo, ls, h1, h2, h3, rfl⟩ := h; rfl
    | lv lk ls st e hh n => obtain ⟨rfl, _, _, rfl⟩ := h; rfl
    | done e hh n => obtain ⟨rfl, _, _, rfl⟩ := h; rfl
    | _ => exact h.elim
  · cases x with
    | done e hh n => exact ⟨_, _, _, rfl⟩
    | en tk es => exact absurd h.1 (by decide)
    | snap => exact absurd h.1 (by decide)
    | look n => exact absurd h.1 (by decide)
    | mark n w => exact absurd h.1 (by decide)
    | rival n w l => exact absurd h.1 (by decide)
    | num n w l => exact absurd h.1 (by decide)
    | join j n js l => have h1 : 11 = 6 + j := h.1; have h2 : j ≤ 2 := hv.1; omega
    | own lk n os l => exact absurd h.1 (by decide)
    | lv lk ls st e hh n => exact absurd h.1 (by decide)
    | _ => exact h.elim
theorem at3_ok (p : Pm) (a : Ar) : AtOk p a 3 cmF (At3 a) := by
  refine ⟨fun k x => rfl, fun x k X hv h => ?_, fun e h n k X hh => hh.1, fun x X hv h => ?_⟩
  · cases x with
    | en tk es => obtain ⟨rfl, ec, ew, rfl⟩ := h; rfl
    | judge => obtain ⟨rfl, rfl⟩ := h; rfl
    | doom w => obtain ⟨rfl, rfl⟩ := h; rfl
    | promise w => obtain ⟨rfl, rfl⟩ := h; rfl
    | count => obtain ⟨rfl, rfl⟩ := h; rfl
    | help j hw hs =>
      obtain ⟨rfl, rfl⟩ := h
      match j, hv.1 with
      | 0, _ => rfl
      | 1, _ => rfl
      | 2, _ => rfl
      | 3, _ => rfl
    | number w => obtain ⟨rfl, rfl⟩ := h; rfl
    | note j w hw hs =>
      obtain ⟨rfl, rfl⟩ := h
      match j, hv.1 with
      | 0, _ => rfl
      | 1, _ => rfl
      | 2, _ => rfl
      | 3, _ => rfl
    | lv lk ls st e hh n => obtain ⟨rfl, rfl⟩ := h; rfl
    | done e hh n => obtain ⟨rfl, rfl⟩ := h; rfl
    | _ => exact h.elim
  · cases x with
    | done e hh n => exact ⟨_, _, _, rfl⟩
    | en tk es => exact absurd h.1 (by decide)
    | judge => exact absurd h.1 (by decide)
    | doom w => exact absurd h.1 (by decide)
    | promise w => exact absurd h.1 (by decide)
    | count => exact absurd h.1 (by decide)
    | help j hw hs => have h1 : 15 = 5 + j := h.1; have h2 : j ≤ 3 := hv.1; omega
    | number w => exact absurd h.1 (by decide)
    | note j w hw hs => have h1 : 15 = 10 + j := h.1; have h2 : j ≤ 3 := hv.1; omega
    | lv lk ls st e hh n => exact absurd h.1 (by decide)
    | _ => exact h.elim
theorem at4_ok (p : Pm) (a : Ar) : AtOk p a 4 abF (At4 a) := by
  refine ⟨fun k x => rfl, fun x k X hv h => ?_, fun e h n k X hh => hh.1, fun x X hv h => ?_⟩
  · cases x with
    | en tk es => obtain ⟨rfl, ec, ew, rfl⟩ := h; rfl
    | abt => obtain ⟨rfl, rfl⟩ := h; rfl
    | lv lk ls st e hh n => obtain ⟨rfl, rfl⟩ := h; rfl
    | done e hh n => obtain ⟨rfl, rfl⟩ := h; rfl
    | _ => exact h.elim
  · cases x with
    | done e hh n => exact ⟨_, _, _, rfl⟩
    | en tk es => exact absurd h.1 (by decide)
    | abt => exact absurd h.1 (by decide)
    | lv lk ls st e hh n => exact absurd h.1 (by decide)
    | _ => exact h.elim
end Go.Proofs.YtifojacfedjedaaGreat.Bound
end

section
namespace Go.Proofs.YtifojacfedjedaaGreat.Bound
open Go.Proofs.YtifojacfedjedaaGreat.Ev Go.Proofs.YtifojacfedjedaaGreat.ChartMath
set_option linter.unusedVariables false
set_option linter.unusedSimpArgs false
section
variable {p : Pm} {a : Ar} {ws : List Int} {k o v : Int}
theorem cas_self (h : 0 ≤ cellOf p.T p.S p.K k o) : p.cas ws k o (p.at ws k o) = true := by unfold Pm.cas; rw [decide_eq_true h, beq_self_eq_true]; rfl
theorem at_cell (h : p.at ws k o ≠ 0) : 0 ≤ cellOf p.T p.S p.K k o := by
  by_cases hc : 0 ≤ cellOf p.T p.S p.K k o
  · exact hc
  · exact absurd (show lat p.T p.S p.K ws k o = 0 by unfold lat; rw [if_neg hc]) h
theorem swp_t {old : Int} {x y : Loc} (h : p.cas ws k o old = true) : p.swap ws k o old v x y = (x, p.set ws k o v) := by unfold Pm.swap; rw [h]; rfl
theorem swp_f {old : Int} {x y : Loc} (h : p.cas ws k o old = false) : p.swap ws k o old v x y = (y, ws) := by unfold Pm.swap; rw [h]; rfl
theorem cell_slot (g : p.good ws) (h0 : 0 ≤ o) (h1 : o < p.S) : 0 ≤ cellOf p.T p.S p.K 4 o := by have := g.cfg; rw [cell_st (by omega) (by omega) h0 h1]; omega
theorem cell_ky (g : p.good ws) (h0 : 0 ≤ o) (h1 : o < p.K) : 0 ≤ cellOf p.T p.S p.K 8 o := by
  obtain ⟨c1, c2, c3, c4, c5, c6⟩ := g.cfg
  rw [cell_key h0 h1]
  omega
theorem cell_tal : cellOf p.T p.S p.K 1 0 = 0 := by unfold cellOf; repeat' split; all_goals omega
theorem at_set (g : p.good ws) (h : 0 ≤ cellOf p.T p.S p.K k o) : p.at (p.set ws k o v) k o = v := lat_same h (g.cell k o)
theorem tal_ne (hT : 1 ≤ p.T) (hS : 0 ≤ p.S) (hk : k ≠ 1 ∨ o ≠ 0) (hk2 : 1 ≤ k) : cellOf p.T p.S p.K k o ≠ cellOf p.T p.S p.K 1 0 := by
  rw [cell_tal]
  unfold cellOf
  repeat' split
  all_goals omega
/-- How an operation that has entered may end. -/
def Qm (p : Pm) (a : Ar) (e h n : Int) (ws : List Int) : Prop := (e = 0 ∨ e = 6) ∨ ((e = 7 ∨ e = 8) ∧ stI (p.at ws 4 a.sl) = 5)
variable (ha : 0 ≤ a.sl ∧ a.sl < p.S)
include ha
theorem t_lvT {w st e h n : Int} {Q : Int → Int → Int → List Int → Prop} (g : p.good ws) (hw : w = p.at ws 4 a.sl) (hq : Q e h n (p.set ws 4 a.sl (moveI w (bif decide (st < 0) || decide (st > 7) then stI w else st) false))) : EndsL p a 1 (.lv true w st e h n) ws Q := by
  have hc := cell_slot g ha.1 ha.2
  refine EndsL.step (r := (.done e h n, p.set ws 4 a.sl (moveI w (bif decide (st < 0) || decide (st > 7) then stI w else st) false))) ?_ (EndsL.done ?_ hq)
  · simp only [locS, cond_true, cond_false]
    exact swp_t (by rw [hw]; exact cas_self hc)
  · exact good_set g (mv_word _ _ _ (by rw [hw]; exact g.lat _ _))
theorem t_lv {ls st e h n : Int} {Q : Int → Int → Int → List Int → Prop} (g : p.good ws) (hq : Q e h n (p.set ws 4 a.sl (moveI (p.at ws 4 a.sl) (bif decide (st < 0) || decide (st > 7) then stI (p.at ws 4 a.sl) else st) false))) : EndsL p a 2 (.lv false ls st e h n) ws Q :=
  EndsL.step rfl (t_lvT ha g rfl hq)
theorem t_ok (g : p.good ws) : EndsL p a 2 lvOk ws (Qm p a) := t_lv ha g (.inl (.inl rfl))
theorem t_no {e : Int} (g : p.good ws) (he : e = 6 ∨ e = 7 ∨ e = 8) : EndsL p a 2 (lvNo e) ws (Qm p a) := by
  refine t_lv ha g ?_
  rcases he with rfl | he
  · exact .inl (.inr rfl)
  · refine .inr ⟨he, ?_⟩
    rw [at_set g (cell_slot g ha.1 ha.2)]
    exact mv_st (p.at ws 4 a.sl) 5 false (by decide)
theorem t_next {n : Int} (hk : a.kd = 0 ∨ a.kd = 1) : ∀ (l : List Int) (ws : List Int), p.good ws → slotsOk l → EndsL p a (5 * l.length + 2) (nextO n l) ws (Qm p a)
  | [], ws, g, _ => t_ok ha g
  | x :: r, ws, g, hs => by
    have hc := g.cfg
    have hx := hs x (by simp)
    have hr : slotsOk r := fun y hy => hs y (List.mem_cons_of_mem _ hy)
    have own : ∀ (ws : List Int) (os : Int), p.good ws → EndsL p a (5 * r.length + 2 + 2) (.own false n os (x :: r)) ws (Qm p a) := by
      intro ws os g
      refine EndsL.step (m := 5 * r.length + 2 + 1) rfl ?_
      simp only [locS, cond_true, cond_false, List.headD_cons, List.tail_cons]
      rcases bool_two (putI (p.at ws 4 a.sl) (12 * a.kd + x) true == p.at ws 4 a.sl) with q | q
      · rw [q]
        exact (t_next hk r ws g hr).mono (by omega) fun _ _ _ _ h => h
      · rw [q]
        refine EndsL.step (m := 5 * r.length + 2) (r := (nextO n r, p.set ws 4 a.sl (putI (p.at ws 4 a.sl) (12 * a.kd + x) true))) ?_ (t_next hk r _ (good_set g (put_w (g.isW _ _) (by omega) (by omega))) hr)
        show p.swap ws 4 a.sl _ _ _ _ = _
        exact swp_t (cas_self (cell_slot g ha.1 ha.2))
    have judge : ∀ (ws : List Int), p.good ws → stI (p.at ws 4 x) ≠ 0 → EndsL p a (5 * r.length + 2 + 3) (judgeJ a n (p.at ws 4 x) (x :: r)) ws (Qm p a) := by
      intro ws g hst
      unfold judgeJ
      rcases bool_two (bitI (p.at ws 4 x) (12 * (1 - a.kd) + a.sl)) with q | q
      · rw [q]
        exact (own ws 0 g).mono (by omega) fun _ _ _ _ h => h
      · rw [q]
        rcases bool_two (stI (p.at ws 4 x) != 2 && anyB (p.at ws 4 x) a.kd) with q2 | q2
        · rw [q2]
          exact (t_no ha g (.inr (.inl rfl))).mono (by omega) fun _ _ _ _ h => h
        · rw [q2]
          have hcell : 0 ≤ cellOf p.T p.S p.K 4 x := at_cell (fun e => hst (by rw [e]; rfl))
          refine EndsL.step (m := 5 * r.length + 2 + 2) (r := (.own false n 0 (x :: r), p.set ws 4 x (putI (p.at ws 4 x) (12 * (1 - a.kd) + a.sl) true))) ?_ (own _ 0 (good_set g (put_w (g.isW _ _) (by omega) (by omega))))
          show p.swap ws 4 x _ _ _ _ = _
          exact swp_t (cas_self hcell)
    show EndsL p a (5 * (r.length + 1) + 2) (.join 0 n 0 (x :: r)) ws (Qm p a)
    refine EndsL.step (m := 5 * r.length + 2 + 4) rfl ?_
    simp only [locS, cond_true, cond_false, List.headD_cons, List.tail_cons]
    rcases bool_two (stI (p.at ws 4 x) == 4) with q1 | q1
    · rw [q1]
      refine EndsL.step (m := 5 * r.length + 2 + 3) rfl ?_
      show EndsL p a (5 * r.length + 2 + 3) (bif p.at ws 6 x != 0 && decide (p.at ws 6 x ≤ n) then nextO n r else judgeJ a n (p.at ws 4 x) (x :: r)) ws (Qm p a)
      rcases bool_two (p.at ws 6 x != 0 && decide (p.at ws 6 x ≤ n)) with q2 | q2
      · rw [q2]
        exact (t_next hk r ws g hr).mono (by omega) fun _ _ _ _ h => h
      · rw [q2]
        exact judge ws g (by have := eq_of_beq q1; omega)
    · rw [q1]
      rcases bool_two (stI (p.at ws 4 x) == 2) with q2 | q2
      · rw [q2]
        exact (judge ws g (by have := eq_of_beq q2; omega)).mono (by omega) fun _ _ _ _ h => h
      · rw [q2]
        rcases bool_two (stI (p.at ws 4 x) == 3) with q3 | q3
        · rw [q3]
          exact (judge ws g (by have := eq_of_beq q3; omega)).mono (by omega) fun _ _ _ _ h => h
        · rw [q3]
          exact (t_next hk r ws g hr).mono (by omega) fun _ _ _ _ h => h
theorem t_found {n w : Int} (hk : a.kd = 0 ∨ a.kd = 1) (g : p.good ws) : EndsL p a 62 (foundL a n w) ws (Qm p a) :=
  (t_next ha hk _ ws g (othL_slots _ _ _)).mono (by have := othL_len w (1 - a.kd) a.sl; omega) fun _ _ _ _ h => h
theorem t_goes {n w : Int} (hk : a.kd = 0 ∨ a.kd = 1) (g : p.good ws) (hw : w = p.at ws 8 a.ky) (hky : 0 ≤ a.ky ∧ a.ky < p.K) : ∀ (l : List Int), EndsL p a (2 * l.length + 63) (goesL a n w l) ws (Qm p a)
  | [] => by
    show EndsL p a 63 (bif _ then _ else _) ws (Qm p a)
    rcases bool_two (bitI w (12 * a.kd + a.sl)) with q | q
    · rw [q]
      exact (t_found ha hk g).mono (by omega) fun _ _ _ _ h => h
    · rw [q]
      have hc := g.cfg
      refine EndsL.step (m := 62) (r := (foundL a n w, p.set ws 8 a.ky (putI w (12 * a.kd + a.sl) true))) ?_ (t_found ha hk (good_set g (put_w (by rw [hw]; exact g.isW _ _) (by omega) (by omega))))
      show p.swap ws 8 a.ky _ _ _ _ = _
      exact swp_t (by rw [hw]; exact cas_self (cell_ky g hky.1 hky.2))
  | x :: r => by
    show EndsL p a (2 * r.length + 65) (.rival n w (x :: r)) ws (Qm p a)
    refine EndsL.step (m := 2 * r.length + 64) rfl ?_
    simp only [locS, cond_true, cond_false, List.headD_cons, List.tail_cons]
    rcases bool_two (stI (p.at ws 4 x) == 2) with q1 | q1
    · rw [q1]
      exact (t_no ha g (.inr (.inr rfl))).mono (by omega) fun _ _ _ _ h => h
    rw [q1]
    rcases bool_two (stI (p.at ws 4 x) == 3) with q2 | q2
    · rw [q2]
      exact (t_no ha g (.inr (.inr rfl))).mono (by omega) fun _ _ _ _ h => h
    rw [q2]
    rcases bool_two (stI (p.at ws 4 x) == 4) with q3 | q3
    · rw [q3]
      refine EndsL.step (m := 2 * r.length + 63) rfl ?_
      show EndsL p a (2 * r.length + 63) (bif p.at ws 6 x != 0 && decide (p.at ws 6 x ≤ n) then goesL a n w r else lvNo 8) ws (Qm p a)
      rcases bool_two (p.at ws 6 x != 0 && decide (p.at ws 6 x ≤ n)) with q4 | q4
      · rw [q4]
        exact t_goes hk g hw hky r
      · rw [q4]
        exact (t_no ha g (.inr (.inr rfl))).mono (by omega) fun _ _ _ _ h => h
    · rw [q3]
      exact (t_goes hk g hw hky r).mono (by omega) fun _ _ _ _ h => h
theorem t_snap (hk : a.kd = 0 ∨ a.kd = 1) (g : p.good ws) (hky : 0 ≤ a.ky ∧ a.ky < p.K) : EndsL p a 89 .snap ws (Qm p a) := by
  refine EndsL.step (m := 88) rfl ?_
  refine EndsL.step (m := 87) rfl ?_
  simp only [locS, cond_true, cond_false]
  refine (t_goes ha hk g rfl hky _).mono ?_ fun _ _ _ _ h => h
  split
  · exact Nat.le_of_lt (by simp)
  · have := othL_len (p.at ws 8 a.ky) 1 a.sl
    omega
/-- A help ends. -/
theorem t_help {hw : Int} {b : Nat → Int → Loc} {z : Loc} {m : Nat} {Q : Int → Int → Int → List Int → Prop} (g : p.good ws) (hb : ∀ j s ws, locS p a ws (b j s) = helpL p ws hw s b z j) (ht : hw = p.at ws 1 0)
    (hz : ∀ ws, p.good ws → p.at ws 1 0 = setI hw → EndsL p a m z ws Q) : EndsL p a (m + 4) (b 0 0) ws Q := by
  have _h := ha
  have hc := g.cfg
  have hW := isW_iff.1 (show isW hw = true by rw [ht]; exact g.isW _ _)
  have keep : ∀ (ws : List Int) (k v : Int), k = 4 ∨ k = 6 → p.at ws 1 0 = hw → p.at (p.set ws k (hw % 16 - 1) v) 1 0 = hw := by
    intro ws k v hk e
    rw [← e]
    exact lat_other (tal_ne (by omega) (by omega) (by omega) (by omega))
  have fin : ∀ (ws : List Int) (s : Int), p.good ws → p.at ws 1 0 = hw → EndsL p a (m + 1) (b 3 s) ws Q := by
    intro ws s g e
    refine EndsL.step (r := (z, p.set ws 1 0 (setI hw))) ?_ (hz _ (good_set (k := 1) (o := 0) (v := setI hw) g (by unfold setI; omega)) (at_set g (by rw [cell_tal]; omega)))
    rw [hb]
    exact swp_t (by rw [← e]; exact cas_self (by rw [cell_tal]; omega))
  have look : ∀ (ws : List Int) (s : Int), p.good ws → p.at ws 1 0 = hw → EndsL p a (m + 3) (b 1 s) ws Q := by
    intro ws s g e
    refine EndsL.step (m := m + 2) (hb _ _ _) ?_
    simp only [helpL]
    rcases bool_two (stI (p.at ws 4 (hw % 16 - 1)) == 3) with q | q
    · rw [q]
      have hcell : 0 ≤ cellOf p.T p.S p.K 4 (hw % 16 - 1) := at_cell (fun e => by rw [e] at q; exact absurd q (by decide))
      refine EndsL.step (m := m + 1) (r := (b 3 (p.at ws 4 (hw % 16 - 1)), p.set ws 4 (hw % 16 - 1) (moveI (p.at ws 4 (hw % 16 - 1)) 4 (bitI (p.at ws 4 (hw % 16 - 1)) 26)))) ?_ (fin _ _ (good_set g (mv_word _ _ _ (g.lat _ _))) (keep _ _ _ (.inl rfl) e))
      rw [cond_true, hb]
      exact swp_t (cas_self hcell)
    · rw [q]
      exact (fin ws _ g e).mono (by omega) fun _ _ _ _ h => h
  refine EndsL.step (m := m + 3) (hb _ _ _) ?_
  show EndsL p a (m + 3) (p.swap ws 6 (hw % 16 - 1) 0 (hw / 16) (b 1 0) (b 1 0)).1 (p.swap ws 6 (hw % 16 - 1) 0 (hw / 16) (b 1 0) (b 1 0)).2 Q
  rcases bool_two (p.cas ws 6 (hw % 16 - 1) 0) with q | q
  · rw [swp_t q]
    exact look _ _ (good_set (v := hw / 16) g (by omega)) (keep _ _ _ (.inr rfl) ht.symm)
  · rw [swp_f q]
    exact look _ _ g ht.symm
theorem t_count0 (g : p.good ws) (ht : ¬ p.at ws 1 0 % 16 - 1 ≥ 0) : EndsL p a 8 .count ws (Qm p a) := by
  have hc := g.cfg
  refine EndsL.step (m := 7) rfl ?_
  simp only [locS, decide_eq_false ht, cond_false]
  rcases bool_two (decide (p.at ws 1 0 / 16 ≥ p.Q)) with q1 | q1
  · rw [q1]
    exact (t_no ha g (.inl rfl)).mono (by omega) fun _ _ _ _ h => h
  rw [q1]
  rcases bool_two (nextB (p.at ws 1 0)) with q2 | q2
  · have hn := next_w (a := a) (g.isW 1 0) q2 ha.1 (by omega)
    rw [q2]
    refine EndsL.step (m := 6) (r := (.note 0 (p.at ws 1 0) (nextI (p.at ws 1 0) a.sl) 0, p.set ws 1 0 (nextI (p.at ws 1 0) a.sl))) ?_ ?_
    · simp only [cond_false, cond_true, locS, q2, if_true]
      exact swp_t (cas_self (by rw [cell_tal]; omega))
    · refine t_help (m := 2) ha (b := fun j s => .note j (p.at ws 1 0) (nextI (p.at ws 1 0) a.sl) s) (good_set (k := 1) (o := 0) g (isW_iff.1 hn.1)) (fun j s ws => rfl) (at_set g (by rw [cell_tal]; omega)).symm (fun ws' g' _ => t_lv ha g' (.inl (.inl rfl)))
  · rw [q2]
    exact (t_no ha g (.inl rfl)).mono (by omega) fun _ _ _ _ h => h
theorem t_count (g : p.good ws) : EndsL p a 13 .count ws (Qm p a) := by
  by_cases ht : p.at ws 1 0 % 16 - 1 ≥ 0
  · refine EndsL.step (m := 12) rfl ?_
    simp only [locS, decide_eq_true ht, cond_true]
    exact t_help (m := 8) ha (b := fun j s => .help j (p.at ws 1 0) s) g (fun j s ws => rfl) rfl (fun ws' g' e => t_count0 ha g' (by rw [e]; unfold setI; omega))
  · exact (t_count0 ha g ht).mono (by omega) fun _ _ _ _ h => h
theorem t_judge (g : p.good ws) : EndsL p a 15 .judge ws (Qm p a) := by
  have hc := cell_slot g ha.1 ha.2
  refine EndsL.step (m := 14) rfl ?_
  simp only [locS, cond_true, cond_false]
  rcases bool_two (anyB (p.at ws 4 a.sl) 0 && anyB (p.at ws 4 a.sl) 1) with q | q
  · rw [q]
    refine (EndsL.step (m := 0) (r := (.done 7 0 0, p.set ws 4 a.sl (moveI (p.at ws 4 a.sl) 5 false))) ?_ (EndsL.done (good_set g (mv_word _ _ _ (g.lat _ _))) (.inr ⟨.inl rfl, ?_⟩))).mono (by omega) fun _ _ _ _ h => h
    · show p.swap ws 4 a.sl _ _ _ _ = _
      exact swp_t (cas_self hc)
    · rw [at_set g hc]
      exact mv_st _ _ _ (by decide)
  · rw [q]
    refine EndsL.step (m := 13) (r := (.count, p.set ws 4 a.sl (moveI (p.at ws 4 a.sl) 3 true))) ?_ (t_count ha (good_set g (mv_word _ _ _ (g.lat _ _))))
    show p.swap ws 4 a.sl _ _ _ _ = _
    exact swp_t (cas_self hc)
theorem t_abt (g : p.good ws) : EndsL p a 2 .abt ws (Qm p a) := EndsL.step rfl (t_lvT ha g rfl (.inl (.inl rfl)))
theorem t_fst (hk : a.kd = 0 ∨ a.kd = 1) (g : p.good ws) (hky : a.M = 1 ∨ a.M = 2 → 0 ≤ a.ky ∧ a.ky < p.K) (hM : 1 ≤ a.M ∧ a.M ≤ 4) : EndsL p a 89 (fstL a) ws (Qm p a) := by
  unfold fstL
  split
  · exact (t_judge ha g).mono (by omega) fun _ _ _ _ h => h
  · split
    · exact (t_abt ha g).mono (by omega) fun _ _ _ _ h => h
    · exact t_snap ha hk g (hky (by omega))
/-- How an operation of a transaction ends, alone. -/
def Qe (p : Pm) (a : Ar) (ws0 : List Int) (e h n : Int) (ws : List Int) : Prop := Qm p a e h n ws ∨ ((e = 2 ∨ e = 3 ∨ e = 4) ∧ ws = ws0)
theorem t_en {es : Int} (hk : a.kd = 0 ∨ a.kd = 1) (g : p.good ws) (hky : a.M = 1 ∨ a.M = 2 → 0 ≤ a.ky ∧ a.ky < p.K) (hM : 1 ≤ a.M ∧ a.M ≤ 4) : EndsL p a 91 (.en false es) ws (Qe p a ws) := by
  have hc := cell_slot g ha.1 ha.2
  refine EndsL.step (m := 90) rfl ?_
  simp only [locS, cond_true, cond_false]
  have no : ∀ e : Int, e = 2 ∨ e = 3 ∨ e = 4 → EndsL p a 90 (.done e 0 0) ws (Qe p a ws) := fun e he => (EndsL.done (Q := Qe p a ws) g (.inr ⟨he, rfl⟩)).mono (by omega) fun _ _ _ _ h => h
  rcases bool_two (gnI (p.at ws 4 a.sl) != genI a.eh) with q1 | q1
  · rw [q1]; exact no 2 (.inl rfl)
  rw [q1]
  rcases bool_two (stI (p.at ws 4 a.sl) == 0) with q2 | q2
  · rw [q2]; exact no 2 (.inl rfl)
  rw [q2]
  rcases bool_two (stI (p.at ws 4 a.sl) == 1) with q3 | q3
  · rw [q3]; exact no 2 (.inl rfl)
  rw [q3]
  rcases bool_two (bitI (p.at ws 4 a.sl) 26) with q4 | q4
  · rw [q4]; exact no 3 (.inr (.inl rfl))
  rw [q4]
  rcases bool_two (stI (p.at ws 4 a.sl) == 2) with q5 | q5
  · rw [q5]
    refine EndsL.step (m := 89) (r := (fstL a, p.set ws 4 a.sl (moveI (p.at ws 4 a.sl) (stI (p.at ws 4 a.sl)) true))) ?_ ((t_fst ha hk (good_set g (mv_word _ _ _ (g.lat _ _))) hky hM).mono (Nat.le_refl _) fun _ _ _ _ h => .inl h)
    show p.swap ws 4 a.sl _ _ _ _ = _
    exact swp_t (cas_self hc)
  · rw [q5]; exact no 4 (.inr (.inr rfl))
end
section
variable {p : Pm} {a : Ar} {ws : List Int}
/-- How a Begin ends, alone. -/
def Qo (e h n : Int) (ws : List Int) : Prop := e = 0 ∨ e = 6
theorem t_onote {sl w q : Int} (g : p.good ws) (hw : isW w = true) (hq : isW q = true) : EndsL p a 2 (.onote sl w q) ws Qo :=
  EndsL.step rfl (EndsL.step rfl (EndsL.done (good_set (good_set g (isW_iff.1 hq)) (mv_word _ _ _ (isW_iff.1 hw))) (.inl rfl)))
theorem t_otally0 {sl w : Int} (g : p.good ws) (hw : isW w = true) (ht : ¬ p.at ws 1 0 % 16 - 1 ≥ 0) : EndsL p a 3 (.otally sl w) ws Qo := by
  refine EndsL.step (m := 2) rfl ?_
  simp only [locS, decide_eq_false ht, cond_false]
  have := isW_iff.1 (show isW (p.at ws 1 0) = true from g.isW 1 0)
  exact t_onote g hw (isW_iff.2 (by omega))
theorem t_otally {sl w : Int} (ha : 0 ≤ a.sl ∧ a.sl < p.S) (g : p.good ws) (hw : isW w = true) : EndsL p a 8 (.otally sl w) ws Qo := by
  by_cases ht : p.at ws 1 0 % 16 - 1 ≥ 0
  · refine EndsL.step (m := 7) rfl ?_
    simp only [locS, decide_eq_true ht, cond_true]
    exact t_help (m := 3) ha (b := fun j s => .ohelp j sl w (p.at ws 1 0) s) g (fun j s ws => rfl) rfl (fun ws' g' e => t_otally0 g' hw (by rw [e]; unfold setI; omega))
  · exact (t_otally0 g hw ht).mono (by omega) fun _ _ _ _ h => h
theorem t_open (ha : 0 ≤ a.sl ∧ a.sl < p.S) (g : p.good ws) : ∀ (m : Nat) (sl : Int), 0 ≤ sl → sl + m = p.S → EndsL p a (m + 9) (if sl ≥ p.S then .done 6 0 0 else .olook sl) ws Qo
  | 0, sl, h0, hm => by
    rw [if_pos (by omega)]
    exact (EndsL.done g (.inr rfl)).mono (by omega) fun _ _ _ _ h => h
  | m + 1, sl, h0, hm => by
    rw [if_neg (by omega)]
    have go : EndsL p a (m + 9) (ogoes p sl) ws Qo := by
      have := t_open ha g m (sl + 1) (by omega) (by omega)
      exact this
    refine EndsL.step (m := m + 9) rfl ?_
    simp only [locS, cond_true, cond_false]
    rcases bool_two (stI (p.at ws 4 sl) != 0) with q1 | q1
    · rw [q1]; exact go
    rw [q1]
    rcases bool_two (decide (gnI (p.at ws 4 sl) > p.G)) with q2 | q2
    · rw [q2]; exact go
    rw [q2]
    refine (EndsL.step (m := 8) (r := (.otally sl (p.at ws 4 sl), p.set ws 4 sl (moveI (p.at ws 4 sl) 1 false))) ?_ (t_otally ha (good_set g (mv_word _ _ _ (g.lat _ _))) (g.isW _ _))).mono (by omega) fun _ _ _ _ h => h
    show p.swap ws 4 sl _ _ _ _ = _
    exact swp_t (cas_self (cell_slot g h0 (by omega)))
end
end Go.Proofs.YtifojacfedjedaaGreat.Bound
end

section
namespace Go.Proofs.YtifojacfedjedaaGreat.Bound
open Go.Proofs.YtifojacfedjedaaGreat.Ev Go.Proofs.YtifojacfedjedaaGreat.ChartMath
set_option linter.unusedVariables false
set_option linter.unusedSimpArgs false
/-- Whether atoms have some places. -/
def hasTg : List Atom → List Tg → Bool
  | [], [] => true
  | .i _ :: x, .i :: l => hasTg x l
  | .b _ :: x, .b :: l => hasTg x l
  | .n _ :: x, .n :: l => hasTg x l
  | .ws _ :: x, .w :: l => hasTg x l
  | _, _ => false
theorem hasTg_ok : ∀ {x : List Atom} {l : List Tg}, hasTg x l = true → tagsOf x = some l
  | [], [], _ => rfl
  | .i _ :: x, .i :: l, h => by simp only [tagsOf]; rw [hasTg_ok (show hasTg x l = true from h)]; rfl
  | .b _ :: x, .b :: l, h => by simp only [tagsOf]; rw [hasTg_ok (show hasTg x l = true from h)]; rfl
  | .n _ :: x, .n :: l, h => by simp only [tagsOf]; rw [hasTg_ok (show hasTg x l = true from h)]; rfl
  | .ws _ :: x, .w :: l, h => by simp only [tagsOf]; rw [hasTg_ok (show hasTg x l = true from h)]; rfl
theorem hasTg_app : ∀ {l1 l2 : List Tg} {x : List Atom}, hasTg x (l1 ++ l2) = true → ∃ x1 x2, x = x1 ++ x2 ∧ hasTg x1 l1 = true ∧ hasTg x2 l2 = true
  | [], l2, x, h => ⟨[], x, rfl, rfl, h⟩
  | .i :: l1, l2, .i v :: x, h => by
    obtain ⟨a, b, rfl, h1, h2⟩ := hasTg_app (l1 := l1) (l2 := l2) (x := x) h
    exact ⟨.i v :: a, b, rfl, h1, h2⟩
  | .b :: l1, l2, .b v :: x, h => by
    obtain ⟨a, b, rfl, h1, h2⟩ := hasTg_app (l1 := l1) (l2 := l2) (x := x) h
    exact ⟨.b v :: a, b, rfl, h1, h2⟩
  | .n :: l1, l2, .n v :: x, h => by
    obtain ⟨a, b, rfl, h1, h2⟩ := hasTg_app (l1 := l1) (l2 := l2) (x := x) h
    exact ⟨.n v :: a, b, rfl, h1, h2⟩
  | .w :: l1, l2, .ws v :: x, h => by
    obtain ⟨a, b, rfl, h1, h2⟩ := hasTg_app (l1 := l1) (l2 := l2) (x := x) h
    exact ⟨.ws v :: a, b, rfl, h1, h2⟩
def tgMem : List Tg := [.i, .i, .i, .i, .i, .n, .n, .i, .i, .i, .i, .i, .b, .i, .w]
theorem tgMem_is {x : List Atom} (h : hasTg x tgMem = true) : ∃ T S K G Q l c s, x = mA T S K G Q l c s := by
  match x, h with
  | [.i T, .i S, .i K, .i G, .i Q, .n l, .n c, .i tk, .i ts, .i to, .i told, .i tnew, .b td, .i many, .ws ws], _ => exact ⟨T, S, K, G, Q, l, c, ⟨ws, many, tk, ts, to, told, tnew, td⟩, rfl⟩
theorem isOw_tg {M k : Nat} {x : List Atom} (h : hasTg x (tgM M k ++ tgMem) = true) : IsOw M k x := by
  obtain ⟨x1, x2, rfl, h1, h2⟩ := hasTg_app h
  obtain ⟨T, S, K, G, Q, l, c, s, rfl⟩ := tgMem_is h2
  exact isOw_of (hasTg_ok h1)
theorem isOw_sw {k : Nat} {x : List Atom} {r : Nat × List Atom} (h : stepK (k, x) = some r) : IsOw 5 k x := by
  unfold stepK at h
  match k, h with
  | 0, h => change (so_enter x).get = some r at h; unfold so_enter at h; split at h; exact isOw_tg rfl; cases h
  | 1, h => change (so_number x).get = some r at h; unfold so_number at h; split at h; exact isOw_tg rfl; cases h
  | 2, h => change (so_agedL x).get = some r at h; unfold so_agedL at h; split at h; exact isOw_tg rfl; cases h
  | 3, h => change (so_agedS x).get = some r at h; unfold so_agedS at h; split at h; exact isOw_tg rfl; cases h
  | 4, h => change (so_die x).get = some r at h; unfold so_die at h; split at h; exact isOw_tg rfl; cases h
  | 5, h => change (so_dead x).get = some r at h; unfold so_dead at h; split at h; exact isOw_tg rfl; cases h
  | 6, h => change (so_tick x).get = some r at h; unfold so_tick at h; split at h; exact isOw_tg rfl; cases h
  | 7, h => change (so_note x).get = some r at h; unfold so_note at h; split at h; exact isOw_tg rfl; cases h
  | 8, h => change (so_retired x).get = some r at h; unfold so_retired at h; split at h; exact isOw_tg rfl; cases h
  | 9, h => change (so_grace x).get = some r at h; unfold so_grace at h; split at h; exact isOw_tg rfl; cases h
  | 10, h => change (so_keys x).get = some r at h; unfold so_keys at h; split at h; exact isOw_tg rfl; cases h
  | 11, h => change (so_unmark x).get = some r at h; unfold so_unmark at h; split at h; exact isOw_tg rfl; cases h
  | 12, h => change (so_past x).get = some r at h; unfold so_past at h; split at h; exact isOw_tg rfl; cases h
  | 13, h => change (so_others x).get = some r at h; unfold so_others at h; split at h; exact isOw_tg rfl; cases h
  | 14, h => change (so_part x).get = some r at h; unfold so_part at h; split at h; exact isOw_tg rfl; cases h
  | 15, h => change (so_close x).get = some r at h; unfold so_close at h; split at h; exact isOw_tg rfl; cases h
  | 16, h => change (so_closed x).get = some r at h; unfold so_closed at h; split at h; exact isOw_tg rfl; cases h
  | 17, h => change (so_nought x).get = some r at h; unfold so_nought at h; split at h; exact isOw_tg rfl; cases h
  | 18, h => change (so_free x).get = some r at h; unfold so_free at h; split at h; exact isOw_tg rfl; cases h
  | 19, h => change (so_later x).get = some r at h; unfold so_later at h; split at h; exact isOw_tg rfl; cases h
  | 20, h => change (so_done x).get = some r at h; unfold so_done at h; split at h; exact isOw_tg rfl; cases h
  | n + 21, h => simp [soL, nthD] at h
theorem mrun_sw : ∀ (f k n : Nat) (x y : List Atom), runK f (k, x) = some (n, y) → IsOw 5 20 y → MRun 5 n (k, x) y
  | 0, k, n, x, y, h, _ => by cases h
  | f + 1, k, n, x, y, h, hy => by
    unfold runK at h
    cases hb : Nat.beq k 20 with
    | true =>
      rw [hb, cond_true] at h
      simp only [Option.some.injEq, Prod.mk.injEq] at h
      obtain ⟨rfl, rfl⟩ := h
      obtain rfl := Nat.eq_of_beq_eq_true hb
      exact .nil hy
    | false =>
      rw [hb, cond_false] at h
      cases hs : stepK (k, x) with
      | none => rw [hs] at h; cases h
      | some r =>
        rw [hs] at h
        simp only at h
        cases hr : runK f r with
        | none => rw [hr] at h; cases h
        | some q =>
          obtain ⟨m, z⟩ := q
          rw [hr] at h
          simp only [Option.some.injEq, Prod.mk.injEq] at h
          obtain ⟨rfl, rfl⟩ := h
          exact .cons (fun e => by rw [e] at hb; exact absurd hb (by decide)) (isOw_sw hs) hs (mrun_sw f r.1 m r.2 z hr hy)
theorem mrun_swE {p : Pm} {m : Nat} {st : Nat × List Atom} {e : Int} {ws : List Int} (h : Bound.Ends p m st e ws) : ∃ n s', n ≤ m ∧ MRun 5 n st ([.i e] ++ p.mem s') ∧ s'.ws = ws := by
  obtain ⟨n, s', hn, hw, hr⟩ := h
  exact ⟨n, s', hn, mrun_sw (n + 1) st.1 n st.2 _ (hr _ (Nat.lt_succ_self n)) ⟨fun _ => e, fun _ => false, fun _ => 0, fun _ => [], p.T, p.S, p.K, p.G, p.Q, p.l, p.c, s', rfl⟩, hw⟩
end Go.Proofs.YtifojacfedjedaaGreat.Bound
end
