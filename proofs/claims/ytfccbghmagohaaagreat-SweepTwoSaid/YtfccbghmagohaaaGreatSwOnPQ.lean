/- A sweep that is done again: what it comes to. No condition. -/
import Derived.Test.YtfccbghmagohaaaGreatSwPC
namespace Go.Proofs.YtfccbghmagohaaaGreat.Bound
open Go.Proofs.YtfccbghmagohaaaGreat.Ev Go.Proofs.YtfccbghmagohaaaGreat.ChartMath
set_option linter.unusedVariables false
set_option linter.unusedSimpArgs false
theorem mv_gn (w st : Int) (b : Bool) (h : 0 ≤ w ∧ w < 18446744073709551616) : gnI (moveI w st b) = gnI w := by
  unfold moveI gnI; split <;> omega
theorem new_gn {g : Int} (h0 : 0 ≤ g) (h1 : g ≤ 1073741824) : gnI (newI 0 g) = g := by unfold gnI newI; omega
section
variable {p : Pm} (hp : p.Ok)
include hp
theorem retire_st {ws : List Int} (h : p.good ws) (st : Int) : p.at (retireW p ws st) 4 p.sl = moveI (p.at ws 4 p.sl) st false := by
  unfold retireW noteW
  rw [at_ne (ne_slot hp (j := 7) (by omega) hp.s0 hp.s1 (.inl (by omega))), at_ne (ne_ep hp h.cfg.1), at_st hp h]
theorem drop_st {ws : List Int} (h : p.good ws) : p.at (dropW2 p ws) 4 p.sl = p.at ws 4 p.sl := drop_at hp h (by omega) (fun _ => rfl) (fun _ => ⟨by omega, hp.s0, hp.s1⟩)
theorem final_st {ws : List Int} (h : p.good ws) : p.at (finalW p ws) 4 p.sl = newI 0 (p.gn + 1) := by
  have h6 : p.good (p.set ws 6 p.sl 0) := h.lset (by omega) _ _
  exact at_st hp h6 _
/-- What is in a state is ready for it. -/
theorem swept_at {ws : List Int} {st : Int} (h1 : gnI (p.at ws 4 p.sl) = p.gn) (h2 : stI (p.at ws 4 p.sl) = st) (h3 : bitI (p.at ws 4 p.sl) 26 = false) (h4 : 5 ≤ st) : sweptI p ws = if st = 7 then endT p ws (p.at ws 7 p.sl) else if st = 6 then endB p ws (p.at ws 7 p.sl) else endB p (retireW p ws 6) (p.at ws 2 0) := by
  have _h0 := hp
  unfold sweptI
  rw [if_neg (by rintro (x | x | x); exact x h1; omega; omega), if_neg (by rw [h3]; simp), if_neg (by omega), if_neg (by omega), h2]
theorem endT_cases (ws : List Int) (r : Int) : (endT p ws r = (9, ws) ∧ heldI p ws r = true) ∨ (endT p ws r = (0, finalW p ws)) := by
  have _h0 := hp
  unfold endT
  by_cases e : heldI p ws r = true
  · rw [if_pos e]; exact .inl ⟨rfl, e⟩
  · rw [if_neg e]; exact .inr rfl
/-- Behind a wait that found one, it finds one again. -/
theorem again {ws : List Int} {r : Int} (h : p.good ws) (h1 : gnI (p.at ws 4 p.sl) = p.gn) (h3 : bitI (p.at ws 4 p.sl) 26 = false) (h2 : stI (p.at ws 4 p.sl) = 6 ∨ stI (p.at ws 4 p.sl) = 7) (hr : p.at ws 7 p.sl = r) (hh : heldI p ws r = true) : sweptI p ws = (9, ws) := by
  rcases h2 with h2 | h2
  · rw [swept_at hp h1 h2 h3 (by omega), if_neg (by omega), if_pos rfl, hr]
    unfold endB
    rw [if_pos hh]
  · rw [swept_at hp h1 h2 h3 (by omega), if_pos rfl, hr]
    unfold endT
    rw [if_pos hh]
theorem stale {ws : List Int} (h : p.good ws) : sweptI p (finalW p ws) = (2, finalW p ws) := by
  have g0 := hp.g0
  have g1 := hp.g1
  have e : gnI (p.at (finalW p ws) 4 p.sl) ≠ p.gn := by
    rw [final_st hp h, new_gn (by omega) (by omega)]
    omega
  unfold sweptI
  rw [if_pos (.inl e)]
/-- What is told again. -/
def Again (z z2 : Int × List Int) : Prop := (z.1 = 0 ∧ z2 = (2, z.2)) ∨ (z.1 ≠ 0 ∧ z2 = z)
theorem again_T {ws : List Int} {r : Int} (h : p.good ws) (h1 : gnI (p.at ws 4 p.sl) = p.gn) (h3 : bitI (p.at ws 4 p.sl) 26 = false) (h2 : stI (p.at ws 4 p.sl) = 6 ∨ stI (p.at ws 4 p.sl) = 7) (hr : p.at ws 7 p.sl = r) : Again (endT p ws r) (sweptI p (endT p ws r).2) := by
  rcases endT_cases hp ws r with ⟨e, e2⟩ | e
  · rw [e]
    exact .inr ⟨by simp, again hp h h1 h3 h2 hr e2⟩
  · rw [e]
    exact .inl ⟨rfl, stale hp h⟩
theorem again_B {ws : List Int} {r : Int} (h : p.good ws) (h1 : gnI (p.at ws 4 p.sl) = p.gn) (h3 : bitI (p.at ws 4 p.sl) 26 = false) (h2 : stI (p.at ws 4 p.sl) = 6) (hr : p.at ws 7 p.sl = r) : Again (endB p ws r) (sweptI p (endB p ws r).2) := by
  have hd := drop_good hp h
  have hrd := retire_good hp hd 7
  unfold endB
  by_cases e : heldI p ws r = true
  · rw [if_pos e]
    exact .inr ⟨by simp, again hp h h1 h3 (.inl h2) hr e⟩
  · rw [if_neg e]
    refine again_T hp hrd ?_ ?_ (.inr ?_) (retire_at hp hd 7)
    · rw [retire_st hp hd, mv_gn _ _ _ (hd.lat _ _)]; exact (congrArg gnI (drop_st hp h)).trans h1
    · rw [retire_st hp hd, mv_busy]
    · rw [retire_st hp hd, mv_st _ _ _ (by omega)]
theorem swept_again {ws : List Int} (h : p.good ws) : Again (sweptI p ws) (sweptI p (sweptI p ws).2) := by
  have hst := st_range (p.at ws 4 p.sl)
  by_cases q1 : gnI (p.at ws 4 p.sl) ≠ p.gn ∨ stI (p.at ws 4 p.sl) = 0 ∨ stI (p.at ws 4 p.sl) = 1
  · have e : sweptI p ws = (2, ws) := by unfold sweptI; rw [if_pos q1]
    rw [e]; exact .inr ⟨by simp, e⟩
  by_cases q2 : bitI (p.at ws 4 p.sl) 26 = true
  · have e : sweptI p ws = (3, ws) := by unfold sweptI; rw [if_neg q1, if_pos q2]
    rw [e]; exact .inr ⟨by simp, e⟩
  by_cases q3 : stI (p.at ws 4 p.sl) = 2 ∨ stI (p.at ws 4 p.sl) = 3
  · have e : sweptI p ws = (4, ws) := by unfold sweptI; rw [if_neg q1, if_neg q2, if_pos q3]
    rw [e]; exact .inr ⟨by simp, e⟩
  by_cases q4 : stI (p.at ws 4 p.sl) = 4 ∧ laterF p ws p.sl (p.at ws 6 p.sl) p.S.toNat 0 = true
  · have e : sweptI p ws = (9, ws) := by unfold sweptI; rw [if_neg q1, if_neg q2, if_neg q3, if_pos q4]
    rw [e]; exact .inr ⟨by simp, e⟩
  have h1 : gnI (p.at ws 4 p.sl) = p.gn := Classical.not_not.1 fun x => q1 (.inl x)
  have h3 : bitI (p.at ws 4 p.sl) 26 = false := by simpa using q2
  by_cases q7 : stI (p.at ws 4 p.sl) = 7
  · have e : sweptI p ws = endT p ws (p.at ws 7 p.sl) := by unfold sweptI; rw [if_neg q1, if_neg q2, if_neg q3, if_neg q4, if_pos q7]
    rw [e]; exact again_T hp h h1 h3 (.inr q7) rfl
  by_cases q6 : stI (p.at ws 4 p.sl) = 6
  · have e : sweptI p ws = endB p ws (p.at ws 7 p.sl) := by unfold sweptI; rw [if_neg q1, if_neg q2, if_neg q3, if_neg q4, if_neg q7, if_pos q6]
    rw [e]; exact again_B hp h h1 h3 q6 rfl
  · have e : sweptI p ws = endB p (retireW p ws 6) (p.at ws 2 0) := by unfold sweptI; rw [if_neg q1, if_neg q2, if_neg q3, if_neg q4, if_neg q7, if_neg q6]
    rw [e]
    refine again_B hp (retire_good hp h 6) ?_ ?_ ?_ (retire_at hp h 6)
    · rw [retire_st hp h, mv_gn _ _ _ (h.lat _ _)]; exact h1
    · rw [retire_st hp h, mv_busy]
    · rw [retire_st hp h, mv_st _ _ _ (by omega)]
end
end Go.Proofs.YtfccbghmagohaaaGreat.Bound
