/- A sweep alone: what it comes to, phase by phase. No condition. A sweep alone: what it comes to. No condition. -/
import Derived.Test.YtifojacfedjedaaGreatSxA
section
namespace Go.Proofs.YtifojacfedjedaaGreat.Bound
open Go.Proofs.YtifojacfedjedaaGreat.Ev Go.Proofs.YtifojacfedjedaaGreat.ChartMath
set_option linter.unusedVariables false
set_option linter.unusedSimpArgs false
structure Pm.Ok (p : Pm) : Prop where
  s0 : 0 ≤ p.sl
  s1 : p.sl < p.S
  s2 : p.sl ≤ 11
  g0 : 0 ≤ p.gn
  g1 : p.gn ≤ 1073741823
def busyW (p : Pm) (ws : List Int) : List Int := p.set ws 4 p.sl (moveI (p.at ws 4 p.sl) (stI (p.at ws 4 p.sl)) true)
def noteW (p : Pm) (ws : List Int) (w x y : Int) : List Int := p.set (p.set (p.set ws 4 p.sl w) 2 0 x) 7 p.sl y
def retireW (p : Pm) (ws : List Int) (st : Int) : List Int := noteW p ws (moveI (p.at ws 4 p.sl) st false) (IntKind.u64.wrap (p.at ws 2 0 + 1)) (p.at ws 2 0)
def finalW (p : Pm) (ws : List Int) : List Int := p.set (p.set ws 6 p.sl 0) 4 p.sl (newI 0 (p.gn + 1))
def heldF (p : Pm) (ws : List Int) (own r : Int) : Nat → Int → Bool
  | 0, _ => false
  | n + 1, k => decide (k ≠ own ∧ p.at ws 3 k ≠ 0 ∧ p.at ws 3 k - 1 ≤ r) || heldF p ws own r n (k + 1)
def laterF (p : Pm) (ws : List Int) (sl num : Int) : Nat → Int → Bool
  | 0, _ => false
  | n + 1, k => decide (k ≠ sl ∧ (stI (p.at ws 4 k) = 1 ∨ (stI (p.at ws 4 k) = 2 ∨ stI (p.at ws 4 k) = 3) ∧ p.at ws 5 k < num)) || laterF p ws sl num n (k + 1)
def keysF (p : Pm) : Nat → Int → List Int → List Int
  | 0, _, ws => ws
  | n + 1, a, ws => keysF p n (a + 1) (p.set ws 8 a (dropM (p.at ws 8 a) p.sl))
def othersF (p : Pm) (g : Bool) : Nat → Int → List Int → List Int
  | 0, _, ws => ws
  | n + 1, a, ws => othersF p g n (a + 1) (if a = p.sl then ws else p.set ws 4 a (dropW (p.at ws 4 a) p.sl g))
def dropW2 (p : Pm) (ws : List Int) : List Int := othersF p (p.at ws 6 p.sl != 0) p.S.toNat 0 (keysF p p.K.toNat 0 ws)
section
variable {p : Pm} (hp : p.Ok)
theorem at_ne {ws : List Int} {k o v k' o' : Int} (h : cellOf p.T p.S p.K k o ≠ cellOf p.T p.S p.K k' o') : p.at (p.set ws k o v) k' o' = p.at ws k' o' := lat_other h
include hp
theorem c_st : cellOf p.T p.S p.K 4 p.sl = 2 + p.T + 4 * p.sl := by rw [cell_st (by omega) (by omega) hp.s0 hp.s1]; omega
theorem c_num : cellOf p.T p.S p.K 6 p.sl = 4 + p.T + 4 * p.sl := by rw [cell_st (by omega) (by omega) hp.s0 hp.s1]; omega
theorem c_ret : cellOf p.T p.S p.K 7 p.sl = 5 + p.T + 4 * p.sl := by rw [cell_st (by omega) (by omega) hp.s0 hp.s1]; omega
theorem at_st {ws : List Int} (h : p.good ws) (v : Int) : p.at (p.set ws 4 p.sl v) 4 p.sl = v := by
  obtain ⟨_, _, _, _, _, _⟩ := h.cfg
  have := c_st hp
  have := hp.s0
  exact lat_same (by omega) (h.cell _ _)
/-- The word of the slot that is let go of stands apart from all others. -/
theorem at_off {ws : List Int} (h : p.good ws) {k o v : Int} (hne : cellOf p.T p.S p.K k o ≠ cellOf p.T p.S p.K 4 p.sl) : p.at (p.set ws 4 p.sl v) k o = p.at ws k o := by have _h0 := hp; exact lat_other fun e => hne e.symm
theorem ne_pin (h1 : 1 ≤ p.T) (k : Int) : cellOf p.T p.S p.K 3 k ≠ cellOf p.T p.S p.K 4 p.sl := by
  rw [c_st hp]
  have := hp.s0
  by_cases hk : 0 ≤ k ∧ k < p.T
  · rw [cell_pin hk.1 hk.2]; omega
  · unfold cellOf; repeat' split
    all_goals omega
theorem ne_key (h1 : 1 ≤ p.T) {k : Int} (h0 : 0 ≤ k) (hk : k < p.K) : cellOf p.T p.S p.K 8 k ≠ cellOf p.T p.S p.K 4 p.sl := by
  rw [c_st hp, cell_key h0 hk]
  have := hp.s1
  omega
theorem ne_slot {j k : Int} (hj : 4 ≤ j ∧ j ≤ 7) (h0 : 0 ≤ k) (hk : k < p.S) (hne : j ≠ 4 ∨ k ≠ p.sl) : cellOf p.T p.S p.K j k ≠ cellOf p.T p.S p.K 4 p.sl := by
  rw [c_st hp, cell_st hj.1 hj.2 h0 hk]
  omega
theorem ne_ep (h1 : 1 ≤ p.T) : cellOf p.T p.S p.K 2 0 ≠ cellOf p.T p.S p.K 4 p.sl := by
  rw [c_st hp, cell_ep]
  have := hp.s0
  omega
theorem busy_st {ws : List Int} (h : p.good ws) : p.at (busyW p ws) 4 p.sl = moveI (p.at ws 4 p.sl) (stI (p.at ws 4 p.sl)) true := at_st hp h _
theorem busy_good {ws : List Int} (h : p.good ws) : p.good (busyW p ws) := by have _h0 := hp; exact h.lset (mv_word _ _ _ (h.lat _ _)) _ _
theorem busy_is {ws : List Int} (h : p.good ws) (w : Int) : busyW p (p.set ws 4 p.sl w) = p.set ws 4 p.sl (moveI w (stI w) true) := by
  unfold busyW
  rw [at_st hp h]
  exact lset_twice
theorem note_busy {ws : List Int} (h : p.good ws) (st x y : Int) (hs : 0 ≤ st ∧ st ≤ 7) : noteW p (busyW p ws) (moveI (p.at (busyW p ws) 4 p.sl) st true) x y = busyW p (noteW p ws (moveI (p.at ws 4 p.sl) st false) x y) := by
  obtain ⟨h1, _, _, _, _, _⟩ := h.cfg
  have n1 := ne_ep hp h1
  have n2 : cellOf p.T p.S p.K 7 p.sl ≠ cellOf p.T p.S p.K 4 p.sl := ne_slot hp (by omega) hp.s0 hp.s1 (.inl (by omega))
  have e : p.at (noteW p ws (moveI (p.at ws 4 p.sl) st false) x y) 4 p.sl = moveI (p.at ws 4 p.sl) st false := by
    unfold noteW
    rw [at_ne n2, at_ne n1, at_st hp h]
  rw [busy_st hp h, mv_mv]
  conv => rhs; unfold busyW
  rw [e, mv_st _ _ _ hs, mv_mv]
  unfold noteW busyW Pm.set
  rw [lset_twice, lset_comm (k := 7) (k' := 4) n2, lset_comm (k := 2) (k' := 4) n1, lset_twice]
theorem note_good {ws : List Int} (h : p.good ws) {w x y : Int} (hw : 0 ≤ w ∧ w < 18446744073709551616) (hx : 0 ≤ x ∧ x < 18446744073709551616) (hy : 0 ≤ y ∧ y < 18446744073709551616) : p.good (noteW p ws w x y) := by have _h0 := hp; exact ((h.lset hw _ _).lset hx _ _).lset hy _ _
theorem held_busy {ws : List Int} (h : p.good ws) (own r : Int) : ∀ (n : Nat) (k : Int), heldF p (busyW p ws) own r n k = heldF p ws own r n k
  | 0, _ => rfl
  | n + 1, k => by
    simp only [heldF, held_busy h own r n (k + 1)]
    rw [show p.at (busyW p ws) 3 k = p.at ws 3 k from at_off hp h (ne_pin hp h.cfg.1 k)]
theorem e_later {cl : Bool} {s : MS} {ws : List Int} (h : p.good ws) (hs : s.ws = busyW p ws) (hb : bitI (p.at ws 4 p.sl) 26 = false) : Ends p 2 (laterSt p cl s) 9 ws := by
  have hg : p.good s.ws := by rw [hs]; exact busy_good hp h
  have h0 : 0 ≤ cellOf p.T p.S p.K 4 p.sl := by have := h.cfg; have := hp.s0; rw [c_st hp]; omega
  have ho : mok p.T p.S p.K (p.ld s 4 p.sl) 4 p.sl (p.at s.ws 4 p.sl) = true := mok_lat h0
  have e : (mswap p.T p.S p.K (p.ld s 4 p.sl) 4 p.sl (p.at s.ws 4 p.sl) (moveI (p.at s.ws 4 p.sl) (stI (p.at s.ws 4 p.sl)) false)).ws = ws := by
    rw [mswap_ws ho]
    show lset p.T p.S p.K s.ws 4 p.sl _ = ws
    rw [hs, busy_st hp h, mv_st _ _ _ (st_range _), mv_mv, mv_self hb]
    exact lset_twice.trans (lset_self (h.cell _ _))
  refine Ends.step (s_laterA hg) (by simp [laterSt, hd]) (Ends.step (s_laterB hg (hg.isW _ _) ho) (by simp [hd]) ?_)
  have := Ends.done p 9 (mswap p.T p.S p.K (p.ld s 4 p.sl) 4 p.sl (p.at s.ws 4 p.sl) (moveI (p.at s.ws 4 p.sl) (stI (p.at s.ws 4 p.sl)) false))
  rw [e] at this
  exact this
theorem e_nought {s : MS} {ws : List Int} (h : p.good ws) (hs : s.ws = busyW p ws) : Ends p 2 (goSt p true s) 0 (finalW p ws) := by
  have hg : p.good s.ws := by rw [hs]; exact busy_good hp h
  have hg2 : p.good (mstore p.T p.S p.K s 6 p.sl 0).ws := hg.lset (by omega) _ _
  have n2 : cellOf p.T p.S p.K 4 p.sl ≠ cellOf p.T p.S p.K 6 p.sl := fun e => ne_slot hp (j := 6) (by omega) hp.s0 hp.s1 (.inl (by omega)) e.symm
  refine Ends.step (s_nought hg) (by simp [goSt, hd]) (Ends.step (s_free hg2 hp.g0 hp.g1) (by simp [hd]) ?_)
  have := Ends.done p 0 (mstore p.T p.S p.K (mstore p.T p.S p.K s 6 p.sl 0) 4 p.sl (newI 0 (p.gn + 1)))
  rw [mstore_ws, mstore_ws, hs] at this
  have e : lset p.T p.S p.K (lset p.T p.S p.K (busyW p ws) 6 p.sl 0) 4 p.sl (newI 0 (p.gn + 1)) = finalW p ws := by
    unfold busyW finalW Pm.set
    rw [lset_comm (k := 4) (k' := 6) n2, lset_twice]
  rw [e] at this
  exact this
omit hp in
theorem e_grace {cl : Bool} {r e : Int} {m : Nat} {ws : List Int} : ∀ (n : Nat) (a : Int) (s : MS), p.good s.ws → 0 ≤ a → a + n = p.T →
    (heldF p s.ws p.th r n a = true → ∀ s' : MS, s'.ws = s.ws → Ends p m (laterSt p cl s') e ws) → (heldF p s.ws p.th r n a = false → ∀ s' : MS, s'.ws = s.ws → Ends p m (goSt p cl s') e ws) → Ends p (m + n) (waitSt p cl (skip a p.th) r s) e ws
  | 0, a, s, h, h0, ha, hL, hG => by
    have : skip a p.th ≥ p.T := by unfold skip; split <;> omega
    unfold waitSt
    rw [if_pos this]
    exact hG rfl s rfl
  | n + 1, a, s, h, h0, ha, hL, hG => by
    by_cases e1 : a = p.th
    · have e4 : heldF p s.ws p.th r (n + 1) a = heldF p s.ws p.th r n (a + 1) := by
        simp only [heldF, decide_eq_false (show ¬ (a ≠ p.th ∧ p.at s.ws 3 a ≠ 0 ∧ p.at s.ws 3 a - 1 ≤ r) from fun x => x.1 e1), Bool.false_or]
      rw [e4] at hL hG
      have i := e_grace n (a + 1) s h (by omega) (by omega) hL hG
      have e2 : skip (a + 1) p.th = skip a p.th := by unfold skip; rw [if_pos e1, if_neg (by omega)]
      rw [e2] at i
      exact i.mono (by omega)
    · have e2 : skip a p.th = a := by unfold skip; rw [if_neg e1]
      rw [e2]
      unfold waitSt
      rw [if_neg (by omega)]
      refine Ends.step (s_grace h h0 (by omega)) (by simp [hd]) ?_
      by_cases e3 : p.at s.ws 3 a ≠ 0 ∧ p.at s.ws 3 a - 1 ≤ r
      · rw [if_pos e3]
        exact Ends.mono (m := m) (n := m + n) (hL (by simp only [heldF, decide_eq_true (show a ≠ p.th ∧ p.at s.ws 3 a ≠ 0 ∧ p.at s.ws 3 a - 1 ≤ r from ⟨e1, e3⟩), Bool.true_or]) _ rfl) (by omega)
      · rw [if_neg e3]
        have e4 : heldF p s.ws p.th r (n + 1) a = heldF p s.ws p.th r n (a + 1) := by
          simp only [heldF, decide_eq_false (show ¬ (a ≠ p.th ∧ p.at s.ws 3 a ≠ 0 ∧ p.at s.ws 3 a - 1 ≤ r) from fun x => e3 x.2), Bool.false_or]
        exact e_grace n (a + 1) (p.ld s 3 a) h (by omega) (by omega) (fun hh s' hs' => hL (by rw [e4]; exact hh) s' hs') (fun hh s' hs' => hG (by rw [e4]; exact hh) s' hs')
omit hp in
theorem swap_ws {s : MS} {k o w v : Int} (ho : mok p.T p.S p.K s k o w = true) : (mswap p.T p.S p.K s k o w v).ws = p.set s.ws k o v := mswap_ws ho
theorem e_keys {cl : Bool} {e : Int} {m : Nat} {ws : List Int} : ∀ (n : Nat) (a : Int) (s : MS), p.good s.ws → 0 ≤ a → a + n = p.K →
    (∀ s' : MS, s'.ws = keysF p n a s.ws → Ends p m (hd p 12 [] cl [] [] s') e ws) → Ends p (m + 2 * n) (keySt p cl a s) e ws
  | 0, a, s, h, h0, ha, hG => by
    unfold keySt
    rw [if_neg (by omega)]
    exact hG s rfl
  | n + 1, a, s, h, h0, ha, hG => by
    have hs : 0 ≤ p.sl ∧ p.sl ≤ 11 := ⟨hp.s0, hp.s2⟩
    have hc : 0 ≤ cellOf p.T p.S p.K 8 a := by have := h.cfg; rw [cell_key h0 (by omega)]; omega
    have hm : (m + 2 * (n + 1)) = (m + 2 * n + 1) + 1 := by omega
    unfold keySt
    rw [if_pos (by omega), hm]
    have hw := dropM_word p.sl (h.lat 8 a) hs
    by_cases e1 : dropM (p.at s.ws 8 a) p.sl = p.at s.ws 8 a
    · refine Ends.step (r := keySt p cl (a + 1) (p.ld s 8 a)) (by rw [s_keys h h0 (by omega) hs, if_pos e1]) (by simp [hd]) ?_
      refine Ends.mono (m := m + 2 * n) (e_keys n (a + 1) (p.ld s 8 a) h (by omega) (by omega) fun s' hs' => hG s' ?_) (by omega)
      rw [hs', mload_ws]
      show _ = keysF p n (a + 1) (p.set s.ws 8 a (dropM (p.at s.ws 8 a) p.sl))
      rw [e1]
      exact congrArg (keysF p n (a + 1)) (lset_self (h.cell _ _)).symm
    · have ho : mok p.T p.S p.K (p.ld s 8 a) 8 a (p.at s.ws 8 a) = true := mok_lat hc
      have e2 := swap_ws (v := dropM (p.at s.ws 8 a) p.sl) ho
      refine Ends.step (by rw [s_keys h h0 (by omega) hs, if_neg e1]) (by simp [hd]) (Ends.step (s_unmark (s := p.ld s 8 a) h h0 (by omega) hs (h.isW _ _) ho) (by simp [hd]) ?_)
      refine e_keys n (a + 1) _ (by rw [e2]; exact h.lset hw _ _) (by omega) (by omega) fun s' hs' => hG s' ?_
      rw [hs', e2]
      rfl
theorem e_others {cl : Bool} {e nn : Int} {m : Nat} {ws : List Int} : ∀ (n : Nat) (a : Int) (s : MS), p.good s.ws → 0 ≤ a → a + n = p.S →
    (∀ s' : MS, s'.ws = othersF p (nn != 0) n a s.ws → Ends p m (hd p 15 [] cl [] [] s') e ws) → Ends p (m + 2 * n) (otherSt p cl (skip a p.sl) nn s) e ws
  | 0, a, s, h, h0, ha, hG => by
    have : ¬ skip a p.sl < p.S := by unfold skip; split <;> omega
    unfold otherSt
    rw [if_neg this]
    exact hG s rfl
  | n + 1, a, s, h, h0, ha, hG => by
    by_cases e0 : a = p.sl
    · have e4 : othersF p (nn != 0) (n + 1) a s.ws = othersF p (nn != 0) n (a + 1) s.ws := by simp only [othersF, if_pos e0]
      rw [e4] at hG
      have i := e_others n (a + 1) s h (by omega) (by omega) hG
      have e2 : skip (a + 1) p.sl = skip a p.sl := by unfold skip; rw [if_pos e0, if_neg (by omega)]
      rw [e2] at i
      exact i.mono (by omega)
    have hs : 0 ≤ p.sl ∧ p.sl ≤ 11 := ⟨hp.s0, hp.s2⟩
    have hc : 0 ≤ cellOf p.T p.S p.K 4 a := by have := h.cfg; rw [cell_st (by omega) (by omega) h0 (by omega)]; omega
    have hm : (m + 2 * (n + 1)) = (m + 2 * n + 1) + 1 := by omega
    have e2 : skip a p.sl = a := by unfold skip; rw [if_neg e0]
    have e4 : othersF p (nn != 0) (n + 1) a s.ws = othersF p (nn != 0) n (a + 1) (p.set s.ws 4 a (dropW (p.at s.ws 4 a) p.sl (nn != 0))) := by simp only [othersF, if_neg e0]
    rw [e2]
    unfold otherSt
    rw [if_pos (by omega), hm]
    have hw := dropW_word (nn != 0) (h.lat 4 a) hs
    by_cases e1 : dropW (p.at s.ws 4 a) p.sl (nn != 0) = p.at s.ws 4 a
    · refine Ends.step (r := otherSt p cl (skip (a + 1) p.sl) nn (p.ld s 4 a)) (by rw [s_others h h0 (by omega) hs, if_pos e1]) (by simp [hd]) ?_
      refine Ends.mono (m := m + 2 * n) (e_others n (a + 1) (p.ld s 4 a) h (by omega) (by omega) fun s' hs' => hG s' ?_) (by omega)
      rw [hs', mload_ws, e4, e1]
      exact congrArg (othersF p (nn != 0) n (a + 1)) (lset_self (h.cell _ _)).symm
    · have ho : mok p.T p.S p.K (p.ld s 4 a) 4 a (p.at s.ws 4 a) = true := mok_lat hc
      have e2 := swap_ws (v := dropW (p.at s.ws 4 a) p.sl (nn != 0)) ho
      refine Ends.step (by rw [s_others h h0 (by omega) hs, if_neg e1]) (by simp [hd]) (Ends.step (s_part (s := p.ld s 4 a) h h0 (by omega) hs (h.isW _ _) ho) (by simp [hd]) ?_)
      refine e_others n (a + 1) _ (by rw [e2]; exact h.lset hw _ _) (by omega) (by omega) fun s' hs' => hG s' ?_
      rw [hs', e2, e4]
      rfl
end
end Go.Proofs.YtifojacfedjedaaGreat.Bound
end

section
namespace Go.Proofs.YtifojacfedjedaaGreat.Bound
open Go.Proofs.YtifojacfedjedaaGreat.Ev Go.Proofs.YtifojacfedjedaaGreat.ChartMath
set_option linter.unusedVariables false
set_option linter.unusedSimpArgs false
def heldI (p : Pm) (ws : List Int) (r : Int) : Bool := heldF p ws p.th r p.T.toNat 0
/-- Behind the last wait; behind the first one. -/
def endT (p : Pm) (ws : List Int) (r : Int) : Int × List Int := if heldI p ws r = true then (9, ws) else (0, finalW p ws)
def endB (p : Pm) (ws : List Int) (r : Int) : Int × List Int := if heldI p ws r = true then (9, ws) else endT p (retireW p (dropW2 p ws) 7) (p.at (dropW2 p ws) 2 0)
def sweptI (p : Pm) (ws : List Int) : Int × List Int :=
  if gnI (p.at ws 4 p.sl) ≠ p.gn ∨ stI (p.at ws 4 p.sl) = 0 ∨ stI (p.at ws 4 p.sl) = 1 then (2, ws)
  else if bitI (p.at ws 4 p.sl) 26 = true then (3, ws)
  else if stI (p.at ws 4 p.sl) = 2 ∨ stI (p.at ws 4 p.sl) = 3 then (4, ws)
  else if stI (p.at ws 4 p.sl) = 4 ∧ laterF p ws p.sl (p.at ws 6 p.sl) p.S.toNat 0 = true then (9, ws)
  else if stI (p.at ws 4 p.sl) = 7 then endT p ws (p.at ws 7 p.sl)
  else if stI (p.at ws 4 p.sl) = 6 then endB p ws (p.at ws 7 p.sl)
  else endB p (retireW p ws 6) (p.at ws 2 0)
section
variable {p : Pm} (hp : p.Ok)
include hp
theorem set_busy {ws : List Int} {k o v : Int} (h : cellOf p.T p.S p.K k o ≠ cellOf p.T p.S p.K 4 p.sl) : p.set (busyW p ws) k o v = busyW p (p.set ws k o v) := by
  have _h0 := hp
  unfold busyW
  rw [at_ne h]
  exact lset_comm (fun e => h e.symm)
theorem st_cell (h1 : 1 ≤ p.T) : 0 ≤ cellOf p.T p.S p.K 4 p.sl := by have := hp.s0; rw [c_st hp]; omega
theorem busy_off {ws : List Int} (h : p.good ws) {k o : Int} (hne : cellOf p.T p.S p.K k o ≠ cellOf p.T p.S p.K 4 p.sl) : p.at (busyW p ws) k o = p.at ws k o := at_off hp h hne
theorem keys_all {ws : List Int} : ∀ (n : Nat) (a : Int) {ws : List Int}, p.good ws → 0 ≤ a → a + n = p.K → p.good (keysF p n a ws) ∧ keysF p n a (busyW p ws) = busyW p (keysF p n a ws) ∧ ∀ k o, k ≠ 8 → cellOf p.T p.S p.K k o < 2 + p.T + 4 * p.S → p.at (keysF p n a ws) k o = p.at ws k o
  | 0, a, ws, h, h0, ha => ⟨h, rfl, fun _ _ _ _ => rfl⟩
  | n + 1, a, ws, h, h0, ha => by
    have hn := ne_key hp h.cfg.1 h0 (show a < p.K by omega)
    have hc := cell_key (T := p.T) (S := p.S) h0 (show a < p.K by omega)
    obtain ⟨i1, i2, i3⟩ := keys_all (ws := p.set ws 8 a (dropM (p.at ws 8 a) p.sl)) n (a + 1) (h.lset (dropM_word p.sl (h.lat 8 a) ⟨hp.s0, hp.s2⟩) _ _) (by omega) (by omega)
    refine ⟨i1, ?_, fun k o hk hl => ?_⟩
    · simp only [keysF]
      rw [busy_off hp h hn, set_busy hp hn]
      exact i2
    · simp only [keysF]
      rw [i3 k o hk hl]
      exact at_ne (by omega)
theorem others_all (g : Bool) {ws : List Int} : ∀ (n : Nat) (a : Int) {ws : List Int}, p.good ws → 0 ≤ a → a + n = p.S → p.good (othersF p g n a ws) ∧ othersF p g n a (busyW p ws) = busyW p (othersF p g n a ws) ∧ ∀ k o, (k = 4 → o = p.sl) → (4 ≤ k → k ≤ 7 ∧ 0 ≤ o ∧ o < p.S) → p.at (othersF p g n a ws) k o = p.at ws k o
  | 0, a, ws, h, h0, ha => ⟨h, rfl, fun _ _ _ _ => rfl⟩
  | n + 1, a, ws, h, h0, ha => by
    by_cases e : a = p.sl
    · obtain ⟨i1, i2, i3⟩ := others_all g (ws := ws) n (a + 1) h (by omega) (by omega)
      simp only [othersF, if_pos e]
      exact ⟨i1, i2, i3⟩
    · have hn := ne_slot hp (j := 4) (by omega) h0 (show a < p.S by omega) (.inr e)
      have hc := cell_st (T := p.T) (K := p.K) (k := 4) (by omega) (by omega) h0 (show a < p.S by omega)
      obtain ⟨i1, i2, i3⟩ := others_all g (ws := p.set ws 4 a (dropW (p.at ws 4 a) p.sl g)) n (a + 1) (h.lset (dropW_word g (h.lat 4 a) ⟨hp.s0, hp.s2⟩) _ _) (by omega) (by omega)
      simp only [othersF, if_neg e]
      refine ⟨i1, ?_, fun k o hk hl => ?_⟩
      · rw [busy_off hp h hn, set_busy hp hn]
        exact i2
      · rw [i3 k o hk hl]
        refine at_ne fun e2 => ?_
        by_cases h4 : 4 ≤ k
        · obtain ⟨a1, a2, a3⟩ := hl h4
          rw [hc, cell_st h4 a1 a2 a3] at e2
          have : k = 4 := by omega
          have := hk this
          omega
        · rw [hc] at e2
          unfold cellOf at e2
          have := h.cfg
          repeat' split at e2
          all_goals omega
theorem drop_good {ws : List Int} (h : p.good ws) : p.good (dropW2 p ws) := by
  have := h.cfg
  exact (others_all hp _ (ws := ws) p.S.toNat 0 (keys_all hp (ws := ws) p.K.toNat 0 h (by omega) (by omega)).1 (by omega) (by omega)).1
theorem drop_at {ws : List Int} (h : p.good ws) {k o : Int} (hk : k ≠ 8) (h4 : k = 4 → o = p.sl) (hl : 4 ≤ k → k ≤ 7 ∧ 0 ≤ o ∧ o < p.S) : p.at (dropW2 p ws) k o = p.at ws k o := by
  have := h.cfg
  obtain ⟨k1, k2, k3⟩ := keys_all hp (ws := ws) p.K.toNat 0 h (by omega) (by omega)
  obtain ⟨o1, o2, o3⟩ := others_all hp (p.at ws 6 p.sl != 0) (ws := ws) p.S.toNat 0 k1 (by omega) (by omega)
  unfold dropW2
  rw [o3 k o h4 hl]
  refine k3 k o hk ?_
  unfold cellOf
  repeat' split
  all_goals omega
theorem e_wait_t {r : Int} {s : MS} {ws : List Int} (h : p.good ws) (hs : s.ws = busyW p ws) (hb : bitI (p.at ws 4 p.sl) 26 = false) : Ends p (2 + p.T.toNat) (waitSt p true (skip 0 p.th) r s) (endT p ws r).1 (endT p ws r).2 := by
  have hg : p.good s.ws := by rw [hs]; exact busy_good hp h
  have := h.cfg
  have hh : heldF p s.ws p.th r p.T.toNat 0 = heldI p ws r := by rw [hs]; exact held_busy hp h _ _ _ _
  refine e_grace p.T.toNat 0 s hg (by omega) (by omega) (fun e s' hs' => ?_) (fun e s' hs' => ?_)
  · rw [hh] at e
    simp only [endT, if_pos e]
    exact e_later hp h (hs'.trans hs) hb
  · rw [hh] at e
    simp only [endT, e, Bool.false_eq_true, if_false]
    exact e_nought hp h (hs'.trans hs)
theorem e_tick {cl : Bool} {st e : Int} {m : Nat} {s : MS} {X ws : List Int} (h : p.good X) (hst : 0 ≤ st ∧ st ≤ 7) (hs : s.ws = p.set (busyW p X) 4 p.sl (moveI (p.at (busyW p X) 4 p.sl) st true))
    (hG : ∀ s' : MS, s'.ws = busyW p (retireW p X st) → Ends p m (waitSt p cl (skip 0 p.th) (p.at X 2 0) s') e ws) : Ends p (m + 2) (hd p 6 [] cl [] [] s) e ws := by
  have hgb := busy_good hp h
  have hg : p.good s.ws := by rw [hs]; exact hgb.lset (mv_word _ _ _ (hgb.lat _ _)) _ _
  have ep : p.at s.ws 2 0 = p.at X 2 0 := by
    have hn := ne_ep hp h.cfg.1
    rw [hs, at_off hp hgb hn, busy_off hp h hn]
  have hw := h.lat 2 0
  have hx : 0 ≤ IntKind.u64.wrap (p.at X 2 0 + 1) ∧ IntKind.u64.wrap (p.at X 2 0 + 1) < 18446744073709551616 := by
    have : IntKind.u64.wrap (p.at X 2 0 + 1) = (p.at X 2 0 + 1) % 18446744073709551616 := by simp [IntKind.wrap, IntKind.bits, IntKind.signed]
    omega
  have e1 : (madd p.T p.S p.K s 2 0 1).ws = p.set s.ws 2 0 (IntKind.u64.wrap (p.at X 2 0 + 1)) := by rw [← ep]; rfl
  have hg2 : p.good (madd p.T p.S p.K s 2 0 1).ws := by rw [e1]; exact hg.lset hx _ _
  refine Ends.step (s_tick hg) (by simp [hd]) (Ends.step (s_note hg2 (by rw [ep]; exact hw)) (by simp [hd]) ?_)
  rw [ep]
  refine hG _ ?_
  rw [mstore_ws, e1, hs]
  exact note_busy hp h st _ _ hst
theorem e_close {s : MS} {X : List Int} {r : Int} (h : p.good X) (hs : s.ws = busyW p X) (hr : r = p.at X 2 0) : Ends p (2 + p.T.toNat + 4) (hd p 15 [] false [] [] s) (endT p (retireW p X 7) r).1 (endT p (retireW p X 7) r).2 := by
  subst hr
  have hgb := busy_good hp h
  have hg : p.good s.ws := by rw [hs]; exact hgb
  have ho : mok p.T p.S p.K (p.ld s 4 p.sl) 4 p.sl (p.at s.ws 4 p.sl) = true := mok_lat (st_cell hp h.cfg.1)
  refine Ends.step (s_close hg) (by simp [hd]) (Ends.step (s_closed (s := p.ld s 4 p.sl) hg (hg.isW _ _) ho) (by simp [hd]) ?_)
  refine e_tick hp (st := 7) h (by omega) ?_ fun s' hs' => ?_
  · rw [mswap_ws ho]
    show lset p.T p.S p.K s.ws 4 p.sl _ = _
    rw [hs]
  · have hwt := h.lat 2 0
    have hx : 0 ≤ IntKind.u64.wrap (p.at X 2 0 + 1) ∧ IntKind.u64.wrap (p.at X 2 0 + 1) < 18446744073709551616 := by
      have : IntKind.u64.wrap (p.at X 2 0 + 1) = (p.at X 2 0 + 1) % 18446744073709551616 := by simp [IntKind.wrap, IntKind.bits, IntKind.signed]
      omega
    refine e_wait_t hp (note_good hp h (mv_word _ _ _ (h.lat _ _)) hx hwt) hs' ?_
    unfold retireW noteW
    rw [at_ne (ne_slot hp (j := 7) (by omega) hp.s0 hp.s1 (.inl (by omega))), at_ne (ne_ep hp h.cfg.1), at_st hp h, mv_busy]
theorem e_wait_f {r : Int} {s : MS} {ws : List Int} (h : p.good ws) (hs : s.ws = busyW p ws) (hb : bitI (p.at ws 4 p.sl) 26 = false) :
    Ends p (2 + p.T.toNat + 4 + 2 * p.S.toNat + 1 + 2 * p.K.toNat + p.T.toNat) (waitSt p false (skip 0 p.th) r s) (endB p ws r).1 (endB p ws r).2 := by
  have hg : p.good s.ws := by rw [hs]; exact busy_good hp h
  have := h.cfg
  have hh : heldF p s.ws p.th r p.T.toNat 0 = heldI p ws r := by rw [hs]; exact held_busy hp h _ _ _ _
  refine e_grace p.T.toNat 0 s hg (by omega) (by omega) (fun e s' hs' => ?_) (fun e s' hs' => ?_)
  · rw [hh] at e
    simp only [endB, if_pos e]
    exact (e_later hp h (hs'.trans hs) hb).mono (by omega)
  · rw [hh] at e
    simp only [endB, e, Bool.false_eq_true, if_false]
    have hs2 : s'.ws = busyW p ws := hs'.trans hs
    have hg2 : p.good s'.ws := by rw [hs2]; exact busy_good hp h
    unfold goSt
    rw [if_neg (by simp)]
    refine e_keys hp p.K.toNat 0 s' hg2 (by omega) (by omega) fun s3 hs3 => ?_
    obtain ⟨k1, k2, k3⟩ := keys_all hp (ws := ws) p.K.toNat 0 h (by omega) (by omega)
    rw [hs2, k2] at hs3
    have hg3 : p.good s3.ws := by rw [hs3]; exact busy_good hp k1
    refine Ends.step (s_past hg3) (by simp [hd]) ?_
    have hn : p.at s3.ws 6 p.sl = p.at ws 6 p.sl := by
      have hs0 := hp.s0
      have hs1 := hp.s1
      rw [hs3, busy_off hp k1 (ne_slot hp (j := 6) (by omega) hp.s0 hp.s1 (.inl (by omega))), k3 6 p.sl (by omega) (by rw [c_num hp]; omega)]
    rw [hn]
    refine e_others hp p.S.toNat 0 _ hg3 (by omega) (by omega) fun s4 hs4 => ?_
    rw [mload_ws, hs3] at hs4
    obtain ⟨o1, o2, o3⟩ := others_all hp (p.at ws 6 p.sl != 0) (ws := ws) p.S.toNat 0 k1 (by omega) (by omega)
    rw [o2] at hs4
    exact e_close hp (X := dropW2 p ws) o1 hs4 rfl
theorem e_ages {e num : Int} {m : Nat} {ws : List Int} : ∀ (n : Nat) (a : Int) (s : MS), p.good s.ws → 0 ≤ a → a + n = p.S →
    (laterF p s.ws p.sl num n a = true → ∀ s' : MS, s'.ws = s.ws → Ends p m (laterSt p false s') e ws) → (laterF p s.ws p.sl num n a = false → ∀ s' : MS, s'.ws = s.ws → Ends p m (hd p 4 [] false [] [] s') e ws) → Ends p (m + 2 * n) (agedSt p false (skip a p.sl) num s) e ws
  | 0, a, s, h, h0, ha, hL, hG => by
    have _h0 := hp
    have : ¬ skip a p.sl < p.S := by unfold skip; split <;> omega
    unfold agedSt
    rw [if_neg this]
    exact hG rfl s rfl
  | n + 1, a, s, h, h0, ha, hL, hG => by
    by_cases e1 : a = p.sl
    · have e4 : laterF p s.ws p.sl num (n + 1) a = laterF p s.ws p.sl num n (a + 1) := by
        simp only [laterF]
        rw [decide_eq_false (fun x => x.1 e1), Bool.false_or]
      rw [e4] at hL hG
      have i := e_ages n (a + 1) s h (by omega) (by omega) hL hG
      have e2 : skip (a + 1) p.sl = skip a p.sl := by unfold skip; rw [if_pos e1, if_neg (by omega)]
      rw [e2] at i
      exact i.mono (by omega)
    · have e2 : skip a p.sl = a := by unfold skip; rw [if_neg e1]
      have hm : (m + 2 * (n + 1)) = (m + 2 * n + 1) + 1 := by omega
      rw [e2]
      unfold agedSt
      rw [if_pos (by omega), hm]
      refine Ends.step (s_agedL h h0 (by omega)) (by simp [hd]) ?_
      by_cases q1 : stI (p.at s.ws 4 a) = 1
      · rw [if_pos q1]
        refine Ends.mono (m := m) (hL ?_ _ rfl) (by omega)
        simp only [laterF]
        rw [decide_eq_true ⟨e1, .inl q1⟩, Bool.true_or]
      rw [if_neg q1]
      by_cases q2 : stI (p.at s.ws 4 a) = 2 ∨ stI (p.at s.ws 4 a) = 3
      · rw [if_pos q2]
        refine Ends.step (s_agedS (s := p.ld s 4 a) h h0 (by omega)) (by simp [hd]) ?_
        by_cases q3 : p.at s.ws 5 a < num
        · rw [if_pos (show p.at (p.ld s 4 a).ws 5 a < num from q3)]
          refine Ends.mono (m := m) (hL ?_ _ rfl) (by omega)
          simp only [laterF]
          rw [decide_eq_true ⟨e1, .inr ⟨q2, q3⟩⟩, Bool.true_or]
        · rw [if_neg (show ¬ p.at (p.ld s 4 a).ws 5 a < num from q3)]
          have e4 : laterF p s.ws p.sl num (n + 1) a = laterF p s.ws p.sl num n (a + 1) := by
            simp only [laterF]
            rw [decide_eq_false (fun x => x.2.elim q1 fun y => q3 y.2), Bool.false_or]
          rw [e4] at hL hG
          exact e_ages n (a + 1) _ h (by omega) (by omega) hL hG
      · rw [if_neg q2]
        have e4 : laterF p s.ws p.sl num (n + 1) a = laterF p s.ws p.sl num n (a + 1) := by
          simp only [laterF]
          rw [decide_eq_false (fun x => x.2.elim q1 fun y => q2 y.1), Bool.false_or]
        rw [e4] at hL hG
        exact Ends.mono (m := m + 2 * n) (e_ages n (a + 1) _ h (by omega) (by omega) hL hG) (by omega)
theorem e_die {s : MS} {X : List Int} (h : p.good X) (hs : s.ws = busyW p X) :
    Ends p (2 + p.T.toNat + 4 + 2 * p.S.toNat + 1 + 2 * p.K.toNat + p.T.toNat + 4) (hd p 4 [] false [] [] s) (endB p (retireW p X 6) (p.at X 2 0)).1 (endB p (retireW p X 6) (p.at X 2 0)).2 := by
  have hgb := busy_good hp h
  have hg : p.good s.ws := by rw [hs]; exact hgb
  have ho : mok p.T p.S p.K (p.ld s 4 p.sl) 4 p.sl (p.at s.ws 4 p.sl) = true := mok_lat (st_cell hp h.cfg.1)
  refine Ends.step (s_die hg) (by simp [hd]) (Ends.step (s_dead (s := p.ld s 4 p.sl) hg (hg.isW _ _) ho) (by simp [hd]) ?_)
  refine e_tick hp (st := 6) h (by omega) ?_ fun s' hs' => ?_
  · rw [mswap_ws ho]
    show lset p.T p.S p.K s.ws 4 p.sl _ = _
    rw [hs]
  · have hwt := h.lat 2 0
    have hx : 0 ≤ IntKind.u64.wrap (p.at X 2 0 + 1) ∧ IntKind.u64.wrap (p.at X 2 0 + 1) < 18446744073709551616 := by
      have : IntKind.u64.wrap (p.at X 2 0 + 1) = (p.at X 2 0 + 1) % 18446744073709551616 := by simp [IntKind.wrap, IntKind.bits, IntKind.signed]
      omega
    refine e_wait_f hp (note_good hp h (mv_word _ _ _ (h.lat _ _)) hx hwt) hs' ?_
    unfold retireW noteW
    rw [at_ne (ne_slot hp (j := 7) (by omega) hp.s0 hp.s1 (.inl (by omega))), at_ne (ne_ep hp h.cfg.1), at_st hp h, mv_busy]
theorem later_busy {ws : List Int} (h : p.good ws) (num : Int) : ∀ (n : Nat) (k : Int), 0 ≤ k → k + n = p.S → laterF p (busyW p ws) p.sl num n k = laterF p ws p.sl num n k
  | 0, _, _, _ => rfl
  | n + 1, k, h0, hk => by
    simp only [laterF, later_busy h num n (k + 1) (by omega) (by omega)]
    by_cases e : k = p.sl
    · rw [decide_eq_false (fun x => x.1 e), decide_eq_false (fun x => x.1 e)]
    · rw [busy_off hp h (ne_slot hp (j := 4) (by omega) h0 (by omega) (.inr e)), busy_off hp h (ne_slot hp (j := 5) (by omega) h0 (by omega) (.inl (by omega)))]
/-- From its entering to its end. -/
theorem e_all {s : MS} {es eh ew : Int} {ec : Nat} (h : p.good s.ws) (he : isW eh = true) (hk : okT eh p.S = true) (hgen : p.gn = genI eh) : Ends p 150 (hd p 0 [] false [] (enU p es eh ec false ew) s) (sweptI p s.ws).1 (sweptI p s.ws).2 := by
  have hc := h.cfg
  have hs := st_range (p.at s.ws 4 p.sl)
  unfold sweptI
  by_cases q1 : gnI (p.at s.ws 4 p.sl) ≠ p.gn ∨ stI (p.at s.ws 4 p.sl) = 0 ∨ stI (p.at s.ws 4 p.sl) = 1
  · rw [if_pos q1]
    exact (Ends.step (s_en_stale h he hk (by rw [← hgen]; exact q1)) (by simp [hd]) (Ends.done p 2 _)).mono (by omega)
  rw [if_neg q1]
  have g1 : gnI (p.at s.ws 4 p.sl) = genI eh := by rw [← hgen]; exact Classical.not_not.1 fun x => q1 (.inl x)
  have g2 : 2 ≤ stI (p.at s.ws 4 p.sl) := by
    have a : ¬ stI (p.at s.ws 4 p.sl) = 0 := fun x => q1 (.inr (.inl x))
    have b : ¬ stI (p.at s.ws 4 p.sl) = 1 := fun x => q1 (.inr (.inr x))
    omega
  by_cases q2 : bitI (p.at s.ws 4 p.sl) 26 = true
  · rw [if_pos q2]
    exact (Ends.step (s_en_busy h he hk g1 g2 q2) (by simp [hd]) (Ends.done p 3 _)).mono (by omega)
  rw [if_neg q2]
  have q2 : bitI (p.at s.ws 4 p.sl) 26 = false := by simpa using q2
  by_cases q3 : stI (p.at s.ws 4 p.sl) = 2 ∨ stI (p.at s.ws 4 p.sl) = 3
  · rw [if_pos q3]
    exact (Ends.step (s_en_state h he hk g1 q3 q2) (by simp [hd]) (Ends.done p 4 _)).mono (by omega)
  rw [if_neg q3]
  have ho : mok p.T p.S p.K (p.ld s 4 p.sl) 4 p.sl (p.at s.ws 4 p.sl) = true := mok_lat (st_cell hp hc.1)
  refine Ends.step (m := 149) (s_en_take h he hk g1 (by omega) q2) (by simp [hd]) ?_
  refine Ends.step (m := 148) (s_en_swap (s := p.ld s 4 p.sl) h he hk (h.lat 4 p.sl) ho) (by simp [hd]) ?_
  have hw : (mswap p.T p.S p.K (p.ld s 4 p.sl) 4 p.sl (p.at s.ws 4 p.sl) (moveI (p.at s.ws 4 p.sl) (stI (p.at s.ws 4 p.sl)) true)).ws = busyW p s.ws := mswap_ws ho
  generalize mswap p.T p.S p.K (p.ld s 4 p.sl) 4 p.sl (p.at s.ws 4 p.sl) (moveI (p.at s.ws 4 p.sl) (stI (p.at s.ws 4 p.sl)) true) = s2 at hw
  have hg2 : p.good s2.ws := by rw [hw]; exact busy_good hp h
  unfold inSt
  by_cases q4 : stI (p.at s.ws 4 p.sl) = 4
  · rw [if_pos q4, if_neg (show ¬ stI (p.at s.ws 4 p.sl) = 7 by omega), if_neg (show ¬ stI (p.at s.ws 4 p.sl) = 6 by omega)]
    refine Ends.step (m := 147) (s_number hg2) (by simp [hd]) ?_
    have hn : p.at s2.ws 6 p.sl = p.at s.ws 6 p.sl := by rw [hw]; exact busy_off hp h (ne_slot hp (j := 6) (by omega) hp.s0 hp.s1 (.inl (by omega)))
    have hl : laterF p (p.ld s2 6 p.sl).ws p.sl (p.at s2.ws 6 p.sl) p.S.toNat 0 = laterF p s.ws p.sl (p.at s.ws 6 p.sl) p.S.toNat 0 := by
      rw [hn, mload_ws, hw]
      exact later_busy hp h _ _ _ (by omega) (by omega)
    refine Ends.mono (m := (2 + p.T.toNat + 4 + 2 * p.S.toNat + 1 + 2 * p.K.toNat + p.T.toNat + 4) + 2 * p.S.toNat) (e_ages hp p.S.toNat 0 (p.ld s2 6 p.sl) hg2 (by omega) (by omega) (fun e s' hs' => ?_) (fun e s' hs' => ?_)) (by omega)
    · rw [hl] at e
      rw [if_pos ⟨q4, e⟩]
      exact (e_later hp h (hs'.trans hw) q2).mono (by omega)
    · rw [hl] at e
      rw [if_neg (fun x => by rw [e] at x; exact absurd x.2 (by simp))]
      exact e_die hp h (hs'.trans hw)
  rw [if_neg q4, if_neg (show ¬ (stI (p.at s.ws 4 p.sl) = 4 ∧ laterF p s.ws p.sl (p.at s.ws 6 p.sl) p.S.toNat 0 = true) from fun x => q4 x.1)]
  by_cases q5 : stI (p.at s.ws 4 p.sl) = 5
  · rw [if_pos q5, if_neg (show ¬ stI (p.at s.ws 4 p.sl) = 7 by omega), if_neg (show ¬ stI (p.at s.ws 4 p.sl) = 6 by omega)]
    exact (e_die hp h hw).mono (by omega)
  rw [if_neg q5]
  have hr : p.at s2.ws 7 p.sl = p.at s.ws 7 p.sl := by rw [hw]; exact busy_off hp h (ne_slot hp (j := 7) (by omega) hp.s0 hp.s1 (.inl (by omega)))
  by_cases q6 : stI (p.at s.ws 4 p.sl) = 6
  · rw [if_pos q6, if_neg (show ¬ stI (p.at s.ws 4 p.sl) = 7 by omega), if_pos q6]
    refine Ends.step (m := 147) (s_retired hg2) (by simp [hd]) ?_
    rw [hr]
    exact (e_wait_f hp h (s := p.ld s2 7 p.sl) hw q2).mono (by omega)
  · rw [if_neg q6, if_pos (show stI (p.at s.ws 4 p.sl) = 7 by omega)]
    refine Ends.step (m := 147) (s_retired hg2) (by simp [hd]) ?_
    rw [hr]
    exact (e_wait_t hp h (s := p.ld s2 7 p.sl) hw q2).mono (by omega)
end
end Go.Proofs.YtifojacfedjedaaGreat.Bound
end
