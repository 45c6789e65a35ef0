/- What words become when a transaction is let go of: the law's function is what a sweep alone comes to. No condition. What words become when a transaction is let go of: the law's function, as a sum. No condition. What words become when a transaction is let go of, and whether words are the same: as sums. No condition. -/
import Derived.Test.YtfccbghmagohaaaGreatSwPB
section
namespace Go.Proofs.YtfccbghmagohaaaGreat.Bound
open Go.Proofs.YtfccbghmagohaaaGreat.Ev Go.Proofs.YtfccbghmagohaaaGreat.ChartMath
set_option linter.unusedVariables false
set_option linter.unusedSimpArgs false
/-! Without a slot: cell by cell, or kind by kind. -/
theorem dropF_get (T S sl : Int) (g : Bool) (ws : List Int) : ∀ (n : Nat) (k : Int) (vs : List Int) (j : Nat), 0 ≤ k → (dropF T S sl g ws n k vs)[j]? = if k ≤ (j : Int) ∧ (j : Int) < k + n ∧ j < vs.length then some (newV T S sl g j (ws.getD j 0)) else vs[j]?
  | 0, k, vs, j, h0 => by rw [if_neg (by omega)]; rfl
  | n + 1, k, vs, j, h0 => by
    simp only [dropF]
    rw [dropF_get T S sl g ws n (k + 1) _ j (by omega), List.length_set]
    by_cases e : (j : Int) = k
    · have ej : j = k.toNat := by omega
      rw [if_neg (by omega)]
      by_cases hl : j < vs.length
      · rw [if_pos (by omega), ej, List.getElem?_set_self (by omega), ← ej, e]
      · rw [if_neg (by omega), List.getElem?_eq_none (by simp; omega), List.getElem?_eq_none (by omega)]
    · have ej : k.toNat ≠ j := by omega
      by_cases hc : k + 1 ≤ (j : Int) ∧ (j : Int) < k + 1 + n ∧ j < vs.length
      · rw [if_pos hc, if_pos (by omega)]
      · rw [if_neg hc, if_neg (by omega), List.getElem?_set_ne ej]
theorem lset_get {T S K : Int} {ws : List Int} {k o v : Int} (h0 : 0 ≤ cellOf T S K k o) (j : Nat) : (lset T S K ws k o v)[j]? = if (j : Int) = cellOf T S K k o ∧ j < ws.length then some v else ws[j]? := by
  unfold lset
  rw [if_pos h0]
  by_cases e : (j : Int) = cellOf T S K k o
  · have ej : (cellOf T S K k o).toNat = j := by omega
    by_cases hl : j < ws.length
    · rw [if_pos ⟨e, hl⟩, ej, List.getElem?_set_self hl]
    · rw [if_neg (by omega), List.getElem?_eq_none (by simp; omega), List.getElem?_eq_none (by omega)]
  · rw [if_neg (by omega), List.getElem?_set_ne (by omega)]
theorem keysF_get (p : Pm) (hS : 1 ≤ p.S) (hT : 1 ≤ p.T) : ∀ (n : Nat) (a : Int) (ws : List Int) (j : Nat), 0 ≤ a → a + n = p.K → (keysF p n a ws)[j]? = if 2 + p.T + 4 * p.S + a ≤ (j : Int) ∧ (j : Int) < 2 + p.T + 4 * p.S + p.K ∧ j < ws.length then some (dropM (ws.getD j 0) p.sl) else ws[j]?
  | 0, a, ws, j, h0, ha => by rw [if_neg (by omega)]; rfl
  | n + 1, a, ws, j, h0, ha => by
    have hc := cell_key (T := p.T) (S := p.S) h0 (show a < p.K by omega)
    have h1 : 0 ≤ cellOf p.T p.S p.K 8 a := by omega
    simp only [keysF]
    rw [keysF_get p hS hT n (a + 1) _ j (by omega) (by omega), lset_len, lset_get h1]
    by_cases e : (j : Int) = cellOf p.T p.S p.K 8 a
    · by_cases hl : j < ws.length
      · rw [if_neg (by omega), if_pos ⟨e, hl⟩, if_pos (by omega)]
        unfold Pm.at lat
        rw [if_pos h1, ← e]
        rfl
      · rw [if_neg (by omega), if_neg (by omega), if_neg (by omega)]
    · by_cases hr : 2 + p.T + 4 * p.S + (a + 1) ≤ (j : Int) ∧ (j : Int) < 2 + p.T + 4 * p.S + p.K ∧ j < ws.length
      · rw [if_pos hr, if_pos (by omega), List.getD_eq_getElem?_getD, lset_get h1, if_neg (fun x => e x.1), ← List.getD_eq_getElem?_getD]
      · rw [if_neg hr, if_neg (fun x => e x.1), if_neg (by omega)]
theorem othersF_get (p : Pm) (g : Bool) (hT : 1 ≤ p.T) : ∀ (n : Nat) (a : Int) (ws : List Int) (j : Nat), 0 ≤ a → a + n = p.S → (othersF p g n a ws)[j]? = if 2 + p.T + 4 * a ≤ (j : Int) ∧ (j : Int) < 2 + p.T + 4 * p.S ∧ ((j : Int) - 2 - p.T) % 4 = 0 ∧ (j : Int) ≠ 2 + p.T + 4 * p.sl ∧ j < ws.length then some (dropW (ws.getD j 0) p.sl g) else ws[j]?
  | 0, a, ws, j, h0, ha => by rw [if_neg (by omega)]; rfl
  | n + 1, a, ws, j, h0, ha => by
    have hc := cell_st (T := p.T) (K := p.K) (k := 4) (by omega) (by omega) h0 (show a < p.S by omega)
    have h1 : 0 ≤ cellOf p.T p.S p.K 4 a := by omega
    simp only [othersF]
    by_cases es : a = p.sl
    · rw [if_pos es, othersF_get p g hT n (a + 1) _ j (by omega) (by omega)]
      by_cases hr : 2 + p.T + 4 * (a + 1) ≤ (j : Int) ∧ (j : Int) < 2 + p.T + 4 * p.S ∧ ((j : Int) - 2 - p.T) % 4 = 0 ∧ (j : Int) ≠ 2 + p.T + 4 * p.sl ∧ j < ws.length
      · rw [if_pos hr, if_pos (by omega)]
      · rw [if_neg hr, if_neg (by omega)]
    rw [if_neg es, othersF_get p g hT n (a + 1) _ j (by omega) (by omega), lset_len, lset_get h1]
    by_cases e : (j : Int) = cellOf p.T p.S p.K 4 a
    · by_cases hl : j < ws.length
      · rw [if_neg (by omega), if_pos ⟨e, hl⟩, if_pos (by omega)]
        unfold Pm.at lat
        rw [if_pos h1, ← e]
        rfl
      · rw [if_neg (by omega), if_neg (by omega), if_neg (by omega)]
    · by_cases hr : 2 + p.T + 4 * (a + 1) ≤ (j : Int) ∧ (j : Int) < 2 + p.T + 4 * p.S ∧ ((j : Int) - 2 - p.T) % 4 = 0 ∧ (j : Int) ≠ 2 + p.T + 4 * p.sl ∧ j < ws.length
      · rw [if_pos hr, if_pos (by omega), List.getD_eq_getElem?_getD, lset_get h1, if_neg (fun x => e x.1), ← List.getD_eq_getElem?_getD]
      · rw [if_neg hr, if_neg (fun x => e x.1), if_neg (by omega)]
theorem keysF_len (p : Pm) : ∀ (n : Nat) (a : Int) (ws : List Int), (keysF p n a ws).length = ws.length
  | 0, _, _ => rfl
  | n + 1, a, ws => by simp only [keysF]; rw [keysF_len p n, lset_len]
theorem drop_eq (p : Pm) (hp : p.Ok) {ws : List Int} (h : p.good ws) : dropF p.T p.S p.sl (p.at ws 6 p.sl != 0) ws p.l 0 ws = dropW2 p ws := by
  have hc := h.cfg
  have hll := h.ll
  unfold lenOf at hll
  have hlen := h.len
  refine List.ext_getElem? fun j => ?_
  rw [dropF_get _ _ _ _ _ _ _ _ _ (by omega)]
  unfold dropW2
  rw [othersF_get p _ hc.1 _ _ _ _ (by omega) (by omega), keysF_get p (by omega) (by omega) _ _ _ _ (by omega) (by omega), keysF_len, List.getD_eq_getElem?_getD (l := keysF p p.K.toNat 0 ws), keysF_get p (by omega) (by omega) _ _ _ _ (by omega) (by omega)]
  by_cases hj : j < ws.length
  · rw [if_pos (by omega)]
    have eg : ws[j]? = some (ws.getD j 0) := by rw [List.getD_eq_getElem?_getD, List.getElem?_eq_getElem hj]; rfl
    unfold newV kindAt ofAt
    by_cases q1 : (j : Int) < 2 + p.T
    · rw [if_neg (show ¬ (2 + p.T + 4 * 0 ≤ (j : Int) ∧ _) by omega), if_neg (by omega), eg]
      repeat' split
      all_goals first | rfl | omega
    by_cases q2 : (j : Int) < 2 + p.T + 4 * p.S
    · have k2 : ¬ (2 + p.T + 4 * p.S + 0 ≤ (j : Int) ∧ (j : Int) < 2 + p.T + 4 * p.S + p.K ∧ j < ws.length) := by omega
      rw [if_neg k2, eg]
      have a0 : ¬ (j : Int) = 0 := by omega
      have a1 : ¬ (j : Int) = 1 := by omega
      have a2 : ¬ (j : Int) < 2 := by omega
      simp only [if_neg a0, if_neg a1, if_neg a2, if_neg q1, if_pos q2]
      rw [if_neg (show ¬ 4 + ((j : Int) - 2 - p.T) % 4 = 8 by omega)]
      by_cases q3 : ((j : Int) - 2 - p.T) % 4 = 0 ∧ (j : Int) ≠ 2 + p.T + 4 * p.sl
      · rw [if_pos (show 4 + ((j : Int) - 2 - p.T) % 4 = 4 ∧ ((j : Int) - 2 - p.T) / 4 ≠ p.sl by omega), if_pos (by omega)]
        rfl
      · rw [if_neg (show ¬ (4 + ((j : Int) - 2 - p.T) % 4 = 4 ∧ ((j : Int) - 2 - p.T) / 4 ≠ p.sl) by omega), if_neg (by omega)]
    · have a0 : ¬ (j : Int) = 0 := by omega
      have a1 : ¬ (j : Int) = 1 := by omega
      simp only [if_neg a0, if_neg a1, if_neg q1, if_neg q2]
      rw [if_pos trivial, if_neg (by omega), if_pos (by omega)]
  · rw [if_neg (by omega), if_neg (by omega), if_neg (by omega)]
theorem heldF_pm {p q : Pm} (h1 : p.T = q.T) (h2 : p.S = q.S) (h3 : p.K = q.K) (ws : List Int) (own r : Int) : ∀ (n : Nat) (k : Int), heldF p ws own r n k = heldF q ws own r n k
  | 0, _ => rfl
  | n + 1, k => by simp only [heldF, heldF_pm h1 h2 h3 ws own r n (k + 1), Pm.at, h1, h2, h3]
theorem laterF_pm {p q : Pm} (h1 : p.T = q.T) (h2 : p.S = q.S) (h3 : p.K = q.K) (ws : List Int) (own r : Int) : ∀ (n : Nat) (k : Int), laterF p ws own r n k = laterF q ws own r n k
  | 0, _ => rfl
  | n + 1, k => by simp only [laterF, laterF_pm h1 h2 h3 ws own r n (k + 1), Pm.at, h1, h2, h3]
section
variable (T S K G Q own sl gn : Int) (l c : Nat) (ws : List Int)
def qFin (vs : List Int) : PT (Nat × List Atom) := .b (rowL T S K G Q l vs && decide (0 ≤ cellOf T S K 6 sl)) (.b (decide ((0 : Int) ≤ 0 ∧ (0 : Int) ≤ 7 ∧ 0 ≤ IntKind.i64.wrap (gn + 1) ∧ IntKind.i64.wrap (gn + 1) ≤ 1073741824)) (.b (rowL T S K G Q l (lset T S K vs 6 sl 0) && decide (0 ≤ cellOf T S K 4 sl)) (.leaf (1, [.n l, .n l, .i 0, .ws ws, .ws (lset T S K (lset T S K vs 6 sl 0) 4 sl (newI 0 (IntKind.i64.wrap (gn + 1))))])) .bad) .bad) .bad
def qHeld (vs : List Int) (yes no : PT (Nat × List Atom)) : PT (Nat × List Atom) := .b (rowL T S K G Q l vs && decide (0 ≤ cellOf T S K 7 sl)) (.b (goodB T S K G Q l vs && decide ((0 : Int) ≤ 0 ∧ T = T)) (.b (heldF (mkP T S K own 0) vs own (lat T S K vs 7 sl) (T - 0).toNat 0) yes no) .bad) .bad
def dropT (vs : List Int) : List Int := dropF T S sl (lat T S K vs 6 sl != 0) vs l 0 vs
def qEnd (vs : List Int) : PT (Nat × List Atom) := qHeld T S K G Q own sl l vs (.cs 1 (.leaf (1, [.n l, .n l, .i 9, .ws ws, .ws vs]))) (.cs 1 (qFin T S K G Q sl gn l ws vs))
def qDrop (vs : List Int) : PT (Nat × List Atom) := .b (goodB T S K G Q l vs && decide (0 ≤ sl ∧ sl < S)) (.b (goodB T S K G Q l (dropT T S K sl l vs) && decide (0 ≤ sl ∧ sl < S ∧ (0 : Int) ≤ 7 ∧ (7 : Int) ≤ 7)) (qEnd T S K G Q own sl gn l ws (retireW (mkP T S K 0 sl) (dropT T S K sl l vs) 7)) .bad) .bad
def qB (vs : List Int) (nine : Nat × List Atom) (seven : PT (Nat × List Atom)) : PT (Nat × List Atom) := qHeld T S K G Q own sl l vs (.cs 1 (.leaf nine)) (.cs 1 (.b (decide (stI (lat T S K ws 4 sl) < 7)) (qDrop T S K G Q own sl gn l ws vs) seven))
def qA : PT (Nat × List Atom) := .b (decide (stI (lat T S K ws 4 sl) < 6)) (.b (goodB T S K G Q l ws && decide (0 ≤ sl ∧ sl < S ∧ (0 : Int) ≤ 6 ∧ (6 : Int) ≤ 7)) (qB T S K G Q own sl gn l ws (retireW (mkP T S K 0 sl) ws 6) (1, [.n l, .n l, .i 9, .ws ws, .ws (retireW (mkP T S K 0 sl) ws 6)]) .bad) .bad)
  (qB T S K G Q own sl gn l ws ws (0, [.n l, .n c, .i 9, .ws ws]) (qHeld T S K G Q own sl l ws .bad (.cs 1 (qFin T S K G Q sl gn l ws ws))))
def qNo (e : Int) : PT (Nat × List Atom) := .leaf (0, [.n l, .n c, .i e, .ws ws])
def pt_swp (h : Int) : PT (Nat × List Atom) := .b (isW h) (.b (!okT h S) (.cs 1 (qNo l c ws 2)) (.b (rowL T S K G Q l ws && decide (0 ≤ cellOf T S K 4 sl)) (.b (isW (lat T S K ws 4 sl)) (.b (gnI (lat T S K ws 4 sl) != gn) (.cs 5 (qNo l c ws 2)) (.cs 1 (.b (isW (lat T S K ws 4 sl)) (.cs 1 (.b (decide (stI (lat T S K ws 4 sl) < 2)) (.cs 1 (qNo l c ws 2)) (.b (isW (lat T S K ws 4 sl)) (.b (bitI (lat T S K ws 4 sl) 26) (.cs 1 (qNo l c ws 3)) (.b (isW (lat T S K ws 4 sl)) (.b (decide (stI (lat T S K ws 4 sl) < 4)) (.cs 1 (qNo l c ws 4)) (.cs 1 (.b (isW h) (.b (rowL T S K G Q l ws && decide (0 ≤ cellOf T S K 4 sl)) (.b (isW (lat T S K ws 4 sl)) (.b (stI (lat T S K ws 4 sl) == 4)
  (.cs 6 (.b (rowL T S K G Q l ws && decide (0 ≤ cellOf T S K 6 sl)) (.cs 1 (.b (goodB T S K G Q l ws && decide ((0 : Int) ≤ 0 ∧ S = S)) (.b (laterF (mkP T S K 0 sl) ws sl (lat T S K ws 6 sl) (S - 0).toNat 0) (.cs 1 (qNo l c ws 9)) (.cs 1 (qA T S K G Q own sl gn l c ws))) .bad)) .bad)) (.cs 9 (qA T S K G Q own sl gn l c ws))) .bad) .bad) .bad))) .bad)) .bad))) .bad))) .bad) .bad)) .bad
end
theorem ct_swp (T S K G Q own h : Int) (l c : Nat) (ws : List Int) : cutP (pt_swp T S K G Q own (if okT h S = true then slI h else 0) (if okT h S = true then genI h else 0) l c ws h) (endF (ev sumsG2 60 33) SwF [.i T, .i S, .i K, .i G, .i Q, .n l, .n c, .i own, .i h, .ws ws]) = den (pt_swp T S K G Q own (if okT h S = true then slI h else 0) (if okT h S = true then genI h else 0) l c ws h) := by kernel_rfl
end Go.Proofs.YtfccbghmagohaaaGreat.Bound
end

section
namespace Go.Proofs.YtfccbghmagohaaaGreat.Bound
open Go.Proofs.YtfccbghmagohaaaGreat.Ev Go.Proofs.YtfccbghmagohaaaGreat.ChartMath
set_option linter.unusedVariables false
set_option linter.unusedSimpArgs false
def pmOf (T S K G Q own h : Int) (l : Nat) : Pm := ⟨T, S, K, G, Q, own, slI h, genI h, l, l⟩
/-- Whether the words are new ones. -/
def freshB (p : Pm) (ws : List Int) : Bool :=
  if gnI (p.at ws 4 p.sl) ≠ p.gn ∨ stI (p.at ws 4 p.sl) = 0 ∨ stI (p.at ws 4 p.sl) = 1 then false
  else if bitI (p.at ws 4 p.sl) 26 = true then false
  else if stI (p.at ws 4 p.sl) = 2 ∨ stI (p.at ws 4 p.sl) = 3 then false
  else if stI (p.at ws 4 p.sl) = 4 ∧ laterF p ws p.sl (p.at ws 6 p.sl) p.S.toNat 0 = true then false
  else if 6 ≤ stI (p.at ws 4 p.sl) ∧ heldI p ws (p.at ws 7 p.sl) = true then false else true
section
variable {p : Pm} (hp : p.Ok)
include hp
theorem retire_good {ws : List Int} (h : p.good ws) (st : Int) : p.good (retireW p ws st) := by
  have hwt := h.lat 2 0
  have hx : 0 ≤ IntKind.u64.wrap (p.at ws 2 0 + 1) ∧ IntKind.u64.wrap (p.at ws 2 0 + 1) < 18446744073709551616 := by
    have : IntKind.u64.wrap (p.at ws 2 0 + 1) = (p.at ws 2 0 + 1) % 18446744073709551616 := by simp [IntKind.wrap, IntKind.bits, IntKind.signed]
    omega
  exact note_good hp h (mv_word _ _ _ (h.lat _ _)) hx hwt
theorem retire_at {ws : List Int} (h : p.good ws) (st : Int) : p.at (retireW p ws st) 7 p.sl = p.at ws 2 0 := by
  have hc := h.cfg
  have h7 := c_ret hp
  have hs := hp.s0
  unfold retireW noteW
  exact lat_same (by omega) (by rw [lset_len, lset_len]; exact h.cell _ _)
theorem get_fin {ws vs : List Int} (h : p.good vs) : (den (qFin p.T p.S p.K p.G p.Q p.sl p.gn p.l ws vs)).get = some (1, [.n p.l, .n p.l, .i 0, .ws ws, .ws (finalW p vs)]) := by
  have hc := h.cfg
  have c4 : 0 ≤ cellOf p.T p.S p.K 4 p.sl := st_cell hp hc.1
  have c6 : 0 ≤ cellOf p.T p.S p.K 6 p.sl := by have := c_num hp; have := hp.s0; omega
  have r0 : rowL p.T p.S p.K p.G p.Q p.l vs = true := rowL_iff.2 ⟨h.right, h.len, h.ll⟩
  have r1 : rowL p.T p.S p.K p.G p.Q p.l (lset p.T p.S p.K vs 6 p.sl 0) = true := rowL_iff.2 ⟨h.right, by rw [lset_len, h.len], h.ll⟩
  have g0 := hp.g0
  have g1 := hp.g1
  have hw : IntKind.i64.wrap (p.gn + 1) = p.gn + 1 := by rw [IntKind.wrap_i64]; omega
  have hr : (0 : Int) ≤ 0 ∧ (0 : Int) ≤ 7 ∧ 0 ≤ p.gn + 1 ∧ p.gn + 1 ≤ 1073741824 := by omega
  simp only [qFin, den, Tree.get_br, Tree.get_leaf, r0, r1, hw, decide_eq_true c4, decide_eq_true c6, decide_eq_true hr, Bool.and_self, if_true]
  rfl
theorem get_held {vs : List Int} (h : p.good vs) (yes no : PT (Nat × List Atom)) : (den (qHeld p.T p.S p.K p.G p.Q p.th p.sl p.l vs yes no)).get = if heldI p vs (p.at vs 7 p.sl) = true then (den yes).get else (den no).get := by
  have hc := h.cfg
  have c7 : 0 ≤ cellOf p.T p.S p.K 7 p.sl := by have := c_ret hp; have := hp.s0; omega
  have r0 : rowL p.T p.S p.K p.G p.Q p.l vs = true := rowL_iff.2 ⟨h.right, h.len, h.ll⟩
  have g0 : goodB p.T p.S p.K p.G p.Q p.l vs = true := goodB_iff.2 h
  have e1 : heldF (mkP p.T p.S p.K p.th 0) vs p.th (lat p.T p.S p.K vs 7 p.sl) (p.T - 0).toNat 0 = heldI p vs (p.at vs 7 p.sl) := by rw [Int.sub_zero]; exact heldF_pm (p := mkP p.T p.S p.K p.th 0) (q := p) rfl rfl rfl _ _ _ _ _
  have tt : (0 : Int) ≤ 0 ∧ p.T = p.T := ⟨by omega, rfl⟩
  simp only [qHeld, den, Tree.get_br, r0, g0, decide_eq_true c7, Int.le_refl, and_self, decide_true, Bool.and_self, if_true, e1]
theorem get_end {ws vs : List Int} (h : p.good vs) : (den (qEnd p.T p.S p.K p.G p.Q p.th p.sl p.gn p.l ws vs)).get = some (1, [.n p.l, .n p.l, .i (endT p vs (p.at vs 7 p.sl)).1, .ws ws, .ws (endT p vs (p.at vs 7 p.sl)).2]) := by
  unfold qEnd
  rw [get_held hp h]
  unfold endT
  by_cases e : heldI p vs (p.at vs 7 p.sl) = true
  · rw [if_pos e, if_pos e]; rfl
  · rw [if_neg e, if_neg e]; exact get_fin hp h
theorem get_drop {ws vs : List Int} (h : p.good vs) : (den (qDrop p.T p.S p.K p.G p.Q p.th p.sl p.gn p.l ws vs)).get = some (1, [.n p.l, .n p.l, .i (endT p (retireW p (dropW2 p vs) 7) (p.at (dropW2 p vs) 2 0)).1, .ws ws, .ws (endT p (retireW p (dropW2 p vs) 7) (p.at (dropW2 p vs) 2 0)).2]) := by
  have hd := drop_good hp h
  have e1 : dropT p.T p.S p.K p.sl p.l vs = dropW2 p vs := drop_eq p hp h
  have e2 : retireW (mkP p.T p.S p.K 0 p.sl) (dropW2 p vs) 7 = retireW p (dropW2 p vs) 7 := rfl
  have g0 : goodB p.T p.S p.K p.G p.Q p.l vs = true := goodB_iff.2 h
  have g1 : goodB p.T p.S p.K p.G p.Q p.l (dropW2 p vs) = true := goodB_iff.2 hd
  have s0 := hp.s0
  have s1 := hp.s1
  unfold qDrop
  simp only [den, Tree.get_br]
  rw [e1, e2, if_pos (by rw [g0]; simp; omega), if_pos (by rw [g1]; simp; omega), get_end hp (retire_good hp hd 7), retire_at hp hd]
theorem get_B {ws vs : List Int} (h : p.good vs) (nine : Nat × List Atom) (seven : PT (Nat × List Atom)) : (den (qB p.T p.S p.K p.G p.Q p.th p.sl p.gn p.l ws vs nine seven)).get =
    if heldI p vs (p.at vs 7 p.sl) = true then some nine else if stI (p.at ws 4 p.sl) < 7 then some (1, [.n p.l, .n p.l, .i (endT p (retireW p (dropW2 p vs) 7) (p.at (dropW2 p vs) 2 0)).1, .ws ws, .ws (endT p (retireW p (dropW2 p vs) 7) (p.at (dropW2 p vs) 2 0)).2]) else (den seven).get := by
  unfold qB
  rw [get_held hp h]
  simp only [den, Tree.get_br, Tree.get_leaf]
  rw [get_drop hp h]
  by_cases e0 : heldI p vs (p.at vs 7 p.sl) = true
  · rw [if_pos e0, if_pos e0]
  rw [if_neg e0, if_neg e0]
  by_cases e : stI (p.at ws 4 p.sl) < 7
  · rw [if_pos (decide_eq_true e), if_pos e]
  · rw [if_neg (by simpa using e), if_neg e]
/-- Behind its being ready. -/
theorem get_A {ws : List Int} (c : Nat) (h : p.good ws) (h4 : 4 ≤ stI (p.at ws 4 p.sl)) : (den (qA p.T p.S p.K p.G p.Q p.th p.sl p.gn p.l c ws)).get =
    if 6 ≤ stI (p.at ws 4 p.sl) ∧ heldI p ws (p.at ws 7 p.sl) = true then some (0, [.n p.l, .n c, .i 9, .ws ws])
    else some (1, [.n p.l, .n p.l, .i (if stI (p.at ws 4 p.sl) = 7 then endT p ws (p.at ws 7 p.sl) else if stI (p.at ws 4 p.sl) = 6 then endB p ws (p.at ws 7 p.sl) else endB p (retireW p ws 6) (p.at ws 2 0)).1, .ws ws, .ws (if stI (p.at ws 4 p.sl) = 7 then endT p ws (p.at ws 7 p.sl) else if stI (p.at ws 4 p.sl) = 6 then endB p ws (p.at ws 7 p.sl) else endB p (retireW p ws 6) (p.at ws 2 0)).2]) := by
  have hr := retire_good hp h 6
  have g0 : goodB p.T p.S p.K p.G p.Q p.l ws = true := goodB_iff.2 h
  have s0 := hp.s0
  have s1 := hp.s1
  have s7 := (st_range (p.at ws 4 p.sl)).2
  have e2 : retireW (mkP p.T p.S p.K 0 p.sl) ws 6 = retireW p ws 6 := rfl
  unfold qA
  simp only [den, Tree.get_br]
  by_cases q6 : stI (p.at ws 4 p.sl) < 6
  · rw [if_pos (decide_eq_true q6), if_pos (by rw [g0]; simp; omega), e2, get_B hp hr, retire_at hp h, if_pos (show stI (p.at ws 4 p.sl) < 7 by omega), if_neg (show ¬ (6 ≤ stI (p.at ws 4 p.sl) ∧ _) by omega), if_neg (show ¬ stI (p.at ws 4 p.sl) = 7 by omega), if_neg (show ¬ stI (p.at ws 4 p.sl) = 6 by omega)]
    unfold endB
    by_cases e : heldI p (retireW p ws 6) (p.at ws 2 0) = true
    · rw [if_pos e, if_pos e]
    · rw [if_neg e, if_neg e]
  · rw [if_neg (by simpa using q6), get_B hp h]
    by_cases e : heldI p ws (p.at ws 7 p.sl) = true
    · rw [if_pos e, if_pos ⟨by omega, e⟩]
    · rw [if_neg e, if_neg (show ¬ (6 ≤ stI (p.at ws 4 p.sl) ∧ heldI p ws (p.at ws 7 p.sl) = true) from fun x => e x.2)]
      by_cases q7 : stI (p.at ws 4 p.sl) = 7
      · rw [if_neg (show ¬ stI (p.at ws 4 p.sl) < 7 by omega), if_pos q7, get_held hp h, if_neg e]
        simp only [den]
        rw [get_fin hp h]
        unfold endT
        rw [if_neg e]
      · rw [if_pos (show stI (p.at ws 4 p.sl) < 7 by omega), if_neg q7, if_pos (show stI (p.at ws 4 p.sl) = 6 by omega)]
        unfold endB
        rw [if_neg e]
theorem get_swp {ws : List Int} (c : Nat) {h : Int} (hg : p.good ws) (hh : isW h = true) (hk : okT h p.S = true) : (den (pt_swp p.T p.S p.K p.G p.Q p.th p.sl p.gn p.l c ws h)).get =
    if freshB p ws = true then some (1, [.n p.l, .n p.l, .i (sweptI p ws).1, .ws ws, .ws (sweptI p ws).2]) else some (0, [.n p.l, .n c, .i (sweptI p ws).1, .ws ws]) := by
  have hc := hg.cfg
  have c4 : 0 ≤ cellOf p.T p.S p.K 4 p.sl := st_cell hp hc.1
  have c6 : 0 ≤ cellOf p.T p.S p.K 6 p.sl := by have := c_num hp; have := hp.s0; omega
  have r0 : rowL p.T p.S p.K p.G p.Q p.l ws = true := rowL_iff.2 ⟨hg.right, hg.len, hg.ll⟩
  have g0 : goodB p.T p.S p.K p.G p.Q p.l ws = true := goodB_iff.2 hg
  have ss : (0 : Int) ≤ 0 ∧ p.S = p.S := ⟨by omega, rfl⟩
  have hst := st_range (p.at ws 4 p.sl)
  have el : laterF (mkP p.T p.S p.K 0 p.sl) ws p.sl (lat p.T p.S p.K ws 6 p.sl) (p.S - 0).toNat 0 = laterF p ws p.sl (p.at ws 6 p.sl) p.S.toNat 0 := by rw [Int.sub_zero]; exact laterF_pm (p := mkP p.T p.S p.K 0 p.sl) (q := p) rfl rfl rfl _ _ _ _ _
  have hA := fun h4 => get_A hp (ws := ws) c hg h4
  unfold pt_swp freshB sweptI
  simp only [den, Tree.get_br, Tree.get_leaf, hh, hk, r0, g0, hg.isW, decide_eq_true c4, decide_eq_true c6, Int.le_refl, and_self, decide_true, Bool.and_self, if_true, Bool.not_true, Bool.false_eq_true, if_false, el, qNo, bne_iff_ne]
  by_cases q1 : gnI (p.at ws 4 p.sl) = p.gn
  case neg => rw [if_pos q1, if_pos (show gnI (p.at ws 4 p.sl) ≠ p.gn ∨ _ from .inl q1)]; simp [q1]
  rw [if_neg (fun x => x q1)]
  by_cases q2 : stI (p.at ws 4 p.sl) < 2
  · have q3 : gnI (p.at ws 4 p.sl) ≠ p.gn ∨ stI (p.at ws 4 p.sl) = 0 ∨ stI (p.at ws 4 p.sl) = 1 := by right; omega
    rw [if_pos (decide_eq_true q2)]
    simp only [if_pos q3, Bool.false_eq_true, if_false]
  have q3 : ¬ (gnI (p.at ws 4 p.sl) ≠ p.gn ∨ stI (p.at ws 4 p.sl) = 0 ∨ stI (p.at ws 4 p.sl) = 1) := by
    intro x
    rcases x with x | x
    · exact x q1
    · omega
  rw [if_neg (by simpa using q2)]
  simp only [if_neg q3]
  by_cases q4 : bitI (p.at ws 4 p.sl) 26 = true
  · rw [if_pos q4]
    simp only [if_pos q4, Bool.false_eq_true, if_false]
  rw [if_neg q4]
  simp only [if_neg q4]
  by_cases q5 : stI (p.at ws 4 p.sl) < 4
  · have q6 : stI (p.at ws 4 p.sl) = 2 ∨ stI (p.at ws 4 p.sl) = 3 := by omega
    rw [if_pos (decide_eq_true q5)]
    simp only [if_pos q6, Bool.false_eq_true, if_false]
  have q6 : ¬ (stI (p.at ws 4 p.sl) = 2 ∨ stI (p.at ws 4 p.sl) = 3) := by omega
  rw [if_neg (by simpa using q5), hA (by omega)]
  simp only [if_neg q6]
  by_cases q7 : stI (p.at ws 4 p.sl) = 4 ∧ laterF p ws p.sl (p.at ws 6 p.sl) p.S.toNat 0 = true
  · rw [if_pos (by rw [beq_iff_eq]; exact q7.1), if_pos q7.2]
    simp only [if_pos q7, Bool.false_eq_true, if_false]
  simp only [if_neg q7]
  have out : ∀ b : Bool, (b = true ↔ stI (p.at ws 4 p.sl) = 4) → (if b = true then (if laterF p ws p.sl (p.at ws 6 p.sl) p.S.toNat 0 = true then some ((0 : Nat), [Atom.n p.l, .n c, .i 9, .ws ws]) else (den (qA p.T p.S p.K p.G p.Q p.th p.sl p.gn p.l c ws)).get) else (den (qA p.T p.S p.K p.G p.Q p.th p.sl p.gn p.l c ws)).get) = (den (qA p.T p.S p.K p.G p.Q p.th p.sl p.gn p.l c ws)).get := by
    intro b hb
    by_cases e : b = true
    · rw [if_pos e, if_neg (fun x => q7 ⟨hb.1 e, x⟩)]
    · rw [if_neg e]
  rw [← hA (by omega), out _ beq_iff_eq, hA (by omega)]
  by_cases q8 : 6 ≤ stI (p.at ws 4 p.sl) ∧ heldI p ws (p.at ws 7 p.sl) = true
  · simp only [if_pos q8, Bool.false_eq_true, if_false]
    have e9 : (if stI (p.at ws 4 p.sl) = 7 then endT p ws (p.at ws 7 p.sl) else if stI (p.at ws 4 p.sl) = 6 then endB p ws (p.at ws 7 p.sl) else endB p (retireW p ws 6) (p.at ws 2 0)).1 = 9 := by
      by_cases q9 : stI (p.at ws 4 p.sl) = 7
      · rw [if_pos q9]; unfold endT; rw [if_pos q8.2]
      · rw [if_neg q9, if_pos (by omega)]; unfold endB; rw [if_pos q8.2]
    rw [e9]
  · simp only [if_neg q8, if_true]
theorem end_good {ws : List Int} (h : p.good ws) : p.good (finalW p ws) := by
  have g0 := hp.g0
  have g1 := hp.g1
  exact (h.lset (by omega) _ _).lset (newI_word (by omega) (by omega) (by omega) (by omega)) _ _
theorem endT_good {ws : List Int} (h : p.good ws) (r : Int) : p.good (endT p ws r).2 := by
  unfold endT
  split
  · exact h
  · exact end_good hp h
theorem endB_good {ws : List Int} (h : p.good ws) (r : Int) : p.good (endB p ws r).2 := by
  unfold endB
  split
  · exact h
  · exact endT_good hp (retire_good hp (drop_good hp h) 7) _
theorem swept_good {ws : List Int} (h : p.good ws) : p.good (sweptI p ws).2 := by
  unfold sweptI
  repeat' split
  all_goals first | exact h | exact endT_good hp h _ | exact endB_good hp h _ | exact endB_good hp (retire_good hp h 6) _
omit hp in
theorem swept_same {ws : List Int} (hf : freshB p ws = false) : (sweptI p ws).2 = ws := by
  have hst := st_range (p.at ws 4 p.sl)
  unfold freshB at hf
  unfold sweptI
  by_cases q1 : gnI (p.at ws 4 p.sl) ≠ p.gn ∨ stI (p.at ws 4 p.sl) = 0 ∨ stI (p.at ws 4 p.sl) = 1
  · rw [if_pos q1]
  rw [if_neg q1] at hf ⊢
  by_cases q2 : bitI (p.at ws 4 p.sl) 26 = true
  · rw [if_pos q2]
  rw [if_neg q2] at hf ⊢
  by_cases q3 : stI (p.at ws 4 p.sl) = 2 ∨ stI (p.at ws 4 p.sl) = 3
  · rw [if_pos q3]
  rw [if_neg q3] at hf ⊢
  by_cases q4 : stI (p.at ws 4 p.sl) = 4 ∧ laterF p ws p.sl (p.at ws 6 p.sl) p.S.toNat 0 = true
  · rw [if_pos q4]
  rw [if_neg q4] at hf ⊢
  by_cases q5 : 6 ≤ stI (p.at ws 4 p.sl) ∧ heldI p ws (p.at ws 7 p.sl) = true
  · by_cases q7 : stI (p.at ws 4 p.sl) = 7
    · rw [if_pos q7]; unfold endT; rw [if_pos q5.2]
    · rw [if_neg q7, if_pos (by omega)]; unfold endB; rw [if_pos q5.2]
  · rw [if_neg q5] at hf; cases hf
end
end Go.Proofs.YtfccbghmagohaaaGreat.Bound
end

section
namespace Go.Proofs.YtfccbghmagohaaaGreat.Bound
open Go.Proofs.YtfccbghmagohaaaGreat.Ev Go.Proofs.YtfccbghmagohaaaGreat.ChartMath
set_option linter.unusedVariables false
set_option linter.unusedSimpArgs false
theorem pmOf_ok {T S K G Q own h : Int} {l : Nat} (hh : isW h = true) (hk : okT h S = true) : (pmOf T S K G Q own h l).Ok := by
  have h0 := isW_iff.1 hh
  simp only [okT, slB, Bool.and_eq_true, decide_eq_true_eq] at hk
  obtain ⟨⟨⟨a, b⟩, c⟩, d⟩ := hk
  have e : slI h = h % 16 - 1 := by
    unfold slI slB
    rw [if_pos (decide_eq_true ⟨a, b⟩)]
  refine ⟨?_, c, ?_, ?_, d⟩
  · show 0 ≤ slI h; omega
  · show slI h ≤ 11; omega
  · show 0 ≤ genI h
    unfold genI
    split <;> omega
def sw_o : List Atom → Tree (Nat × List Atom)
  | [.i T, .i S, .i K, .i G, .i Q, .n l, .n c, .i own, .i h, .ws ws] => .br (goodB T S K G Q l ws && isW h) (.br (okT h S) (.br (freshB (pmOf T S K G Q own h l) ws) (.leaf (1, [.n l, .n l, .i (sweptI (pmOf T S K G Q own h l) ws).1, .ws ws, .ws (sweptI (pmOf T S K G Q own h l) ws).2])) (.leaf (0, [.n l, .n c, .i (sweptI (pmOf T S K G Q own h l) ws).1, .ws ws]))) (.leaf (0, [.n l, .n c, .i 2, .ws ws]))) .bad
  | _ => .bad
theorem sw_st (x : List Atom) (r : Nat × List Atom) (h : (sw_o x).get = some r) : (endF (ev sumsG2 60 33) SwF x).get = some r := by
  unfold sw_o at h
  split at h
  · rename_i T S K G Q l c own h0 ws
    obtain ⟨hg, h2⟩ := get_br h
    simp only [Bool.and_eq_true] at hg
    refine cut_get (ct_swp T S K G Q own h0 l c ws) ?_
    rw [← h2, Tree.get_br]
    by_cases hk : okT h0 S = true
    · simp only [if_pos hk]
      have := get_swp (p := pmOf T S K G Q own h0 l) (pmOf_ok hg.2 hk) c (goodB_iff.1 hg.1) hg.2 hk
      refine this.trans ?_
      rw [Tree.get_br]
      rfl
    · have hk : okT h0 S = false := by simpa using hk
      simp only [pt_swp, den, Tree.get_br, hg.2, hk, if_true, Bool.not_false, Bool.false_eq_true, if_false]
      rfl
  · cases h
noncomputable def withSwept (sums : Sums) : Sums := withT sums 33 [(SwF, sw_o)]
theorem withSwept_ok {sums : Sums} (h : SumsOk sums) : SumsOk (withSwept sums) := withT_ok h sumsG2_ok 60 (by kernel_rfl) fun a ha x r h => by
  simp only [List.mem_cons, List.not_mem_nil, or_false] at ha
  subst ha
  exact sw_st x r h
/-! Whether two rows are the same: the second one may be a window. -/
def sBt (t : Nat) : List (Nat × TypeId × CPat) := [(0, 22, .ints .u64), (1, t, .ints .u64)]
def SLt (t : Nat) : LForm := ⟨[0, 1, 5], ⟨[(0, .slice 0 0 none), (1, .slice 1 0 none), (5, i6)], 26, sBt t, 2, []⟩, [4], [(0, ⟨[], 26, sBt t, 2, []⟩)], [⟨[(4, .bool)], 26, sBt t, 2, []⟩]⟩
def smA (l c l' c' : Nat) (k : Int) (ws vs : List Int) : List Atom := [.n l, .n c, .n l', .n c', .i k, .ws ws, .ws vs]
def pt_sm (l c l' c' : Nat) (k : Int) (ws vs : List Int) : PT (Ex × List Atom) := .b (decide (k < (l : Int))) (.b (decide (0 ≤ k ∧ k < (l : Int))) (.b (decide ((0 + k.toNat * 1) < ws.length)) (.b (decide (0 ≤ k ∧ k < (l' : Int))) (.b (decide ((0 + k.toNat * 1) < vs.length)) (.b (ws.getD (0 + k.toNat * 1) 0 != vs.getD (0 + k.toNat * 1) 0) (.leaf (.ret, [.b false, .ws ws, .ws vs])) (.leaf (.normal, smA l c l' c' (IntKind.i64.wrap (k + 1)) ws vs))) .bad) .bad) .bad) .bad) (.leaf (.exit 0, [.ws ws, .ws vs]))
theorem ct_sm1 (l c l' c' : Nat) (k : Int) (ws vs : List Int) : cutP (pt_sm l c l' c' k ws vs) (round noSums 60 28 4 2 (SLt winT) (smA l c l' c' k ws vs)) = den (pt_sm l c l' c' k ws vs) := by kernel_rfl
theorem ct_sm0 (l c l' c' : Nat) (k : Int) (ws vs : List Int) : cutP (pt_sm l c l' c' k ws vs) (round noSums 60 28 4 2 (SLt 22) (smA l c l' c' k ws vs)) = den (pt_sm l c l' c' k ws vs) := by kernel_rfl
def sm_t : List Atom → Tree (Ex × List Atom)
  | [.n l, .n c, .n l', .n c', .i k, .ws ws, .ws vs] => .br (decide (ws.length = l ∧ vs.length = l ∧ l' = l ∧ 0 ≤ k ∧ l ≤ 900)) (.br (sameF ws vs ((l : Int) - k).toNat k) (.leaf (.exit 0, [.ws ws, .ws vs])) (.leaf (.ret, [.b false, .ws ws, .ws vs]))) .bad
  | _ => .bad
theorem sm_iter {t : Nat} (ct : ∀ (l c l' c' : Nat) (k : Int) (ws vs : List Int), cutP (pt_sm l c l' c' k ws vs) (round noSums 60 28 4 2 (SLt t) (smA l c l' c' k ws vs)) = den (pt_sm l c l' c' k ws vs)) {l c c' : Nat} {ws vs : List Int} (hw : ws.length = l) (hv : vs.length = l) (hb : l ≤ 900) : ∀ (n : Nat) (k : Int), ((l : Int) - k).toNat = n → 0 ≤ k → ∃ j, iterR (round noSums 60 28 4 2 (SLt t)) j (smA l c l c' k ws vs) = some (if sameF ws vs n k = true then (.exit 0, [.ws ws, .ws vs]) else (.ret, [.b false, .ws ws, .ws vs]))
  | 0, k, hn, h0 => by
    refine ⟨1, ?_⟩
    have e : (round noSums 60 28 4 2 (SLt t) (smA l c l c' k ws vs)).get = some (.exit 0, [.ws ws, .ws vs]) := cut_get (ct l c l c' k ws vs) (by
      simp only [pt_sm, den, Tree.get_br, Tree.get_leaf, decide_eq_false (show ¬ k < (l : Int) by omega), Bool.false_eq_true, if_false])
    simp only [iterR, e, sameF, if_true]
  | n + 1, k, hn, h0 => by
    have hk : k < (l : Int) := by omega
    have w1 := wr_s (a := k) (by omega) (by omega)
    obtain ⟨j, hj⟩ := sm_iter ct hw hv hb n (k + 1) (by omega) (by omega)
    have base : ∀ r, (if (ws.getD k.toNat 0 != vs.getD k.toNat 0) = true then some (Ex.ret, [Atom.b false, .ws ws, .ws vs]) else some (Ex.normal, smA l c l c' (k + 1) ws vs)) = some r → (round noSums 60 28 4 2 (SLt t) (smA l c l c' k ws vs)).get = some r := fun r hr => cut_get (ct l c l c' k ws vs) (by
      simp only [pt_sm, den, Tree.get_br, Tree.get_leaf, Nat.zero_add, Nat.mul_one, decide_eq_true hk, decide_eq_true (show 0 ≤ k ∧ k < (l : Int) from ⟨h0, hk⟩), decide_eq_true (show k.toNat < ws.length by omega), decide_eq_true (show k.toNat < vs.length by omega), if_true, w1]
      exact hr)
    by_cases e : ws.getD k.toNat 0 = vs.getD k.toNat 0
    · refine ⟨j + 1, ?_⟩
      have e1 := base _ (if_neg (by simp only [e, bne_self_eq_false]; simp))
      simp only [iterR, e1]
      rw [hj]
      simp only [sameF, e, beq_self_eq_true, Bool.true_and]
    · refine ⟨1, ?_⟩
      have e1 := base _ (if_pos (by rw [bne_iff_ne]; exact e))
      have e2 : (ws.getD k.toNat 0 == vs.getD k.toNat 0) = false := by rw [beq_eq_false_iff_ne]; exact e
      simp only [iterR, e1, sameF, e2, Bool.false_and, Bool.false_eq_true, if_false]
theorem sm_step {t : Nat} (ct : ∀ (l c l' c' : Nat) (k : Int) (ws vs : List Int), cutP (pt_sm l c l' c' k ws vs) (round noSums 60 28 4 2 (SLt t) (smA l c l' c' k ws vs)) = den (pt_sm l c l' c' k ws vs)) (x : List Atom) (res : Ex × List Atom) (h : (sm_t x).get = some res) : ∃ n, iterR (round noSums 60 28 4 2 (SLt t)) n x = some res := by
  unfold sm_t at h
  split at h
  · rename_i l c l' c' k ws vs
    obtain ⟨hg, h2⟩ := get_br h
    obtain ⟨h0, h1, rfl, h3, h4⟩ := of_decide_eq_true hg
    obtain ⟨j, hj⟩ := sm_iter ct (c := c) (c' := c') h0 h1 h4 _ k rfl h3
    refine ⟨j, hj.trans ?_⟩
    rw [← h2, Tree.get_br]
    split <;> rfl
  · cases h
noncomputable def sumsSm (t : Nat) : Sums := withLoop noSums 28 4 (tlsum 2 (SLt t) sm_t)
theorem keysSame_is : keysOk (loopsIn ((bodyOf 28).getD .skip)) = true := by kernel_rfl
theorem sumsSm0_ok : SumsOk (sumsSm 22) := loop_tsum (fuel := 60) noSums_ok bodySame_is keysSame_is (by show (2 : Nat) ≤ 2; omega) (sm_step ct_sm0)
theorem sumsSm1_ok : SumsOk (sumsSm winT) := loop_tsum (fuel := 60) noSums_ok bodySame_is keysSame_is (by show (2 : Nat) ≤ 2; omega) (sm_step ct_sm1)
def SmF (t : Nat) : FForm := ⟨[.slice 0 0 none, .slice 1 0 none], sBt t, [⟨[(0, .bool)], 1, sBt t, 2, []⟩]⟩
def pt_smf (l c l' c' : Nat) (ws vs : List Int) : PT (Nat × List Atom) := .b ((l : Int) != (l' : Int)) .bad (.b (decide (ws.length = l ∧ vs.length = l ∧ l' = l ∧ 0 ≤ (0 : Int) ∧ l ≤ 900)) (.b (sameF ws vs ((l : Int) - 0).toNat 0) (.leaf (0, [.b true, .ws ws, .ws vs])) (.leaf (0, [.b false, .ws ws, .ws vs]))) .bad)
theorem ct_smf0 (l c l' c' : Nat) (ws vs : List Int) : cutP (pt_smf l c l' c' ws vs) (endF (ev (sumsSm 22) 60 28) (SmF 22) [.n l, .n c, .n l', .n c', .ws ws, .ws vs]) = den (pt_smf l c l' c' ws vs) := by kernel_rfl
theorem ct_smf1 (l c l' c' : Nat) (ws vs : List Int) : cutP (pt_smf l c l' c' ws vs) (endF (ev (sumsSm winT) 60 28) (SmF winT) [.n l, .n c, .n l', .n c', .ws ws, .ws vs]) = den (pt_smf l c l' c' ws vs) := by kernel_rfl
def sm_o : List Atom → Tree (Nat × List Atom)
  | [.n l, .n c, .n l', .n c', .ws ws, .ws vs] => .br (decide (ws.length = l ∧ vs.length = l ∧ l' = l ∧ l ≤ 900)) (.leaf (0, [.b (sameF ws vs l 0), .ws ws, .ws vs])) .bad
  | _ => .bad
theorem sm_out (l c l' c' : Nat) (ws vs : List Int) (r : Nat × List Atom) (h : (sm_o [.n l, .n c, .n l', .n c', .ws ws, .ws vs]).get = some r) : (den (pt_smf l c l' c' ws vs)).get = some r := by
  obtain ⟨hg, h2⟩ := get_br h
  obtain ⟨h0, h1, rfl, h4⟩ := of_decide_eq_true hg
  rw [← h2]
  simp only [pt_smf, den, Tree.get_br, Tree.get_leaf, bne_self_eq_false, Bool.false_eq_true, if_false]
  rw [show ((l' : Int) - 0).toNat = l' by omega]
  refine (if_pos (decide_eq_true ?_)).trans ?_
  · exact ⟨h0, h1, trivial, by omega, h4⟩
  · cases sameF ws vs l' 0 <;> rfl
theorem sm_s0 (x : List Atom) (r : Nat × List Atom) (h : (sm_o x).get = some r) : (endF (ev (sumsSm 22) 60 28) (SmF 22) x).get = some r := by
  have h' := h
  unfold sm_o at h
  split at h
  · exact cut_get (ct_smf0 ..) (sm_out _ _ _ _ _ _ _ h')
  · cases h
theorem sm_s1 (x : List Atom) (r : Nat × List Atom) (h : (sm_o x).get = some r) : (endF (ev (sumsSm winT) 60 28) (SmF winT) x).get = some r := by
  have h' := h
  unfold sm_o at h
  split at h
  · exact cut_get (ct_smf1 ..) (sm_out _ _ _ _ _ _ _ h')
  · cases h
noncomputable def withSame (sums : Sums) : Sums := withOr sums 28 (SmF 22) (SmF winT) sm_o sm_o
theorem withSame_ok {sums : Sums} (h : SumsOk sums) : SumsOk (withSame sums) := withOr_ok h sumsSm0_ok sumsSm1_ok (by kernel_rfl) sm_s0 sm_s1
theorem same_self (ws : List Int) : ∀ (n : Nat) (k : Int), sameF ws ws n k = true
  | 0, _ => rfl
  | n + 1, k => by simp only [sameF, same_self ws n (k + 1), beq_self_eq_true, Bool.and_self]
end Go.Proofs.YtfccbghmagohaaaGreat.Bound
end
