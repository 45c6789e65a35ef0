/- What was left for later is gone on with. No condition. -/
import Derived.Test.YtfccbghmagohaaaGreatSwOnPQ
import Derived.Test.YtfccbghmagohaaaGreatSwPC
namespace Go.Proofs.YtfccbghmagohaaaGreat.Bound
open Go.Proofs.YtfccbghmagohaaaGreat.Ev Go.Proofs.YtfccbghmagohaaaGreat.ChartMath
set_option linter.unusedVariables false
set_option linter.unusedSimpArgs false
theorem heldF_no {p : Pm} {ws : List Int} {own r : Int} : ∀ (n : Nat) (k : Int), (∀ j, k ≤ j → j < k + n → j ≠ own → p.at ws 3 j = 0) → heldF p ws own r n k = false
  | 0, _, _ => rfl
  | n + 1, k, h => by
    simp only [heldF]
    rw [heldF_no n (k + 1) fun j h0 h1 h2 => h j (by omega) (by omega) h2, Bool.or_false]
    exact decide_eq_false fun x => x.2.1 (h k (by omega) (by omega) x.1)
theorem heldF_yes {p : Pm} {ws : List Int} {own r j : Int} : ∀ (n : Nat) (k : Int), k ≤ j → j < k + n → j ≠ own → p.at ws 3 j ≠ 0 → p.at ws 3 j - 1 ≤ r → heldF p ws own r n k = true
  | 0, k, h0, h1, _, _, _ => by omega
  | n + 1, k, h0, h1, h2, h3, h4 => by
    simp only [heldF]
    by_cases e : j = k
    · subst e
      rw [decide_eq_true ⟨h2, h3, h4⟩, Bool.true_or]
    · rw [heldF_yes n (k + 1) (by omega) (by omega) h2 h3 h4, Bool.or_true]
theorem laterF_no {p : Pm} {ws : List Int} {sl num : Int} : ∀ (n : Nat) (k : Int), (∀ j, k ≤ j → j < k + n → j ≠ sl → stI (p.at ws 4 j) = 0) → laterF p ws sl num n k = false
  | 0, _, _ => rfl
  | n + 1, k, h => by
    simp only [laterF]
    rw [laterF_no n (k + 1) fun j h0 h1 h2 => h j (by omega) (by omega) h2, Bool.or_false]
    refine decide_eq_false fun x => ?_
    have := h k (by omega) (by omega) x.1
    rcases x.2 with y | ⟨y | y, _⟩ <;> omega
section
variable {p : Pm} (hp : p.Ok)
include hp
theorem drop_key {ws : List Int} (h : p.good ws) {k : Int} (h0 : 0 ≤ k) (h1 : k < p.K) : p.at (dropW2 p ws) 8 k = dropM (p.at ws 8 k) p.sl := by
  have hc := h.cfg
  have hcell := cell_key (T := p.T) (S := p.S) h0 h1
  have hs0 := hp.s0
  have hlen := h.cell 8 k
  have c0 : 0 ≤ cellOf p.T p.S p.K 8 k := by omega
  unfold Pm.at lat
  rw [if_pos c0, if_pos c0, List.getD_eq_getElem?_getD, List.getD_eq_getElem?_getD (l := ws) (i := (cellOf p.T p.S p.K 8 k).toNat)]
  unfold dropW2
  rw [othersF_get p _ hc.1 _ _ _ _ (by omega) (by omega), if_neg (by omega), keysF_get p (by omega) (by omega) _ _ _ _ (by omega) (by omega), if_pos (by omega), List.getD_eq_getElem?_getD]
  rfl
theorem retire_off {ws : List Int} (h : p.good ws) {k o : Int} (st : Int) (n4 : cellOf p.T p.S p.K k o ≠ cellOf p.T p.S p.K 4 p.sl) (n2 : cellOf p.T p.S p.K k o ≠ 1) (n7 : cellOf p.T p.S p.K k o ≠ cellOf p.T p.S p.K 7 p.sl) : p.at (retireW p ws st) k o = p.at ws k o := by
  have ce : cellOf p.T p.S p.K 2 0 = 1 := cell_ep
  unfold retireW noteW
  rw [at_ne (fun e => n7 e.symm), at_ne (by rw [ce]; exact fun e => n2 e.symm), at_off hp h n4]
end
theorem lat_zero {T S K : Int} {n : Nat} {k o : Int} : lat T S K (List.replicate n 0) k o = 0 := by
  unfold lat
  split
  · rw [List.getD_eq_getElem?_getD, List.getElem?_replicate]
    split <;> rfl
  · rfl
/-- Some words of a world of which one slot is ended, one key marked, and one thread pinned. -/
def goW (T S K num oth st : Int) (n : Nat) : List Int := lset T S K (lset T S K (lset T S K (lset T S K (List.replicate n 0) 4 0 (newI st 0)) 6 0 num) 8 0 1) 3 oth 1
theorem go_plain {T S K G Q num own oth st : Int} (hR : right T S K G Q = true) (hst : st = 4 ∨ st = 5) (hn : 0 ≤ num ∧ num < 18446744073709551616) (o0 : 0 ≤ oth) (o1 : oth < T) (hne : oth ≠ own) :
    let p := pmOf T S K G Q own 1 (lenOf T S K).toNat
    let ws := goW T S K num oth st (lenOf T S K).toNat
    let z := sweptI p ws
    let y := sweptI p (lset T S K z.2 3 oth 0)
    p.good ws ∧ z.1 = 9 ∧ p.good z.2 ∧ lat T S K z.2 4 0 = newI 6 0 ∧ p.good (lset T S K z.2 3 oth 0) ∧ y.1 = 0 ∧ p.good y.2 ∧ lat T S K y.2 4 0 = newI 0 1 ∧ lat T S K y.2 8 0 = 0 ∧ lat T S K y.2 6 0 = 0 := by
  intro p ws z y
  have hR' := hR
  simp only [right, decide_eq_true_eq] at hR'
  have hk : okT 1 S = true := by
    have : okT 1 S = decide ((0 : Int) < S) := by simp [okT, slB, slI, genI]
    rw [this]; exact decide_eq_true (by omega)
  have hp : p.Ok := pmOf_ok rfl hk
  have hlo : lenOf T S K = 2 + T + 4 * S + K := rfl
  have gz : Good T S K G Q (lenOf T S K).toNat (List.replicate (lenOf T S K).toNat 0) := ⟨hR, List.length_replicate, by omega, fun w hw => by rw [List.eq_of_mem_replicate hw]; omega⟩
  have wst : 0 ≤ newI st 0 ∧ newI st 0 < 18446744073709551616 := newI_word (by omega) (by omega) (by omega) (by omega)
  have g1 := gz.lset wst 4 0
  have g2 := g1.lset hn 6 0
  have g3 := g2.lset (show (0 : Int) ≤ 1 ∧ (1 : Int) < 18446744073709551616 by omega) 8 0
  have g4 : p.good ws := g3.lset (show (0 : Int) ≤ 1 ∧ (1 : Int) < 18446744073709551616 by omega) 3 oth
  have c4 : cellOf T S K 4 0 = 2 + T := by rw [cell_st (by omega) (by omega) (by omega) (by omega)]; omega
  have c6 : cellOf T S K 6 0 = 4 + T := by rw [cell_st (by omega) (by omega) (by omega) (by omega)]; omega
  have c7 : cellOf T S K 7 0 = 5 + T := by rw [cell_st (by omega) (by omega) (by omega) (by omega)]; omega
  have c8 : cellOf T S K 8 0 = 2 + T + 4 * S := by rw [cell_key (by omega) (by omega)]; omega
  have c3 : cellOf T S K 3 oth = 2 + oth := cell_pin o0 o1
  have c2 : cellOf T S K 2 0 = 1 := cell_ep
  have a4 : p.at ws 4 0 = newI st 0 := by
    show lat T S K (goW T S K num oth st (lenOf T S K).toNat) 4 0 = _
    unfold goW
    rw [lat_other (by omega), lat_other (by omega), lat_other (by omega)]
    exact lat_same (by omega) (by rw [List.length_replicate]; omega)
  have aoff : ∀ k o : Int, cellOf T S K k o ≠ 2 + T → cellOf T S K k o ≠ 4 + T → cellOf T S K k o ≠ 2 + T + 4 * S → cellOf T S K k o ≠ 2 + oth → p.at ws k o = 0 := fun k o h4 h6 h8 h3 => by
    show lat T S K (goW T S K num oth st (lenOf T S K).toNat) k o = _
    unfold goW
    rw [lat_other (by omega), lat_other (by omega), lat_other (by omega), lat_other (by omega)]
    exact lat_zero
  have a3 : p.at ws 3 oth = 1 := by
    show lat T S K (goW T S K num oth st (lenOf T S K).toNat) 3 oth = _
    unfold goW
    exact lat_same (by omega) (by rw [lset_len, lset_len, lset_len, List.length_replicate]; omega)
  have a8 : p.at ws 8 0 = 1 := by
    show lat T S K (goW T S K num oth st (lenOf T S K).toNat) 8 0 = _
    unfold goW
    rw [lat_other (by omega)]
    exact lat_same (by omega) (by rw [lset_len, lset_len, List.length_replicate]; omega)
  have a2 : p.at ws 2 0 = 0 := aoff _ _ (by omega) (by omega) (by omega) (by omega)
  have a4k : ∀ k : Int, 0 ≤ k → k < S → k ≠ 0 → p.at ws 4 k = 0 := fun k k0 k1 hk => by
    have := cell_st (T := T) (K := K) (k := 4) (by omega) (by omega) k0 k1
    exact aoff _ _ (by omega) (by omega) (by omega) (by omega)
  have sl0 : p.sl = 0 := rfl
  have gn0 : p.gn = 0 := rfl
  have st_is : stI (newI st 0) = st ∧ gnI (newI st 0) = 0 ∧ bitI (newI st 0) 26 = false := by rcases hst with rfl | rfl <;> exact ⟨rfl, rfl, rfl⟩
  have mv_is : moveI (newI st 0) 6 false = newI 6 0 := by rcases hst with rfl | rfl <;> rfl
  have hw1 := retire_good hp g4 6
  -- the pins
  have pin : ∀ k : Int, 0 ≤ k → k < T → p.at (retireW p ws 6) 3 k = p.at ws 3 k := fun k k0 k1 => by
    have := cell_pin (S := S) (K := K) k0 k1
    exact retire_off hp g4 6 (by show cellOf T S K 3 k ≠ cellOf T S K 4 0; omega) (by show cellOf T S K 3 k ≠ 1; omega) (by show cellOf T S K 3 k ≠ cellOf T S K 7 0; omega)
  have hheld : heldI p (retireW p ws 6) 0 = true := by
    refine heldF_yes (j := oth) _ _ o0 (by show oth < 0 + ((T.toNat : Nat) : Int); omega) hne ?_ ?_
    · rw [pin oth o0 o1, a3]; omega
    · rw [pin oth o0 o1, a3]; omega
  have hz : z = (9, retireW p ws 6) := by
    show sweptI p ws = _
    have e4 : p.at ws 4 p.sl = newI st 0 := a4
    have hla : laterF p ws p.sl (p.at ws 6 p.sl) p.S.toNat 0 = false := laterF_no _ _ fun j j0 j1 hj => by
      rw [a4k j j0 (by have h1 : j < 0 + ((S.toNat : Nat) : Int) := j1; omega) hj]; rfl
    have eb : endB p (retireW p ws 6) (p.at ws 2 0) = (9, retireW p ws 6) := by
      rw [a2]; unfold endB; rw [if_pos hheld]
    unfold sweptI
    rw [e4, st_is.1, st_is.2.1, st_is.2.2, hla, if_neg (by rw [gn0]; omega), if_neg (by simp), if_neg (by omega), if_neg (by simp), if_neg (by omega), if_neg (by omega), eb]
  have z1 : z.1 = 9 := by rw [hz]
  have z2 : z.2 = retireW p ws 6 := by rw [hz]
  have gz2 : p.good z.2 := by rw [z2]; exact hw1
  have z4 : lat T S K z.2 4 0 = newI 6 0 := by
    rw [z2]
    have e := retire_st hp g4 6
    rw [show p.at ws 4 p.sl = newI st 0 from a4, mv_is] at e
    exact e
  have g5 : p.good (lset T S K z.2 3 oth 0) := gz2.lset (by omega) _ _
  -- again
  have v4 : p.at (lset T S K z.2 3 oth 0) 4 p.sl = newI 6 0 := by
    show lat T S K (lset T S K z.2 3 oth 0) 4 0 = _
    rw [lat_other (by omega)]; exact z4
  have v7 : p.at (lset T S K z.2 3 oth 0) 7 p.sl = 0 := by
    show lat T S K (lset T S K z.2 3 oth 0) 7 0 = _
    rw [lat_other (by omega), z2]
    exact (retire_at hp g4 6).trans a2
  have vpin : ∀ k : Int, 0 ≤ k → k < T → p.at (lset T S K z.2 3 oth 0) 3 k = 0 := fun k k0 k1 => by
    have ck := cell_pin (S := S) (K := K) k0 k1
    show lat T S K (lset T S K z.2 3 oth 0) 3 k = 0
    by_cases e : k = oth
    · subst e
      exact lat_same (by omega) (gz2.cell _ _)
    · rw [lat_other (by omega), z2]
      exact (pin k k0 k1).trans (aoff _ _ (by omega) (by omega) (by omega) (by omega))
  have hd := drop_good hp g5
  have hrd := retire_good hp hd 7
  have dpin : ∀ k : Int, 0 ≤ k → k < T → p.at (retireW p (dropW2 p (lset T S K z.2 3 oth 0)) 7) 3 k = 0 := fun k k0 k1 => by
    have ck := cell_pin (S := S) (K := K) k0 k1
    rw [retire_off hp hd 7 (by show cellOf T S K 3 k ≠ cellOf T S K 4 0; omega) (by show cellOf T S K 3 k ≠ 1; omega) (by show cellOf T S K 3 k ≠ cellOf T S K 7 0; omega), drop_at hp g5 (by omega) (by omega) (by omega)]
    exact vpin k k0 k1
  have h1 : heldI p (lset T S K z.2 3 oth 0) (p.at (lset T S K z.2 3 oth 0) 7 p.sl) = false := heldF_no _ _ fun j j0 j1 _ => vpin j j0 (by have h1 : j < 0 + ((T.toNat : Nat) : Int) := j1; omega)
  have h2 : heldI p (retireW p (dropW2 p (lset T S K z.2 3 oth 0)) 7) (p.at (dropW2 p (lset T S K z.2 3 oth 0)) 2 0) = false := heldF_no _ _ fun j j0 j1 _ => dpin j j0 (by have h1 : j < 0 + ((T.toNat : Nat) : Int) := j1; omega)
  have hy : y = (0, finalW p (retireW p (dropW2 p (lset T S K z.2 3 oth 0)) 7)) := by
    show sweptI p (lset T S K z.2 3 oth 0) = _
    rw [swept_at hp (st := 6) (by rw [v4, gn0]; rfl) (by rw [v4]; rfl) (by rw [v4]; rfl) (by omega), if_neg (by omega), if_pos rfl]
    unfold endB endT
    rw [h1, h2, if_neg (by simp), if_neg (by simp)]
  have y1 : y.1 = 0 := by rw [hy]
  have y2 : y.2 = finalW p (retireW p (dropW2 p (lset T S K z.2 3 oth 0)) 7) := by rw [hy]
  have gy : p.good y.2 := by rw [y2]; exact end_good hp hrd
  refine ⟨g4, z1, gz2, z4, g5, y1, gy, ?_, ?_, ?_⟩
  · rw [y2]
    exact final_st hp hrd
  · rw [y2]
    show p.at (finalW p (retireW p (dropW2 p (lset T S K z.2 3 oth 0)) 7)) 8 0 = 0
    unfold finalW
    rw [at_off hp (hrd.lset (by omega) _ _) (by show cellOf T S K 8 0 ≠ cellOf T S K 4 0; omega), at_ne (by show cellOf T S K 6 0 ≠ cellOf T S K 8 0; omega), retire_off hp hd 7 (by show cellOf T S K 8 0 ≠ cellOf T S K 4 0; omega) (by show cellOf T S K 8 0 ≠ 1; omega) (by show cellOf T S K 8 0 ≠ cellOf T S K 7 0; omega), drop_key hp g5 (by omega) (by show (0 : Int) < K; omega)]
    have e8 : p.at (lset T S K z.2 3 oth 0) 8 0 = 1 := by
      show lat T S K (lset T S K z.2 3 oth 0) 8 0 = _
      rw [lat_other (by omega), z2]
      exact (retire_off hp g4 6 (by show cellOf T S K 8 0 ≠ cellOf T S K 4 0; omega) (by show cellOf T S K 8 0 ≠ 1; omega) (by show cellOf T S K 8 0 ≠ cellOf T S K 7 0; omega)).trans a8
    rw [e8, sl0]
    decide
  · rw [y2]
    show p.at (finalW p (retireW p (dropW2 p (lset T S K z.2 3 oth 0)) 7)) 6 0 = 0
    unfold finalW
    rw [at_off hp (hrd.lset (by omega) _ _) (by show cellOf T S K 6 0 ≠ cellOf T S K 4 0; omega)]
    exact lat_same (by show 0 ≤ cellOf T S K 6 0; omega) (hrd.cell _ _)
end Go.Proofs.YtfccbghmagohaaaGreat.Bound
