/- A sweep that is done again: what it comes to. No condition. The law SweepOnce. No condition. -/
import Derived.Test.YtfccbghmagohaaaGreatSwPC
import Derived.Test.YtfccbghmagohaaaGreatSwLB2
section
namespace Go.Proofs.YtfccbghmagohaaaGreat.Bound
open Go.Proofs.YtfccbghmagohaaaGreat.Ev Go.Proofs.YtfccbghmagohaaaGreat.ChartMath
set_option linter.unusedVariables false
set_option linter.unusedSimpArgs false
theorem mv_gn (w st : Int) (b : Bool) (h : 0 ≤ w ∧ w < 18446744073709551616) : gnI (moveI w st b) = gnI w := by
  unfold moveI gnI; split <;> omega
theorem new_gn {g : Int} (h0 : 0 ≤ g) (h1 : g ≤ 1073741824) : gnI (newI 0 g) = g := by unfold gnI newI; omega
section
variable {p : Pm} (hp : p.Ok)
include hp
theorem retire_st {ws : List Int} (h : p.good ws) (st : Int) : p.at (retireW p ws st) 4 p.sl = moveI (p.at ws 4 p.sl) st false := by
  unfold retireW noteW
  rw [at_ne (ne_slot hp (j := 7) (by omega) hp.s0 hp.s1 (.inl (by omega))), at_ne (ne_ep hp h.cfg.1), at_st hp h]
theorem drop_st {ws : List Int} (h : p.good ws) : p.at (dropW2 p ws) 4 p.sl = p.at ws 4 p.sl := drop_at hp h (by omega) (fun _ => rfl) (fun _ => ⟨by omega, hp.s0, hp.s1⟩)
theorem final_st {ws : List Int} (h : p.good ws) : p.at (finalW p ws) 4 p.sl = newI 0 (p.gn + 1) := by
  have h6 : p.good (p.set ws 6 p.sl 0) := h.lset (by omega) _ _
  exact at_st hp h6 _
/-- What is in a state is ready for it. -/
theorem swept_at {ws : List Int} {st : Int} (h1 : gnI (p.at ws 4 p.sl) = p.gn) (h2 : stI (p.at ws 4 p.sl) = st) (h3 : bitI (p.at ws 4 p.sl) 26 = false) (h4 : 5 ≤ st) : sweptI p ws = if st = 7 then endT p ws (p.at ws 7 p.sl) else if st = 6 then endB p ws (p.at ws 7 p.sl) else endB p (retireW p ws 6) (p.at ws 2 0) := by
  have _h0 := hp
  unfold sweptI
  rw [if_neg (by rintro (x | x | x); exact x h1; omega; omega), if_neg (by rw [h3]; simp), if_neg (by omega), if_neg (by omega), h2]
theorem endT_cases (ws : List Int) (r : Int) : (endT p ws r = (9, ws) ∧ heldI p ws r = true) ∨ (endT p ws r = (0, finalW p ws)) := by
  have _h0 := hp
  unfold endT
  by_cases e : heldI p ws r = true
  · rw [if_pos e]; exact .inl ⟨rfl, e⟩
  · rw [if_neg e]; exact .inr rfl
/-- Behind a wait that found one, it finds one again. -/
theorem again {ws : List Int} {r : Int} (h : p.good ws) (h1 : gnI (p.at ws 4 p.sl) = p.gn) (h3 : bitI (p.at ws 4 p.sl) 26 = false) (h2 : stI (p.at ws 4 p.sl) = 6 ∨ stI (p.at ws 4 p.sl) = 7) (hr : p.at ws 7 p.sl = r) (hh : heldI p ws r = true) : sweptI p ws = (9, ws) := by
  rcases h2 with h2 | h2
  · rw [swept_at hp h1 h2 h3 (by omega), if_neg (by omega), if_pos rfl, hr]
    unfold endB
    rw [if_pos hh]
  · rw [swept_at hp h1 h2 h3 (by omega), if_pos rfl, hr]
    unfold endT
    rw [if_pos hh]
theorem stale {ws : List Int} (h : p.good ws) : sweptI p (finalW p ws) = (2, finalW p ws) := by
  have g0 := hp.g0
  have g1 := hp.g1
  have e : gnI (p.at (finalW p ws) 4 p.sl) ≠ p.gn := by
    rw [final_st hp h, new_gn (by omega) (by omega)]
    omega
  unfold sweptI
  rw [if_pos (.inl e)]
/-- What is told again. -/
def Again (z z2 : Int × List Int) : Prop := (z.1 = 0 ∧ z2 = (2, z.2)) ∨ (z.1 ≠ 0 ∧ z2 = z)
theorem again_T {ws : List Int} {r : Int} (h : p.good ws) (h1 : gnI (p.at ws 4 p.sl) = p.gn) (h3 : bitI (p.at ws 4 p.sl) 26 = false) (h2 : stI (p.at ws 4 p.sl) = 6 ∨ stI (p.at ws 4 p.sl) = 7) (hr : p.at ws 7 p.sl = r) : Again (endT p ws r) (sweptI p (endT p ws r).2) := by
  rcases endT_cases hp ws r with ⟨e, e2⟩ | e
  · rw [e]
    exact .inr ⟨by simp, again hp h h1 h3 h2 hr e2⟩
  · rw [e]
    exact .inl ⟨rfl, stale hp h⟩
theorem again_B {ws : List Int} {r : Int} (h : p.good ws) (h1 : gnI (p.at ws 4 p.sl) = p.gn) (h3 : bitI (p.at ws 4 p.sl) 26 = false) (h2 : stI (p.at ws 4 p.sl) = 6) (hr : p.at ws 7 p.sl = r) : Again (endB p ws r) (sweptI p (endB p ws r).2) := by
  have hd := drop_good hp h
  have hrd := retire_good hp hd 7
  unfold endB
  by_cases e : heldI p ws r = true
  · rw [if_pos e]
    exact .inr ⟨by simp, again hp h h1 h3 (.inl h2) hr e⟩
  · rw [if_neg e]
    refine again_T hp hrd ?_ ?_ (.inr ?_) (retire_at hp hd 7)
    · rw [retire_st hp hd, mv_gn _ _ _ (hd.lat _ _)]; exact (congrArg gnI (drop_st hp h)).trans h1
    · rw [retire_st hp hd, mv_busy]
    · rw [retire_st hp hd, mv_st _ _ _ (by omega)]
theorem swept_again {ws : List Int} (h : p.good ws) : Again (sweptI p ws) (sweptI p (sweptI p ws).2) := by
  have hst := st_range (p.at ws 4 p.sl)
  by_cases q1 : gnI (p.at ws 4 p.sl) ≠ p.gn ∨ stI (p.at ws 4 p.sl) = 0 ∨ stI (p.at ws 4 p.sl) = 1
  · have e : sweptI p ws = (2, ws) := by unfold sweptI; rw [if_pos q1]
    rw [e]; exact .inr ⟨by simp, e⟩
  by_cases q2 : bitI (p.at ws 4 p.sl) 26 = true
  · have e : sweptI p ws = (3, ws) := by unfold sweptI; rw [if_neg q1, if_pos q2]
    rw [e]; exact .inr ⟨by simp, e⟩
  by_cases q3 : stI (p.at ws 4 p.sl) = 2 ∨ stI (p.at ws 4 p.sl) = 3
  · have e : sweptI p ws = (4, ws) := by unfold sweptI; rw [if_neg q1, if_neg q2, if_pos q3]
    rw [e]; exact .inr ⟨by simp, e⟩
  by_cases q4 : stI (p.at ws 4 p.sl) = 4 ∧ laterF p ws p.sl (p.at ws 6 p.sl) p.S.toNat 0 = true
  · have e : sweptI p ws = (9, ws) := by unfold sweptI; rw [if_neg q1, if_neg q2, if_neg q3, if_pos q4]
    rw [e]; exact .inr ⟨by simp, e⟩
  have h1 : gnI (p.at ws 4 p.sl) = p.gn := Classical.not_not.1 fun x => q1 (.inl x)
  have h3 : bitI (p.at ws 4 p.sl) 26 = false := by simpa using q2
  by_cases q7 : stI (p.at ws 4 p.sl) = 7
  · have e : sweptI p ws = endT p ws (p.at ws 7 p.sl) := by unfold sweptI; rw [if_neg q1, if_neg q2, if_neg q3, if_neg q4, if_pos q7]
    rw [e]; exact again_T hp h h1 h3 (.inr q7) rfl
  by_cases q6 : stI (p.at ws 4 p.sl) = 6
  · have e : sweptI p ws = endB p ws (p.at ws 7 p.sl) := by unfold sweptI; rw [if_neg q1, if_neg q2, if_neg q3, if_neg q4, if_neg q7, if_pos q6]
    rw [e]; exact again_B hp h h1 h3 q6 rfl
  · have e : sweptI p ws = endB p (retireW p ws 6) (p.at ws 2 0) := by unfold sweptI; rw [if_neg q1, if_neg q2, if_neg q3, if_neg q4, if_neg q7, if_neg q6]
    rw [e]
    refine again_B hp (retire_good hp h 6) ?_ ?_ ?_ (retire_at hp h 6)
    · rw [retire_st hp h, mv_gn _ _ _ (h.lat _ _)]; exact h1
    · rw [retire_st hp h, mv_busy]
    · rw [retire_st hp h, mv_st _ _ _ (by omega)]
end
end Go.Proofs.YtfccbghmagohaaaGreat.Bound
end

section
namespace Go.Proofs.YtfccbghmagohaaaGreat.Bound
open Go.Proofs.YtfccbghmagohaaaGreat.Ev Go.Proofs.YtfccbghmagohaaaGreat.ChartMath
set_option linter.unusedVariables false
set_option linter.unusedSimpArgs false
/-- Where a sweep begins, over any memory. -/
def begS (T S K G Q pt ph sl gn : Int) (l : Nat) (s : MS) : List Atom := [.i T, .i S, .i K, .i G, .i Q, .i pt, .i sl, .i gn, .b false, .i 0, .i (slI ph), .i 0, .i ph, .n 4, .n 4, .b false, .b false, .i 0, .i 0, .ws [4, 5, 6, 7]] ++ mA T S K G Q l l s
noncomputable def runQ (T S K G Q pt ph : Int) (l : Nat) (s : MS) : Option ER := runL T S K G Q l l (400 - 0 : Int).toNat (begS T S K G Q pt ph (if okT ph S = true then slI ph else 0) (if okT ph S = true then genI ph else 0) l s)
section
variable (T S K G Q : Int) (l cl : Nat) (cells : List Int) (pt ph : Int)
noncomputable def qCells (s : MS) (p : PT Value) : PT Value := .b (cdec (cells_I ([] ++ [] ++ ([.i T] ++ ([.i S] ++ ([.i K] ++ ([.i G] ++ ([.i Q] ++ ([.n l, .n l] ++ ([.i s.tk] ++ ([.i s.ts] ++ ([.i s.to] ++ ([.i s.told] ++ ([.i s.tnew] ++ ([.b s.td] ++ ([.i s.many] ++ [])))))))))))) ++ ([.ws s.ws] ++ []))))) p .bad
noncomputable def qSm (n : Nat) (s : MS) (vs : List Int) : PT Value := qCells T S K G Q l s (.cs 2 (.b (decide (s.ws.length = l ∧ vs.length = l ∧ l = l ∧ l ≤ 900)) (.cs n (.leaf (.bool (sameF s.ws vs l 0)))) .bad))
noncomputable def qOf (p q : PT Value) : PT Value := .b (cdec (of_I ([.i T] ++ ([.i S] ++ ([.i K] ++ ([.i G] ++ ([.i Q] ++ [])))) ++ ([.n l, .n cl] ++ []) ++ ([.ws cells] ++ [])))) (.b (isRow T S K G Q l) p q) .bad
noncomputable def pt_on (R1 R2 : Option ER) : PT Value := qOf T S K G Q l cl cells
  (.b (isW ph) (.b (!okT ph S) (.b (isW ph) (.b (!okT ph S) (.cs 6 (qCells T S K G Q l (zeroS cells) (.cs 15 (qSm T S K G Q l 1 (zeroS cells) cells)))) .bad) .bad)
    (.cs 4 (.b (isW ph) (.b (isW ph) (.b (!okT ph S) .bad (.cs 4 (.b (isW ph) (.cs 6 (.b R1.isSome (qCells T S K G Q l (R1.getD dfR).s (.cs 1 (.b R2.isSome (.b ((R1.getD dfR).e != 0)
      (.cs 7 (.b (bif true then (R2.getD dfR).e == (R1.getD dfR).e else false) (.cs 3 (.b ((R1.getD dfR).e == 9) (.cs 5 qTrue) (.cs 1 (qSm T S K G Q l 1 (R2.getD dfR).s (R1.getD dfR).s.ws)))) .bad))
      (.cs 5 (.b (bif true then (R2.getD dfR).e == 2 else false) (.cs 1 (qSm T S K G Q l 0 (R2.getD dfR).s (R1.getD dfR).s.ws)) .bad))) .bad))) .bad)) .bad))) .bad) .bad))) .bad)
  (.b (isW ph) (.b (!okT ph S) (.b (isW ph) (.b (!okT ph S) (.cs 10 qTrue) .bad) .bad) (.cs 4 (.b (isW ph) (.b (isW ph) (.b (!okT ph S) .bad (.cs 4 (.b (isW ph) (.cs 10 qTrue) .bad))) .bad) .bad))) .bad)
end
noncomputable def onR2 (T S K G Q pt ph : Int) (l : Nat) (cells : List Int) : Option ER := runQ T S K G Q pt ph l ((runQ T S K G Q pt ph l (zeroS cells)).getD dfR).s
theorem ct_on0 (T S K G Q : Int) (l : Nat) (cells : List Int) (pt ph steps : Int) (cl : Nat) : cutP (pt_on T S K G Q l cl cells ph (runQ T S K G Q pt ph l (zeroS cells)) (onR2 T S K G Q pt ph l cells)) (valT (ev sumsLA 60 6 [.agg #[.int .i64 T, .int .i64 S, .int .i64 K, .int .i64 G, .int .u64 Q], .slice (some ⟨0, 0, none⟩) l cl, .agg #[.int .i64 pt, .int .u64 ph, .int .i64 steps, .slice none 0 0]] (winsH [⟨0, 0, 0, .ints .u64 cells⟩, ⟨1, 0, 0, .recs pokeR []⟩]))) = den (pt_on T S K G Q l cl cells ph (runQ T S K G Q pt ph l (zeroS cells)) (onR2 T S K G Q pt ph l cells)) := by kernel_rfl
theorem ct_on1 (T S K G Q : Int) (l : Nat) (cells : List Int) (rs : List (List Int)) (pt ph steps : Int) (n cc cl : Nat) : cutP (pt_on T S K G Q l cl cells ph (runQ T S K G Q pt ph l (zeroS cells)) (onR2 T S K G Q pt ph l cells)) (valT (ev sumsLA 60 6 [.agg #[.int .i64 T, .int .i64 S, .int .i64 K, .int .i64 G, .int .u64 Q], .slice (some ⟨0, 0, none⟩) l cl, .agg #[.int .i64 pt, .int .u64 ph, .int .i64 steps, .slice (some ⟨1, 0, some 16384⟩) n cc]] (winsH [⟨0, 0, 0, .ints .u64 cells⟩, ⟨1, 0, 0, .recs pokeR rs⟩]))) = den (pt_on T S K G Q l cl cells ph (runQ T S K G Q pt ph l (zeroS cells)) (onR2 T S K G Q pt ph l cells)) := by kernel_rfl
theorem runQ_is {T S K G Q pt ph : Int} {l : Nat} {s : MS} (hg : Good T S K G Q l s.ws) (hW : isW ph = true) (hk : okT ph S = true) : ∃ R : ER, runQ T S K G Q pt ph l s = some R ∧ R.e = (sweptI (pmOf T S K G Q pt ph l) s.ws).1 ∧ R.s.ws = (sweptI (pmOf T S K G Q pt ph l) s.ws).2 := by
  have hp := pmOf_ok (T := T) (K := K) (G := G) (Q := Q) (own := pt) (l := l) hW hk
  have hE := e_all (p := pmOf T S K G Q pt ph l) hp (s := s) (es := 0) (eh := ph) (ew := 0) (ec := 4) hg hW hk rfl
  obtain ⟨R, r1, r2, r3⟩ := runL_ends hE
  refine ⟨R, ?_, r2, r3⟩
  unfold runQ
  rw [hk]
  exact r1
theorem get_cells {T S K G Q : Int} {l : Nat} {s : MS} {p : PT Value} (h : Good T S K G Q l s.ws) : (den (qCells T S K G Q l s p)).get = (den p).get := by
  unfold qCells
  simp only [den, Tree.get_br]
  exact if_pos (cdec_true (show Row T S K G Q l s.ws from ⟨h.right, h.len, h.ll⟩))
theorem get_sm {T S K G Q : Int} {l n : Nat} {s : MS} {vs : List Int} (h : Good T S K G Q l s.ws) (e : s.ws = vs) : (den (qSm T S K G Q l n s vs)).get = some (.bool true) := by
  have hl := h.ll
  have hc := h.cfg
  have hlen := h.len
  unfold lenOf at hl
  unfold qSm
  rw [get_cells h]
  simp only [den, Tree.get_br, Tree.get_leaf]
  refine (if_pos (decide_eq_true ?_)).trans ?_
  · exact ⟨hlen, by rw [← e]; exact hlen, trivial, by omega⟩
  · rw [← e, same_self]
theorem on_get (T S K G Q : Int) (l cl : Nat) (cells : List Int) (pt ph : Int) (hl : cells.length = l) (hw : ∀ w ∈ cells, 0 ≤ w ∧ w < 18446744073709551616) (hph : 0 ≤ ph ∧ ph < 18446744073709551616) : (den (pt_on T S K G Q l cl cells ph (runQ T S K G Q pt ph l (zeroS cells)) (onR2 T S K G Q pt ph l cells))).get = some (.bool true) := by
  have hW : isW ph = true := isW_iff.2 hph
  have hI : cdec (of_I ([.i T] ++ ([.i S] ++ ([.i K] ++ ([.i G] ++ ([.i Q] ++ [])))) ++ ([.n l, .n cl] ++ []) ++ ([.ws cells] ++ []))) = true := cdec_true hl
  unfold pt_on qOf
  simp only [den, Tree.get_br, hI, hW, if_true, Bool.and_true]
  cases hr : isRow T S K G Q l with
  | false => cases okT ph S <;> rfl
  | true =>
    simp only [isRow, Bool.and_eq_true, decide_eq_true_eq] at hr
    have hg : Good T S K G Q l (zeroS cells).ws := ⟨hr.1, hl, hr.2, hw⟩
    simp only [if_true]
    cases hk : okT ph S with
    | false =>
      simp only [Bool.not_false, if_true]
      rw [get_cells hg]
      exact get_sm hg rfl
    | true =>
      have hp := pmOf_ok (T := T) (K := K) (G := G) (Q := Q) (own := pt) (l := l) hW hk
      obtain ⟨R1, a1, a2, a3⟩ := runQ_is (pt := pt) hg hW hk
      have hg1 : Good T S K G Q l R1.s.ws := by rw [a3]; exact swept_good hp hg
      obtain ⟨R2, b1, b2, b3⟩ := runQ_is (pt := pt) hg1 hW hk
      have hg2 : Good T S K G Q l R2.s.ws := by rw [b3]; exact swept_good hp hg1
      have e2 : onR2 T S K G Q pt ph l cells = some R2 := by
        unfold onR2
        rw [a1]
        exact b1
      have hz := swept_again hp (ws := (zeroS cells).ws) hg
      rw [← a3] at hz
      rw [a1, e2]
      simp only [Bool.not_true, Bool.false_eq_true, if_false, Option.isSome_some, if_true, Option.getD_some, cond_true]
      rw [get_cells hg1]
      simp only [den, Tree.get_br, if_true]
      rcases hz with ⟨h0, h2⟩ | ⟨h0, h2⟩
      · have n0 : (R1.e != 0) = false := by rw [a2, h0]; rfl
        have n1 : R2.e = 2 := by rw [b2, h2]
        have n2 : R2.s.ws = R1.s.ws := by rw [b3, h2, a3]
        simp only [n0, Bool.false_eq_true, if_false, n1, beq_self_eq_true, if_true]
        exact get_sm hg2 n2
      · have n0 : (R1.e != 0) = true := by rw [a2, bne_iff_ne]; exact h0
        have n1 : R2.e = R1.e := by rw [b2, h2, a2]
        have n2 : R2.s.ws = R1.s.ws := by rw [b3, h2, a3]
        simp only [n0, if_true, n1, beq_self_eq_true]
        cases R1.e == 9
        · exact get_sm hg2 n2
        · rfl
end Go.Proofs.YtfccbghmagohaaaGreat.Bound
end
