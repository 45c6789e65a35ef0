/- A worked example of a sweep: it comes out. No condition. The law SweepAlone's sums. No condition. The law SweepAlone, where words are handed in. No condition. Laws of the sweep where no words are handed in: the sums. No condition. The law SweepAlone, where no words are handed in. No condition. A sweep that is done again: what it comes to. No condition. The sweep's own run, over any memory (for a law other than SweepOnce). No condition. -/
import Derived.Test.YtfmhlldfpohokaaGreatEvCQ
import Derived.Test.YtfmhlldfpohokaaGreatSwPC
import Derived.Test.YtfmhlldfpohokaaGreatPackSQ
import Derived.Test.YtfmhlldfpohokaaGreatSwPB
section
namespace Go.Proofs.YtfmhlldfpohokaaGreat.Bound
open Go.Proofs.YtfmhlldfpohokaaGreat.Ev
set_option linter.unusedVariables false
set_option maxRecDepth 100000 in
theorem alive_ev : outV (ev noSums 100000 8 [] ⟨.nil, 0⟩) = some (.bool true) := by kernel_rfl
def aliveS : List Value → Option Value
  | [] => some (.bool true)
  | _ => none
theorem aliveS_ok {sums : Sums} (hs : SumsOk sums) : SumsOk (withPure sums 8 aliveS) := withPure_ok hs noSums_ok 100000 (by kernel_rfl) fun al v h => by
  unfold aliveS at h
  split at h
  · cases h; exact ⟨rfl, rfl, alive_ev⟩
  · cases h
end Go.Proofs.YtfmhlldfpohokaaGreat.Bound
end

section
namespace Go.Proofs.YtfmhlldfpohokaaGreat.Bound
open Go.Proofs.YtfmhlldfpohokaaGreat.Ev Go.Proofs.YtfmhlldfpohokaaGreat.ChartMath
set_option linter.unusedVariables false
noncomputable def sumsLA : Sums := withPure (withSame (withSwept (withEnds sumsF3))) 8 aliveS
theorem sumsLA_ok : SumsOk sumsLA := aliveS_ok (withSame_ok (withSwept_ok (withEnds_ok sumsF3_ok)))
end Go.Proofs.YtfmhlldfpohokaaGreat.Bound
end

section
namespace Go.Proofs.YtfmhlldfpohokaaGreat.Bound
open Go.Proofs.YtfmhlldfpohokaaGreat.Ev Go.Proofs.YtfmhlldfpohokaaGreat.ChartMath
set_option linter.unusedVariables false
set_option linter.unusedSimpArgs false
def zeroS (ws : List Int) : MS := ⟨ws, 0, 0, 0, 0, 0, 0, false⟩
/-- Where a sweep begins. -/
def newX (T S K G Q pt ph sl gn : Int) (l : Nat) (cells : List Int) : List Atom := [.i T, .i S, .i K, .i G, .i Q, .i pt, .i sl, .i gn, .b false, .i 0, .i (slI ph), .i 0, .i ph, .n 4, .n 4, .b false, .b false, .i 0, .i 0, .ws [4, 5, 6, 7]] ++ mA T S K G Q l l (zeroS cells)
noncomputable def runR (T S K G Q pt ph : Int) (l : Nat) (cells : List Int) : Option ER := runL T S K G Q l l (400 - 0 : Int).toNat (newX T S K G Q pt ph (if okT ph S = true then slI ph else 0) (if okT ph S = true then genI ph else 0) l cells)
section
variable (T S K G Q : Int) (l cl : Nat) (cells : List Int) (pt ph : Int)
/-- Whether a memory's words are some words. -/
noncomputable def qSame (s : MS) (vs : List Int) : PT Value := .b (cdec (cells_I ([] ++ [] ++ ([.i T] ++ ([.i S] ++ ([.i K] ++ ([.i G] ++ ([.i Q] ++ ([.n l, .n l] ++ ([.i s.tk] ++ ([.i s.ts] ++ ([.i s.to] ++ ([.i s.told] ++ ([.i s.tnew] ++ ([.b s.td] ++ ([.i s.many] ++ [])))))))))))) ++ ([.ws s.ws] ++ []))))) (.cs 2 (.b (decide (s.ws.length = l ∧ vs.length = l ∧ l = l ∧ l ≤ 900)) (.leaf (.bool (bif true then sameF s.ws vs l 0 else false))) .bad)) .bad
def qTrue : PT Value := .leaf (.bool true)
noncomputable def pt_al (R : Option ER) : PT Value := .b (cdec (of_I ([.i T] ++ ([.i S] ++ ([.i K] ++ ([.i G] ++ ([.i Q] ++ [])))) ++ ([.n l, .n cl] ++ []) ++ ([.ws cells] ++ [])))) (.b (isRow T S K G Q l)
  (.b (isW ph) (.b (!okT ph S)
    (.cs 4 (.b (goodB T S K G Q l cells && isW ph) (.b (okT ph S) .bad (.cs 8 (qSame T S K G Q l (zeroS cells) cells))) .bad))
    (.cs 4 (.b (isW ph) (.cs 4 (.b R.isSome (.b (goodB T S K G Q l cells && isW ph) (.b (okT ph S) (.b (freshB (pmOf T S K G Q pt ph l) cells)
      (.cs 6 (.b (bif true then (R.getD dfR).e == (sweptI (pmOf T S K G Q pt ph l) cells).1 else false) (.cs 1 (qSame T S K G Q l (R.getD dfR).s (sweptI (pmOf T S K G Q pt ph l) cells).2)) .bad))
      (.cs 6 (.b (bif true then (R.getD dfR).e == (sweptI (pmOf T S K G Q pt ph l) cells).1 else false) (.cs 1 (qSame T S K G Q l (R.getD dfR).s cells)) .bad))) .bad) .bad) .bad)) .bad))) .bad)
  (.b (isW ph) (.b (!okT ph S) (.cs 5 qTrue) (.cs 4 (.b (isW ph) (.cs 5 qTrue) .bad))) .bad)) .bad
end
theorem ct_al0 (T S K G Q : Int) (l : Nat) (cells : List Int) (pt ph steps : Int) (cl : Nat) : cutP (pt_al T S K G Q l cl cells pt ph (runR T S K G Q pt ph l cells)) (valT (ev sumsLA 60 4 [.agg #[.int .i64 T, .int .i64 S, .int .i64 K, .int .i64 G, .int .u64 Q], .slice (some ⟨0, 0, none⟩) l cl, .agg #[.int .i64 pt, .int .u64 ph, .int .i64 steps, .slice none 0 0]] (winsH [⟨0, 0, 0, .ints .u64 cells⟩, ⟨1, 0, 0, .recs pokeR []⟩]))) = den (pt_al T S K G Q l cl cells pt ph (runR T S K G Q pt ph l cells)) := by kernel_rfl
theorem ct_al1 (T S K G Q : Int) (l : Nat) (cells : List Int) (rs : List (List Int)) (pt ph steps : Int) (n cc cl : Nat) : cutP (pt_al T S K G Q l cl cells pt ph (runR T S K G Q pt ph l cells)) (valT (ev sumsLA 60 4 [.agg #[.int .i64 T, .int .i64 S, .int .i64 K, .int .i64 G, .int .u64 Q], .slice (some ⟨0, 0, none⟩) l cl, .agg #[.int .i64 pt, .int .u64 ph, .int .i64 steps, .slice (some ⟨1, 0, some 16384⟩) n cc]] (winsH [⟨0, 0, 0, .ints .u64 cells⟩, ⟨1, 0, 0, .recs pokeR rs⟩]))) = den (pt_al T S K G Q l cl cells pt ph (runR T S K G Q pt ph l cells)) := by kernel_rfl
theorem runL_ends {p : Pm} {x : List Atom} {e : Int} {ws : List Int} (h : Ends p 150 (0, x) e ws) : ∃ R : ER, runL p.T p.S p.K p.G p.Q p.l p.c (400 - 0 : Int).toNat x = some R ∧ R.e = e ∧ R.s.ws = ws := by
  obtain ⟨n, s', h1, h2, h3⟩ := h
  refine ⟨⟨n, e, s'⟩, ?_, rfl, h2⟩
  rw [runL_is]
  have e0 : runK (400 - 0 : Int).toNat (0, x) = some (n, (hdE p e s').2) := h3 400 (by omega)
  have e1 : asE (hdE p e s').2 = some ⟨e, p.T, p.S, p.K, p.G, p.Q, p.l, p.c, s'⟩ := rfl
  unfold runV
  rw [e0]
  simp only [e1]
  unfold asR
  simp only
  rw [decide_eq_true (by exact ⟨trivial, trivial, trivial, trivial, trivial, trivial, trivial⟩), cond_true]
theorem get_same {T S K G Q : Int} {l : Nat} {s : MS} {vs : List Int} (h : Good T S K G Q l s.ws) (e : s.ws = vs) : (den (qSame T S K G Q l s vs)).get = some (.bool true) := by
  have hl := h.ll
  have hc := h.cfg
  have hlen := h.len
  unfold lenOf at hl
  unfold qSame
  simp only [den, Tree.get_br, Tree.get_leaf]
  refine (if_pos (cdec_true (show Row T S K G Q l s.ws from ⟨h.right, h.len, h.ll⟩))).trans ?_
  refine (if_pos (decide_eq_true ?_)).trans ?_
  · exact ⟨hlen, by rw [← e]; exact hlen, trivial, by omega⟩
  · rw [← e, same_self]; rfl
theorem al_get (T S K G Q : Int) (l cl : Nat) (cells : List Int) (pt ph : Int) (hl : cells.length = l) (hw : ∀ w ∈ cells, 0 ≤ w ∧ w < 18446744073709551616) (hph : 0 ≤ ph ∧ ph < 18446744073709551616) : (den (pt_al T S K G Q l cl cells pt ph (runR T S K G Q pt ph l cells))).get = some (.bool true) := by
  have hW : isW ph = true := isW_iff.2 hph
  have hI : cdec (of_I ([.i T] ++ ([.i S] ++ ([.i K] ++ ([.i G] ++ ([.i Q] ++ [])))) ++ ([.n l, .n cl] ++ []) ++ ([.ws cells] ++ []))) = true := cdec_true hl
  unfold pt_al
  simp only [den, Tree.get_br, hI, hW, if_true, Bool.and_true]
  cases hr : isRow T S K G Q l with
  | false => cases okT ph S <;> rfl
  | true =>
    simp only [isRow, Bool.and_eq_true, decide_eq_true_eq] at hr
    have hg : Good T S K G Q l cells := ⟨hr.1, hl, hr.2, hw⟩
    have hgb := goodB_iff.2 hg
    simp only [if_true, hgb]
    cases hk : okT ph S with
    | false => exact get_same hg rfl
    | true =>
      have hp := pmOf_ok (T := T) (K := K) (G := G) (Q := Q) (own := pt) (l := l) hW hk
      have hE := e_all (p := pmOf T S K G Q pt ph l) hp (s := zeroS cells) (es := 0) (eh := ph) (ew := 0) (ec := 4) hg hW hk rfl
      obtain ⟨R, r1, r2, r3⟩ := runL_ends hE
      have r2 : R.e = (sweptI (pmOf T S K G Q pt ph l) cells).1 := r2
      have r3 : R.s.ws = (sweptI (pmOf T S K G Q pt ph l) cells).2 := r3
      have er : runR T S K G Q pt ph l cells = some R := by
        unfold runR
        rw [hk]
        exact r1
      have hsw : Good T S K G Q l R.s.ws := by
        rw [r3]
        exact swept_good hp hg
      rw [er]
      simp only [Bool.not_true, Bool.false_eq_true, if_false, Option.isSome_some, if_true, Option.getD_some, cond_true, r2, beq_self_eq_true]
      cases hf : freshB (pmOf T S K G Q pt ph l) cells with
      | true => simp only [if_true]; exact get_same hsw r3
      | false => simp only [Bool.false_eq_true, if_false, if_true]; exact get_same hsw (r3.trans (swept_same hf))
end Go.Proofs.YtfmhlldfpohokaaGreat.Bound
end

section
namespace Go.Proofs.YtfmhlldfpohokaaGreat.Bound
open Go.Proofs.YtfmhlldfpohokaaGreat.Ev Go.Proofs.YtfmhlldfpohokaaGreat.ChartMath
set_option linter.unusedVariables false
set_option linter.unusedSimpArgs false
noncomputable def sumsZ : Sums := withPure (withIf (withIf sums9 73 slotS) 36 ofTS) 8 aliveS
theorem sumsZ_ok : SumsOk sumsZ := aliveS_ok (ofTS_ok (slotS_ok sums9_ok (by kernel_rfl) fun h a b => slot_p a b) (by kernel_rfl) fun h s a b => po_is a b)
end Go.Proofs.YtfmhlldfpohokaaGreat.Bound
end

section
namespace Go.Proofs.YtfmhlldfpohokaaGreat.Bound
open Go.Proofs.YtfmhlldfpohokaaGreat.Ev Go.Proofs.YtfmhlldfpohokaaGreat.ChartMath
set_option linter.unusedVariables false
set_option linter.unusedSimpArgs false
def qz (S ph : Int) : PT Value := .b (isW ph) (.b (!okT ph S) (.cs 5 qTrue) (.cs 4 (.b (isW ph) (.cs 5 qTrue) .bad))) .bad
def pt_lz (T S K G Q ph : Int) : PT Value := .b (!right T S K G Q) (.cs 6 (qz S ph)) (.cs 4 (.b (((0 : Nat) : Int) != lenA T S K G Q) (qz S ph) .bad))
theorem ct_lz0 (T S K G Q pt ph steps : Int) : cutP (pt_lz T S K G Q ph) (valT (ev sumsZ 60 4 [.agg #[.int .i64 T, .int .i64 S, .int .i64 K, .int .i64 G, .int .u64 Q], .slice none 0 0, .agg #[.int .i64 pt, .int .u64 ph, .int .i64 steps, .slice none 0 0]] ⟨.nil, 0⟩)) = den (pt_lz T S K G Q ph) := by kernel_rfl
theorem ct_lz1 (T S K G Q pt ph steps : Int) (n cc : Nat) : cutP (pt_lz T S K G Q ph) (valT (ev sumsZ 60 4 [.agg #[.int .i64 T, .int .i64 S, .int .i64 K, .int .i64 G, .int .u64 Q], .slice none 0 0, .agg #[.int .i64 pt, .int .u64 ph, .int .i64 steps, .slice (some ⟨0, 0, some 16384⟩) n cc]] (winsH [⟨0, 0, 0, .recs pokeR []⟩]))) = den (pt_lz T S K G Q ph) := by kernel_rfl
theorem lz_get (T S K G Q ph : Int) (hph : 0 ≤ ph ∧ ph < 18446744073709551616) : (den (pt_lz T S K G Q ph)).get = some (.bool true) := by
  have hW : isW ph = true := isW_iff.2 hph
  have hq : (den (qz S ph)).get = some (.bool true) := by
    unfold qz
    simp only [den, Tree.get_br, hW, if_true]
    cases okT ph S <;> rfl
  unfold pt_lz
  simp only [den, Tree.get_br, hq]
  cases hR : right T S K G Q with
  | false => rfl
  | true =>
    have hR2 := hR
    simp only [right, decide_eq_true_eq] at hR2
    have : (((0 : Nat) : Int) != lenA T S K G Q) = true := by
      rw [bne_iff_ne]
      simp only [lenA, hR, cond_true, lenOf]
      omega
    simp only [Bool.not_true, Bool.false_eq_true, if_false, this, if_true]
end Go.Proofs.YtfmhlldfpohokaaGreat.Bound
end

section
namespace Go.Proofs.YtfmhlldfpohokaaGreat.Bound
open Go.Proofs.YtfmhlldfpohokaaGreat.Ev Go.Proofs.YtfmhlldfpohokaaGreat.ChartMath
set_option linter.unusedVariables false
set_option linter.unusedSimpArgs false
theorem mv_gn (w st : Int) (b : Bool) (h : 0 ≤ w ∧ w < 18446744073709551616) : gnI (moveI w st b) = gnI w := by
  unfold moveI gnI; split <;> omega
theorem new_gn {g : Int} (h0 : 0 ≤ g) (h1 : g ≤ 1073741824) : gnI (newI 0 g) = g := by unfold gnI newI; omega
section
variable {p : Pm} (hp : p.Ok)
include hp
theorem retire_st {ws : List Int} (h : p.good ws) (st : Int) : p.at (retireW p ws st) 4 p.sl = moveI (p.at ws 4 p.sl) st false := by
  unfold retireW noteW
  rw [at_ne (ne_slot hp (j := 7) (by omega) hp.s0 hp.s1 (.inl (by omega))), at_ne (ne_ep hp h.cfg.1), at_st hp h]
theorem drop_st {ws : List Int} (h : p.good ws) : p.at (dropW2 p ws) 4 p.sl = p.at ws 4 p.sl := drop_at hp h (by omega) (fun _ => rfl) (fun _ => ⟨by omega, hp.s0, hp.s1⟩)
theorem final_st {ws : List Int} (h : p.good ws) : p.at (finalW p ws) 4 p.sl = newI 0 (p.gn + 1) := by
  have h6 : p.good (p.set ws 6 p.sl 0) := h.lset (by omega) _ _
  exact at_st hp h6 _
/-- What is in a state is ready for it. -/
theorem swept_at {ws : List Int} {st : Int} (h1 : gnI (p.at ws 4 p.sl) = p.gn) (h2 : stI (p.at ws 4 p.sl) = st) (h3 : bitI (p.at ws 4 p.sl) 26 = false) (h4 : 5 ≤ st) : sweptI p ws = if st = 7 then endT p ws (p.at ws 7 p.sl) else if st = 6 then endB p ws (p.at ws 7 p.sl) else endB p (retireW p ws 6) (p.at ws 2 0) := by
  have _h0 := hp
  unfold sweptI
  rw [if_neg (by rintro (x | x | x); exact x h1; omega; omega), if_neg (by rw [h3]; simp), if_neg (by omega), if_neg (by omega), h2]
theorem endT_cases (ws : List Int) (r : Int) : (endT p ws r = (9, ws) ∧ heldI p ws r = true) ∨ (endT p ws r = (0, finalW p ws)) := by
  have _h0 := hp
  unfold endT
  by_cases e : heldI p ws r = true
  · rw [if_pos e]; exact .inl ⟨rfl, e⟩
  · rw [if_neg e]; exact .inr rfl
/-- Behind a wait that found one, it finds one again. -/
theorem again {ws : List Int} {r : Int} (h : p.good ws) (h1 : gnI (p.at ws 4 p.sl) = p.gn) (h3 : bitI (p.at ws 4 p.sl) 26 = false) (h2 : stI (p.at ws 4 p.sl) = 6 ∨ stI (p.at ws 4 p.sl) = 7) (hr : p.at ws 7 p.sl = r) (hh : heldI p ws r = true) : sweptI p ws = (9, ws) := by
  rcases h2 with h2 | h2
  · rw [swept_at hp h1 h2 h3 (by omega), if_neg (by omega), if_pos rfl, hr]
    unfold endB
    rw [if_pos hh]
  · rw [swept_at hp h1 h2 h3 (by omega), if_pos rfl, hr]
    unfold endT
    rw [if_pos hh]
theorem stale {ws : List Int} (h : p.good ws) : sweptI p (finalW p ws) = (2, finalW p ws) := by
  have g0 := hp.g0
  have g1 := hp.g1
  have e : gnI (p.at (finalW p ws) 4 p.sl) ≠ p.gn := by
    rw [final_st hp h, new_gn (by omega) (by omega)]
    omega
  unfold sweptI
  rw [if_pos (.inl e)]
/-- What is told again. -/
def Again (z z2 : Int × List Int) : Prop := (z.1 = 0 ∧ z2 = (2, z.2)) ∨ (z.1 ≠ 0 ∧ z2 = z)
theorem again_T {ws : List Int} {r : Int} (h : p.good ws) (h1 : gnI (p.at ws 4 p.sl) = p.gn) (h3 : bitI (p.at ws 4 p.sl) 26 = false) (h2 : stI (p.at ws 4 p.sl) = 6 ∨ stI (p.at ws 4 p.sl) = 7) (hr : p.at ws 7 p.sl = r) : Again (endT p ws r) (sweptI p (endT p ws r).2) := by
  rcases endT_cases hp ws r with ⟨e, e2⟩ | e
  · rw [e]
    exact .inr ⟨by simp, again hp h h1 h3 h2 hr e2⟩
  · rw [e]
    exact .inl ⟨rfl, stale hp h⟩
theorem again_B {ws : List Int} {r : Int} (h : p.good ws) (h1 : gnI (p.at ws 4 p.sl) = p.gn) (h3 : bitI (p.at ws 4 p.sl) 26 = false) (h2 : stI (p.at ws 4 p.sl) = 6) (hr : p.at ws 7 p.sl = r) : Again (endB p ws r) (sweptI p (endB p ws r).2) := by
  have hd := drop_good hp h
  have hrd := retire_good hp hd 7
  unfold endB
  by_cases e : heldI p ws r = true
  · rw [if_pos e]
    exact .inr ⟨by simp, again hp h h1 h3 (.inl h2) hr e⟩
  · rw [if_neg e]
    refine again_T hp hrd ?_ ?_ (.inr ?_) (retire_at hp hd 7)
    · rw [retire_st hp hd, mv_gn _ _ _ (hd.lat _ _)]; exact (congrArg gnI (drop_st hp h)).trans h1
    · rw [retire_st hp hd, mv_busy]
    · rw [retire_st hp hd, mv_st _ _ _ (by omega)]
theorem swept_again {ws : List Int} (h : p.good ws) : Again (sweptI p ws) (sweptI p (sweptI p ws).2) := by
  have hst := st_range (p.at ws 4 p.sl)
  by_cases q1 : gnI (p.at ws 4 p.sl) ≠ p.gn ∨ stI (p.at ws 4 p.sl) = 0 ∨ stI (p.at ws 4 p.sl) = 1
  · have e : sweptI p ws = (2, ws) := by unfold sweptI; rw [if_pos q1]
    rw [e]; exact .inr ⟨by simp, e⟩
  by_cases q2 : bitI (p.at ws 4 p.sl) 26 = true
  · have e : sweptI p ws = (3, ws) := by unfold sweptI; rw [if_neg q1, if_pos q2]
    rw [e]; exact .inr ⟨by simp, e⟩
  by_cases q3 : stI (p.at ws 4 p.sl) = 2 ∨ stI (p.at ws 4 p.sl) = 3
  · have e : sweptI p ws = (4, ws) := by unfold sweptI; rw [if_neg q1, if_neg q2, if_pos q3]
    rw [e]; exact .inr ⟨by simp, e⟩
  by_cases q4 : stI (p.at ws 4 p.sl) = 4 ∧ laterF p ws p.sl (p.at ws 6 p.sl) p.S.toNat 0 = true
  · have e : sweptI p ws = (9, ws) := by unfold sweptI; rw [if_neg q1, if_neg q2, if_neg q3, if_pos q4]
    rw [e]; exact .inr ⟨by simp, e⟩
  have h1 : gnI (p.at ws 4 p.sl) = p.gn := Classical.not_not.1 fun x => q1 (.inl x)
  have h3 : bitI (p.at ws 4 p.sl) 26 = false := by simpa using q2
  by_cases q7 : stI (p.at ws 4 p.sl) = 7
  · have e : sweptI p ws = endT p ws (p.at ws 7 p.sl) := by unfold sweptI; rw [if_neg q1, if_neg q2, if_neg q3, if_neg q4, if_pos q7]
    rw [e]; exact again_T hp h h1 h3 (.inr q7) rfl
  by_cases q6 : stI (p.at ws 4 p.sl) = 6
  · have e : sweptI p ws = endB p ws (p.at ws 7 p.sl) := by unfold sweptI; rw [if_neg q1, if_neg q2, if_neg q3, if_neg q4, if_neg q7, if_pos q6]
    rw [e]; exact again_B hp h h1 h3 q6 rfl
  · have e : sweptI p ws = endB p (retireW p ws 6) (p.at ws 2 0) := by unfold sweptI; rw [if_neg q1, if_neg q2, if_neg q3, if_neg q4, if_neg q7, if_neg q6]
    rw [e]
    refine again_B hp (retire_good hp h 6) ?_ ?_ ?_ (retire_at hp h 6)
    · rw [retire_st hp h, mv_gn _ _ _ (h.lat _ _)]; exact h1
    · rw [retire_st hp h, mv_busy]
    · rw [retire_st hp h, mv_st _ _ _ (by omega)]
end
end Go.Proofs.YtfmhlldfpohokaaGreat.Bound
end

section
namespace Go.Proofs.YtfmhlldfpohokaaGreat.Bound
open Go.Proofs.YtfmhlldfpohokaaGreat.Ev Go.Proofs.YtfmhlldfpohokaaGreat.ChartMath
set_option linter.unusedVariables false
set_option linter.unusedSimpArgs false
/-- Where a sweep begins, over any memory. -/
def begS (T S K G Q pt ph sl gn : Int) (l : Nat) (s : MS) : List Atom := [.i T, .i S, .i K, .i G, .i Q, .i pt, .i sl, .i gn, .b false, .i 0, .i (slI ph), .i 0, .i ph, .n 4, .n 4, .b false, .b false, .i 0, .i 0, .ws [4, 5, 6, 7]] ++ mA T S K G Q l l s
noncomputable def runQ (T S K G Q pt ph : Int) (l : Nat) (s : MS) : Option ER := runL T S K G Q l l (400 - 0 : Int).toNat (begS T S K G Q pt ph (if okT ph S = true then slI ph else 0) (if okT ph S = true then genI ph else 0) l s)
section
variable (T S K G Q : Int) (l cl : Nat) (cells : List Int) (pt ph : Int)
noncomputable def qCells (s : MS) (p : PT Value) : PT Value := .b (cdec (cells_I ([] ++ [] ++ ([.i T] ++ ([.i S] ++ ([.i K] ++ ([.i G] ++ ([.i Q] ++ ([.n l, .n l] ++ ([.i s.tk] ++ ([.i s.ts] ++ ([.i s.to] ++ ([.i s.told] ++ ([.i s.tnew] ++ ([.b s.td] ++ ([.i s.many] ++ [])))))))))))) ++ ([.ws s.ws] ++ []))))) p .bad
noncomputable def qOf (p q : PT Value) : PT Value := .b (cdec (of_I ([.i T] ++ ([.i S] ++ ([.i K] ++ ([.i G] ++ ([.i Q] ++ [])))) ++ ([.n l, .n cl] ++ []) ++ ([.ws cells] ++ [])))) (.b (isRow T S K G Q l) p q) .bad
end
theorem runQ_is {T S K G Q pt ph : Int} {l : Nat} {s : MS} (hg : Good T S K G Q l s.ws) (hW : isW ph = true) (hk : okT ph S = true) : ∃ R : ER, runQ T S K G Q pt ph l s = some R ∧ R.e = (sweptI (pmOf T S K G Q pt ph l) s.ws).1 ∧ R.s.ws = (sweptI (pmOf T S K G Q pt ph l) s.ws).2 := by
  have hp := pmOf_ok (T := T) (K := K) (G := G) (Q := Q) (own := pt) (l := l) hW hk
  have hE := e_all (p := pmOf T S K G Q pt ph l) hp (s := s) (es := 0) (eh := ph) (ew := 0) (ec := 4) hg hW hk rfl
  obtain ⟨R, r1, r2, r3⟩ := runL_ends hE
  refine ⟨R, ?_, r2, r3⟩
  unfold runQ
  rw [hk]
  exact r1
theorem get_cells {T S K G Q : Int} {l : Nat} {s : MS} {p : PT Value} (h : Good T S K G Q l s.ws) : (den (qCells T S K G Q l s p)).get = (den p).get := by
  unfold qCells
  simp only [den, Tree.get_br]
  exact if_pos (cdec_true (show Row T S K G Q l s.ws from ⟨h.right, h.len, h.ll⟩))
end Go.Proofs.YtfmhlldfpohokaaGreat.Bound
end
