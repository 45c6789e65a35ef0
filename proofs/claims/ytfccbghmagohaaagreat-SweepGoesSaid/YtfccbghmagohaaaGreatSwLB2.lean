/- The law SweepAlone's sums. No condition. The law SweepAlone, where words are handed in. No condition. Laws of the sweep where no words are handed in: the sums. No condition. The law SweepAlone, where no words are handed in. No condition. -/
import Derived.Test.YtfccbghmagohaaaGreatSwPC
import Derived.Test.YtfccbghmagohaaaGreatSwAliveQ
import Derived.Test.YtfccbghmagohaaaGreatEvCQ
import Derived.Test.YtfccbghmagohaaaGreatPackSQ
import Derived.Test.YtfccbghmagohaaaGreatSwPB
section
namespace Go.Proofs.YtfccbghmagohaaaGreat.Bound
open Go.Proofs.YtfccbghmagohaaaGreat.Ev Go.Proofs.YtfccbghmagohaaaGreat.ChartMath
set_option linter.unusedVariables false
noncomputable def sumsLA : Sums := withPure (withSame (withSwept (withEnds sumsF3))) 11 aliveS
theorem sumsLA_ok : SumsOk sumsLA := aliveS_ok (withSame_ok (withSwept_ok (withEnds_ok sumsF3_ok)))
end Go.Proofs.YtfccbghmagohaaaGreat.Bound
end

section
namespace Go.Proofs.YtfccbghmagohaaaGreat.Bound
open Go.Proofs.YtfccbghmagohaaaGreat.Ev Go.Proofs.YtfccbghmagohaaaGreat.ChartMath
set_option linter.unusedVariables false
set_option linter.unusedSimpArgs false
def zeroS (ws : List Int) : MS := ⟨ws, 0, 0, 0, 0, 0, 0, false⟩
/-- Where a sweep begins. -/
def newX (T S K G Q pt ph sl gn : Int) (l : Nat) (cells : List Int) : List Atom := [.i T, .i S, .i K, .i G, .i Q, .i pt, .i sl, .i gn, .b false, .i 0, .i (slI ph), .i 0, .i ph, .n 4, .n 4, .b false, .b false, .i 0, .i 0, .ws [4, 5, 6, 7]] ++ mA T S K G Q l l (zeroS cells)
noncomputable def runR (T S K G Q pt ph : Int) (l : Nat) (cells : List Int) : Option ER := runL T S K G Q l l (400 - 0 : Int).toNat (newX T S K G Q pt ph (if okT ph S = true then slI ph else 0) (if okT ph S = true then genI ph else 0) l cells)
section
variable (T S K G Q : Int) (l cl : Nat) (cells : List Int) (pt ph : Int)
/-- Whether a memory's words are some words. -/
noncomputable def qSame (s : MS) (vs : List Int) : PT Value := .b (cdec (cells_I ([] ++ [] ++ ([.i T] ++ ([.i S] ++ ([.i K] ++ ([.i G] ++ ([.i Q] ++ ([.n l, .n l] ++ ([.i s.tk] ++ ([.i s.ts] ++ ([.i s.to] ++ ([.i s.told] ++ ([.i s.tnew] ++ ([.b s.td] ++ ([.i s.many] ++ [])))))))))))) ++ ([.ws s.ws] ++ []))))) (.cs 2 (.b (decide (s.ws.length = l ∧ vs.length = l ∧ l = l ∧ l ≤ 900)) (.leaf (.bool (bif true then sameF s.ws vs l 0 else false))) .bad)) .bad
def qTrue : PT Value := .leaf (.bool true)
noncomputable def pt_al (R : Option ER) : PT Value := .b (cdec (of_I ([.i T] ++ ([.i S] ++ ([.i K] ++ ([.i G] ++ ([.i Q] ++ [])))) ++ ([.n l, .n cl] ++ []) ++ ([.ws cells] ++ [])))) (.b (isRow T S K G Q l)
  (.b (isW ph) (.b (!okT ph S)
    (.cs 4 (.b (goodB T S K G Q l cells && isW ph) (.b (okT ph S) .bad (.cs 8 (qSame T S K G Q l (zeroS cells) cells))) .bad))
    (.cs 4 (.b (isW ph) (.cs 4 (.b R.isSome (.b (goodB T S K G Q l cells && isW ph) (.b (okT ph S) (.b (freshB (pmOf T S K G Q pt ph l) cells)
      (.cs 6 (.b (bif true then (R.getD dfR).e == (sweptI (pmOf T S K G Q pt ph l) cells).1 else false) (.cs 1 (qSame T S K G Q l (R.getD dfR).s (sweptI (pmOf T S K G Q pt ph l) cells).2)) .bad))
      (.cs 6 (.b (bif true then (R.getD dfR).e == (sweptI (pmOf T S K G Q pt ph l) cells).1 else false) (.cs 1 (qSame T S K G Q l (R.getD dfR).s cells)) .bad))) .bad) .bad) .bad)) .bad))) .bad)
  (.b (isW ph) (.b (!okT ph S) (.cs 5 qTrue) (.cs 4 (.b (isW ph) (.cs 5 qTrue) .bad))) .bad)) .bad
end
theorem ct_al0 (T S K G Q : Int) (l : Nat) (cells : List Int) (pt ph steps : Int) (cl : Nat) : cutP (pt_al T S K G Q l cl cells pt ph (runR T S K G Q pt ph l cells)) (valT (ev sumsLA 60 8 [.agg #[.int .i64 T, .int .i64 S, .int .i64 K, .int .i64 G, .int .u64 Q], .slice (some ⟨0, 0, none⟩) l cl, .agg #[.int .i64 pt, .int .u64 ph, .int .i64 steps, .slice none 0 0]] (winsH [⟨0, 0, 0, .ints .u64 cells⟩, ⟨1, 0, 0, .recs pokeR []⟩]))) = den (pt_al T S K G Q l cl cells pt ph (runR T S K G Q pt ph l cells)) := by kernel_rfl
theorem ct_al1 (T S K G Q : Int) (l : Nat) (cells : List Int) (rs : List (List Int)) (pt ph steps : Int) (n cc cl : Nat) : cutP (pt_al T S K G Q l cl cells pt ph (runR T S K G Q pt ph l cells)) (valT (ev sumsLA 60 8 [.agg #[.int .i64 T, .int .i64 S, .int .i64 K, .int .i64 G, .int .u64 Q], .slice (some ⟨0, 0, none⟩) l cl, .agg #[.int .i64 pt, .int .u64 ph, .int .i64 steps, .slice (some ⟨1, 0, some 16384⟩) n cc]] (winsH [⟨0, 0, 0, .ints .u64 cells⟩, ⟨1, 0, 0, .recs pokeR rs⟩]))) = den (pt_al T S K G Q l cl cells pt ph (runR T S K G Q pt ph l cells)) := by kernel_rfl
theorem runL_ends {p : Pm} {x : List Atom} {e : Int} {ws : List Int} (h : Ends p 150 (0, x) e ws) : ∃ R : ER, runL p.T p.S p.K p.G p.Q p.l p.c (400 - 0 : Int).toNat x = some R ∧ R.e = e ∧ R.s.ws = ws := by
  obtain ⟨n, s', h1, h2, h3⟩ := h
  refine ⟨⟨n, e, s'⟩, ?_, rfl, h2⟩
  rw [runL_is]
  have e0 : runK (400 - 0 : Int).toNat (0, x) = some (n, (hdE p e s').2) := h3 400 (by omega)
  have e1 : asE (hdE p e s').2 = some ⟨e, p.T, p.S, p.K, p.G, p.Q, p.l, p.c, s'⟩ := rfl
  unfold runV
  rw [e0]
  simp only [e1]
  unfold asR
  simp only
  rw [decide_eq_true (by exact ⟨trivial, trivial, trivial, trivial, trivial, trivial, trivial⟩), cond_true]
theorem get_same {T S K G Q : Int} {l : Nat} {s : MS} {vs : List Int} (h : Good T S K G Q l s.ws) (e : s.ws = vs) : (den (qSame T S K G Q l s vs)).get = some (.bool true) := by
  have hl := h.ll
  have hc := h.cfg
  have hlen := h.len
  unfold lenOf at hl
  unfold qSame
  simp only [den, Tree.get_br, Tree.get_leaf]
  refine (if_pos (cdec_true (show Row T S K G Q l s.ws from ⟨h.right, h.len, h.ll⟩))).trans ?_
  refine (if_pos (decide_eq_true ?_)).trans ?_
  · exact ⟨hlen, by rw [← e]; exact hlen, trivial, by omega⟩
  · rw [← e, same_self]; rfl
theorem al_get (T S K G Q : Int) (l cl : Nat) (cells : List Int) (pt ph : Int) (hl : cells.length = l) (hw : ∀ w ∈ cells, 0 ≤ w ∧ w < 18446744073709551616) (hph : 0 ≤ ph ∧ ph < 18446744073709551616) : (den (pt_al T S K G Q l cl cells pt ph (runR T S K G Q pt ph l cells))).get = some (.bool true) := by
  have hW : isW ph = true := isW_iff.2 hph
  have hI : cdec (of_I ([.i T] ++ ([.i S] ++ ([.i K] ++ ([.i G] ++ ([.i Q] ++ [])))) ++ ([.n l, .n cl] ++ []) ++ ([.ws cells] ++ []))) = true := cdec_true hl
  unfold pt_al
  simp only [den, Tree.get_br, hI, hW, if_true, Bool.and_true]
  cases hr : isRow T S K G Q l with
  | false => cases okT ph S <;> rfl
  | true =>
    simp only [isRow, Bool.and_eq_true, decide_eq_true_eq] at hr
    have hg : Good T S K G Q l cells := ⟨hr.1, hl, hr.2, hw⟩
    have hgb := goodB_iff.2 hg
    simp only [if_true, hgb]
    cases hk : okT ph S with
    | false => exact get_same hg rfl
    | true =>
      have hp := pmOf_ok (T := T) (K := K) (G := G) (Q := Q) (own := pt) (l := l) hW hk
      have hE := e_all (p := pmOf T S K G Q pt ph l) hp (s := zeroS cells) (es := 0) (eh := ph) (ew := 0) (ec := 4) hg hW hk rfl
      obtain ⟨R, r1, r2, r3⟩ := runL_ends hE
      have r2 : R.e = (sweptI (pmOf T S K G Q pt ph l) cells).1 := r2
      have r3 : R.s.ws = (sweptI (pmOf T S K G Q pt ph l) cells).2 := r3
      have er : runR T S K G Q pt ph l cells = some R := by
        unfold runR
        rw [hk]
        exact r1
      have hsw : Good T S K G Q l R.s.ws := by
        rw [r3]
        exact swept_good hp hg
      rw [er]
      simp only [Bool.not_true, Bool.false_eq_true, if_false, Option.isSome_some, if_true, Option.getD_some, cond_true, r2, beq_self_eq_true]
      cases hf : freshB (pmOf T S K G Q pt ph l) cells with
      | true => simp only [if_true]; exact get_same hsw r3
      | false => simp only [Bool.false_eq_true, if_false, if_true]; exact get_same hsw (r3.trans (swept_same hf))
end Go.Proofs.YtfccbghmagohaaaGreat.Bound
end

section
namespace Go.Proofs.YtfccbghmagohaaaGreat.Bound
open Go.Proofs.YtfccbghmagohaaaGreat.Ev Go.Proofs.YtfccbghmagohaaaGreat.ChartMath
set_option linter.unusedVariables false
set_option linter.unusedSimpArgs false
noncomputable def sumsZ : Sums := withPure (withIf (withIf sums9 72 slotS) 36 ofTS) 11 aliveS
theorem sumsZ_ok : SumsOk sumsZ := aliveS_ok (ofTS_ok (slotS_ok sums9_ok (by kernel_rfl) fun h a b => slot_p a b) (by kernel_rfl) fun h s a b => po_is a b)
end Go.Proofs.YtfccbghmagohaaaGreat.Bound
end

section
namespace Go.Proofs.YtfccbghmagohaaaGreat.Bound
open Go.Proofs.YtfccbghmagohaaaGreat.Ev Go.Proofs.YtfccbghmagohaaaGreat.ChartMath
set_option linter.unusedVariables false
set_option linter.unusedSimpArgs false
def qz (S ph : Int) : PT Value := .b (isW ph) (.b (!okT ph S) (.cs 5 qTrue) (.cs 4 (.b (isW ph) (.cs 5 qTrue) .bad))) .bad
def pt_lz (T S K G Q ph : Int) : PT Value := .b (!right T S K G Q) (.cs 6 (qz S ph)) (.cs 4 (.b (((0 : Nat) : Int) != lenA T S K G Q) (qz S ph) .bad))
theorem ct_lz0 (T S K G Q pt ph steps : Int) : cutP (pt_lz T S K G Q ph) (valT (ev sumsZ 60 8 [.agg #[.int .i64 T, .int .i64 S, .int .i64 K, .int .i64 G, .int .u64 Q], .slice none 0 0, .agg #[.int .i64 pt, .int .u64 ph, .int .i64 steps, .slice none 0 0]] ⟨.nil, 0⟩)) = den (pt_lz T S K G Q ph) := by kernel_rfl
theorem ct_lz1 (T S K G Q pt ph steps : Int) (n cc : Nat) : cutP (pt_lz T S K G Q ph) (valT (ev sumsZ 60 8 [.agg #[.int .i64 T, .int .i64 S, .int .i64 K, .int .i64 G, .int .u64 Q], .slice none 0 0, .agg #[.int .i64 pt, .int .u64 ph, .int .i64 steps, .slice (some ⟨0, 0, some 16384⟩) n cc]] (winsH [⟨0, 0, 0, .recs pokeR []⟩]))) = den (pt_lz T S K G Q ph) := by kernel_rfl
theorem lz_get (T S K G Q ph : Int) (hph : 0 ≤ ph ∧ ph < 18446744073709551616) : (den (pt_lz T S K G Q ph)).get = some (.bool true) := by
  have hW : isW ph = true := isW_iff.2 hph
  have hq : (den (qz S ph)).get = some (.bool true) := by
    unfold qz
    simp only [den, Tree.get_br, hW, if_true]
    cases okT ph S <;> rfl
  unfold pt_lz
  simp only [den, Tree.get_br, hq]
  cases hR : right T S K G Q with
  | false => rfl
  | true =>
    have hR2 := hR
    simp only [right, decide_eq_true_eq] at hR2
    have : (((0 : Nat) : Int) != lenA T S K G Q) = true := by
      rw [bne_iff_ne]
      simp only [lenA, hR, cond_true, lenOf]
      omega
    simp only [Bool.not_true, Bool.false_eq_true, if_false, this, if_true]
end Go.Proofs.YtfccbghmagohaaaGreat.Bound
end
