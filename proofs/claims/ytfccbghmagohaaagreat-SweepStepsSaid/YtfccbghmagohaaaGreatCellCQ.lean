/- Where a spot stands, and how many cells there are: sums of the program's and of the document's functions. No condition. -/
import Derived.Test.YtfccbghmagohaaaGreatCellBQ
namespace Go.Proofs.YtfccbghmagohaaaGreat.Bound
open Go.Proofs.YtfccbghmagohaaaGreat.Ev Go.Proofs.YtfccbghmagohaaaGreat.ChartMath
set_option linter.unusedVariables false
set_option linter.unusedSimpArgs false
/-- An answer with branches, by one of its ways. -/
theorem outV_of {t : Tree (Value × TH × List Nat)} {v : Value} {H : TH} {L : List Nat} (h : t.get = some (v, H, L)) : outV t = some v := by
  induction t with
  | leaf r => simp at h; subst h; rfl
  | bad => simp at h
  | br b t e ih1 ih2 => cases b <;> simp at h <;> simp [outV] <;> first | exact ih1 h | exact ih2 h
def cfg3 : List Value → Option (Int × Int × Int × Int × Int × Int × Int)
  | [.agg ⟨[.int .i64 T, .int .i64 S, .int .i64 K, .int .i64 G, .int .u64 Q]⟩, .int .i64 kind, .int .i64 o] => some (T, S, K, G, Q, kind, o)
  | _ => none
def spot3 : List Value → Option (Int × Int × Int × Int × Int × Int × Int)
  | [.agg ⟨[.int .i64 T, .int .i64 S, .int .i64 K, .int .i64 G, .int .u64 Q]⟩, .agg ⟨[.int .i64 kind, .int .i64 o]⟩] => some (T, S, K, G, Q, kind, o)
  | _ => none
def onCell (f : List Value → Option (Int × Int × Int × Int × Int × Int × Int)) (l : List Value) : Option (Bool × Value) := match f l with
  | some (T, S, K, G, Q, kind, o) => some (right T S K G Q, .int .i64 (cellOf T S K kind o))
  | none => none
theorem outV_walk {t : Tree (Value × TH × List Nat)} {ds bs : List Bool} {v : Value} (h : walkV t ds = some (bs, v)) (hb : bs = ds) : outV t = some v := by
  induction t generalizing ds bs with
  | leaf r => cases ds <;> simp [walkV] at h; simp [outV, h.2]
  | bad => cases ds <;> simp [walkV] at h
  | br b t e ih1 ih2 =>
    cases ds with
    | nil => simp [walkV] at h
    | cons d ds =>
      simp only [walkV] at h
      cases d with
      | true =>
        simp only [cond_true] at h
        cases hw : walkV t ds with
        | none => simp [hw] at h
        | some p =>
          obtain ⟨cs, x⟩ := p
          simp [hw] at h
          obtain ⟨rfl, rfl⟩ := h
          simp at hb
          obtain ⟨rfl, rfl⟩ := hb
          simpa [outV] using ih1 hw rfl
      | false =>
        simp only [cond_false] at h
        cases hw : walkV e ds with
        | none => simp [hw] at h
        | some p =>
          obtain ⟨cs, x⟩ := p
          simp [hw] at h
          obtain ⟨rfl, rfl⟩ := h
          simp at hb
          obtain ⟨rfl, rfl⟩ := hb
          simpa [outV] using ih2 hw rfl
theorem refcell_hit (T S K G Q kind o : Int) : walkV (ev cl_sums 60 49 [.agg #[.int .i64 T, .int .i64 S, .int .i64 K, .int .i64 G, .int .u64 Q], .int .i64 kind, .int .i64 o] ⟨.nil, 0⟩) [true, true, true, true] =
    some ([cdec (spI [.i T, .i S, .i K, .i G, .i Q]), right T S K G Q, cdec (c_I [.i kind, .i o, .n (lenN T S K), .n (lenN T S K), .i 0, .rs (spotsL T S K)]), decide (0 ≤ posS kind o (spotsL T S K) (((lenN T S K : Nat) : Int) - 0).toNat 0)], .int .i64 (posS kind o (spotsL T S K) (((lenN T S K : Nat) : Int) - 0).toNat 0)) := by kernel_rfl
theorem refcell_no (T S K G Q kind o : Int) : walkV (ev cl_sums 60 49 [.agg #[.int .i64 T, .int .i64 S, .int .i64 K, .int .i64 G, .int .u64 Q], .int .i64 kind, .int .i64 o] ⟨.nil, 0⟩) [true, true, true, false] =
    some ([cdec (spI [.i T, .i S, .i K, .i G, .i Q]), right T S K G Q, cdec (c_I [.i kind, .i o, .n (lenN T S K), .n (lenN T S K), .i 0, .rs (spotsL T S K)]), decide (0 ≤ posS kind o (spotsL T S K) (((lenN T S K : Nat) : Int) - 0).toNat 0)], .int .i64 (-1)) := by kernel_rfl
theorem refcell_is {T S K G Q kind o : Int} (hR : right T S K G Q = true) : outV (ev cl_sums 60 49 [.agg #[.int .i64 T, .int .i64 S, .int .i64 K, .int .i64 G, .int .u64 Q], .int .i64 kind, .int .i64 o] ⟨.nil, 0⟩) = some (.int .i64 (cellOf T S K kind o)) := by
  obtain ⟨a1, a2, b1, b2, c1, c2, _⟩ := right_iff.1 hR
  have hn : (((lenN T S K : Nat) : Int) - 0).toNat = lenN T S K := by omega
  have hp : posS kind o (spotsL T S K) (lenN T S K) 0 = cellOf T S K kind o := pos_is a1 b1 c1 _ 0 (by omega) (by simp only [lenN, lenOf]; omega) (fun j h1 h2 => by omega)
  have h1 : cdec (spI [.i T, .i S, .i K, .i G, .i Q]) = true := cdec_true trivial
  have h2 : cdec (c_I [.i kind, .i o, .n (lenN T S K), .n (lenN T S K), .i 0, .rs (spotsL T S K)]) = true := cdec_true ⟨spotsL_length T S K, by omega, by simp only [lenN]; omega⟩
  by_cases h : 0 ≤ cellOf T S K kind o
  · refine (outV_walk (refcell_hit T S K G Q kind o) ?_).trans ?_
    · rw [h1, hR, h2, hn, hp, decide_eq_true h]
    · rw [hn, hp]
  · refine (outV_walk (refcell_no T S K G Q kind o) ?_).trans ?_
    · rw [h1, hR, h2, hn, hp, decide_eq_false h]
    have := cell_low (K := K) (kind := kind) (of := o) (show (0 : Int) ≤ T by omega) (show (0 : Int) ≤ S by omega)
    congr 2
    omega
noncomputable def sums6 : Sums := withIf sums1 49 (onCell cfg3)
theorem sums6_ok : SumsOk sums6 := withIf_ok sums1_ok cl_ok 60 (by kernel_rfl) fun al v h => by
  unfold onCell at h
  cases hc : cfg3 al with
  | none => rw [hc] at h; cases h
  | some p =>
    obtain ⟨T, S, K, G, Q, kind, o⟩ := p
    rw [hc] at h
    simp at h
    obtain ⟨hR, rfl⟩ := h
    unfold cfg3 at hc
    split at hc
    · cases hc; exact ⟨rfl, rfl, refcell_is hR⟩
    · cases hc
/-- How many cells there are. -/
def lenA (T S K G Q : Int) : Int := bif right T S K G Q then lenOf T S K else 0
theorem reflen_ev (T S K G Q : Int) : outV (ev sums5 60 44 [.agg #[.int .i64 T, .int .i64 S, .int .i64 K, .int .i64 G, .int .u64 Q]] ⟨.nil, 0⟩) =
    bif cdec (spI [.i T, .i S, .i K, .i G, .i Q]) then bif right T S K G Q then some (.int .i64 ((lenN T S K : Nat) : Int)) else some (.int .i64 ((0 : Nat) : Int)) else none := by kernel_rfl
theorem reflen_is (T S K G Q : Int) : outV (ev sums5 60 44 [.agg #[.int .i64 T, .int .i64 S, .int .i64 K, .int .i64 G, .int .u64 Q]] ⟨.nil, 0⟩) = some (.int .i64 (lenA T S K G Q)) := by
  have h1 : cdec (spI [.i T, .i S, .i K, .i G, .i Q]) = true := cdec_true trivial
  rw [reflen_ev, h1]
  unfold lenA
  cases hR : right T S K G Q with
  | false => rfl
  | true =>
    obtain ⟨a1, a2, b1, b2, c1, c2, _⟩ := right_iff.1 hR
    simp only [cond_true]
    congr 2
    simp only [lenN, lenOf]
    omega
/-- Where those of a kind stand, by the program. -/
def ofK (T S K kind : Int) : Int × Int × Int := bif kind == 1 then (IntKind.i64.wrap (kind - 1), 1, 1) else bif kind == 2 then (IntKind.i64.wrap (kind - 1), 1, 1) else bif kind == 3 then (2, T, 1)
  else bif kind == 4 then (IntKind.i64.wrap (IntKind.i64.wrap (IntKind.i64.wrap (2 + T) + kind) - 4), S, 4) else bif kind == 5 then (IntKind.i64.wrap (IntKind.i64.wrap (IntKind.i64.wrap (2 + T) + kind) - 4), S, 4)
  else bif kind == 6 then (IntKind.i64.wrap (IntKind.i64.wrap (IntKind.i64.wrap (2 + T) + kind) - 4), S, 4) else bif kind == 7 then (IntKind.i64.wrap (IntKind.i64.wrap (IntKind.i64.wrap (2 + T) + kind) - 4), S, 4)
  else bif kind == 8 then (IntKind.i64.wrap (IntKind.i64.wrap (2 + T) + IntKind.i64.wrap (4 * S)), K, 1) else (0, 0, 0)
def ofKV (p : Int × Int × Int) : Value := .agg #[.int .i64 p.1, .int .i64 p.2.1, .int .i64 p.2.2]
theorem ofKV_bif {b : Bool} {p q : Int × Int × Int} : (bif b then some (ofKV p) else some (ofKV q)) = some (ofKV (bif b then p else q)) := by cases b <;> rfl
theorem ofk_is (T S K G Q kind : Int) : outV (ev sums1 60 71 [.agg #[.int .i64 T, .int .i64 S, .int .i64 K, .int .i64 G, .int .u64 Q], .int .i64 kind] ⟨.nil, 0⟩) = some (ofKV (ofK T S K kind)) := by
  unfold ofK
  simp only [← ofKV_bif]
  kernel_rfl
def of2 : List Value → Option (Int × Int × Int × Int)
  | [.agg ⟨[.int .i64 T, .int .i64 S, .int .i64 K, .int .i64 _, .int .u64 _]⟩, .int .i64 kind] => some (T, S, K, kind)
  | _ => none
def onOf (l : List Value) : Option Value := match of2 l with
  | some (T, S, K, kind) => some (ofKV (ofK T S K kind))
  | none => none
noncomputable def sums7 : Sums := withPure (withPure sums6 71 onOf) 44 (onCfg fun T S K G Q => .int .i64 (lenA T S K G Q))
theorem sums7_ok : SumsOk sums7 := by
  refine withPure_ok (withPure_ok sums6_ok sums1_ok 60 (by kernel_rfl) fun al v h => ?_) sums5_ok 60 (by kernel_rfl) fun al v h => ?_
  · unfold onOf at h
    cases hc : of2 al with
    | none => rw [hc] at h; cases h
    | some p =>
      obtain ⟨T, S, K, kind⟩ := p
      rw [hc] at h
      cases h
      unfold of2 at hc
      split at hc
      · cases hc; exact ⟨rfl, rfl, ofk_is _ _ _ _ _ _⟩
      · cases hc
  · obtain ⟨T, S, K, G, Q, rfl, rfl⟩ := onCfg_eq h
    exact ⟨rfl, rfl, reflen_is T S K G Q⟩
theorem ofK_ofv {T S K G Q : Int} (hR : right T S K G Q = true) (kind : Int) : ofK T S K kind = ofv T S K kind := by
  obtain ⟨a1, a2, b1, b2, c1, c2, _⟩ := right_iff.1 hR
  have w1 : IntKind.i64.wrap (2 + T) = 2 + T := by rw [IntKind.wrap_i64]; omega
  have w2 : IntKind.i64.wrap (4 * S) = 4 * S := by rw [IntKind.wrap_i64]; omega
  have w3 : IntKind.i64.wrap (2 + T + 4 * S) = 2 + T + 4 * S := by rw [IntKind.wrap_i64]; omega
  unfold ofK ofv
  rw [w1, w2, w3]
  by_cases h1 : kind = 1
  · subst h1; rfl
  by_cases h2 : kind = 2
  · subst h2; rfl
  by_cases h3 : kind = 3
  · subst h3; rfl
  have e1 : (kind == 1) = false := by simpa using h1
  have e2 : (kind == 2) = false := by simpa using h2
  have e3 : (kind == 3) = false := by simpa using h3
  rw [if_neg h1, if_neg h2, if_neg h3, e1, e2, e3]
  simp only [cond_false]
  by_cases h4 : 4 ≤ kind ∧ kind ≤ 7
  · have w4 : IntKind.i64.wrap (2 + T + kind) = 2 + T + kind := by rw [IntKind.wrap_i64]; omega
    have w5 : IntKind.i64.wrap (2 + T + kind - 4) = 2 + T + kind - 4 := by rw [IntKind.wrap_i64]; omega
    rw [if_pos h4, w4, w5]
    rcases (by omega : kind = 4 ∨ kind = 5 ∨ kind = 6 ∨ kind = 7) with rfl | rfl | rfl | rfl <;> rfl
  · rw [if_neg h4]
    have e4 : (kind == 4) = false := by simp; omega
    have e5 : (kind == 5) = false := by simp; omega
    have e6 : (kind == 6) = false := by simp; omega
    have e7 : (kind == 7) = false := by simp; omega
    rw [e4, e5, e6, e7]
    simp only [cond_false]
    by_cases h8 : kind = 8
    · subst h8; rfl
    · have e8 : (kind == 8) = false := by simpa using h8
      rw [if_neg h8, e8]; rfl
/-- Where a spot stands, in any world; -1: nowhere. -/
def cellA (T S K G Q kind o : Int) : Int := bif right T S K G Q then cellOf T S K kind o else -1
theorem cell_ev (T S K G Q kind o : Int) : outV (ev sums7 60 83 [.agg #[.int .i64 T, .int .i64 S, .int .i64 K, .int .i64 G, .int .u64 Q], .agg #[.int .i64 kind, .int .i64 o]] ⟨.nil, 0⟩) =
    bif !right T S K G Q then some (.int .i64 (-1)) else bif bif false then true else (ofK T S K kind).1 == 0 && ((ofK T S K kind).2.1 == 0 && ((ofK T S K kind).2.2 == 0 && true)) then some (.int .i64 (-1)) else
    bif bif false then true else decide (o < 0) then some (.int .i64 (-1)) else bif bif false then true else decide (o ≥ (ofK T S K kind).2.1) then some (.int .i64 (-1)) else
    some (.int .i64 (IntKind.i64.wrap ((ofK T S K kind).1 + IntKind.i64.wrap (o * (ofK T S K kind).2.2)))) := by kernel_rfl
theorem cell_is (T S K G Q kind o : Int) : outV (ev sums7 60 83 [.agg #[.int .i64 T, .int .i64 S, .int .i64 K, .int .i64 G, .int .u64 Q], .agg #[.int .i64 kind, .int .i64 o]] ⟨.nil, 0⟩) = some (.int .i64 (cellA T S K G Q kind o)) := by
  rw [cell_ev]
  unfold cellA
  cases hR : right T S K G Q with
  | false => rfl
  | true =>
    obtain ⟨a1, a2, b1, b2, c1, c2, _⟩ := right_iff.1 hR
    rw [ofK_ofv hR, cell_ofv a1 b1 c1]
    obtain ⟨r1, r2, r3, r4, r5, r6⟩ := ofv_range (kind := kind) ⟨a1, a2⟩ ⟨b1, b2⟩ ⟨c1, c2⟩
    simp only [Bool.not_true, cond_false, cond_true]
    generalize ofv T S K kind = p at *
    obtain ⟨x, y, z⟩ := p
    simp only at *
    by_cases h1 : x = 0 ∧ y = 0 ∧ z = 0
    · rw [if_pos h1]
      have : (x == 0 && (y == 0 && (z == 0 && true))) = true := by simp [h1]
      rw [this]; rfl
    · rw [if_neg h1]
      have : (x == 0 && (y == 0 && (z == 0 && true))) = false := by
        rw [Bool.eq_false_iff]
        intro hx
        apply h1
        simpa using hx
      rw [this]
      simp only [cond_false]
      by_cases h2 : o < 0
      · rw [if_pos h2, decide_eq_true h2]; rfl
      · rw [if_neg h2, decide_eq_false h2]
        simp only [cond_false]
        by_cases h3 : o ≥ y
        · rw [if_pos h3, decide_eq_true h3]; rfl
        · rw [if_neg h3, decide_eq_false h3]
          simp only [cond_false]
          have hz : z = 0 ∨ z = 1 ∨ z = 2 ∨ z = 3 ∨ z = 4 := by omega
          have w1 : IntKind.i64.wrap (o * z) = o * z := by
            rw [IntKind.wrap_i64]
            rcases hz with rfl | rfl | rfl | rfl | rfl <;> omega
          have w2 : IntKind.i64.wrap (x + o * z) = x + o * z := by
            rw [IntKind.wrap_i64]
            rcases hz with rfl | rfl | rfl | rfl | rfl <;> omega
          rw [w1, w2]
theorem len_is (T S K G Q : Int) : outV (ev sums7 60 35 [.agg #[.int .i64 T, .int .i64 S, .int .i64 K, .int .i64 G, .int .u64 Q]] ⟨.nil, 0⟩) = some (.int .i64 (lenA T S K G Q)) := by
  have e : outV (ev sums7 60 35 [.agg #[.int .i64 T, .int .i64 S, .int .i64 K, .int .i64 G, .int .u64 Q]] ⟨.nil, 0⟩) = bif !right T S K G Q then some (.int .i64 0) else some (.int .i64 (IntKind.i64.wrap ((ofK T S K 8).1 + (ofK T S K 8).2.1))) := by kernel_rfl
  rw [e]
  unfold lenA
  cases hR : right T S K G Q with
  | false => rfl
  | true =>
    obtain ⟨a1, a2, b1, b2, c1, c2, _⟩ := right_iff.1 hR
    rw [ofK_ofv hR]
    have : ofv T S K 8 = (2 + T + 4 * S, K, 1) := rfl
    rw [this]
    have w : IntKind.i64.wrap (2 + T + 4 * S + K) = 2 + T + 4 * S + K := by rw [IntKind.wrap_i64]; omega
    simp only [Bool.not_true, cond_false, cond_true, lenOf, w]
def onSpot (l : List Value) : Option Value := match spot3 l with
  | some (T, S, K, G, Q, kind, o) => some (.int .i64 (cellA T S K G Q kind o))
  | none => none
noncomputable def sums8 : Sums := withPure (withPure sums7 83 onSpot) 35 (onCfg fun T S K G Q => .int .i64 (lenA T S K G Q))
theorem sums8_ok : SumsOk sums8 := by
  refine withPure_ok (withPure_ok sums7_ok sums7_ok 60 (by kernel_rfl) fun al v h => ?_) sums7_ok 60 (by kernel_rfl) fun al v h => ?_
  · unfold onSpot at h
    cases hc : spot3 al with
    | none => rw [hc] at h; cases h
    | some p =>
      obtain ⟨T, S, K, G, Q, kind, o⟩ := p
      rw [hc] at h
      cases h
      unfold spot3 at hc
      split at hc
      · cases hc; exact ⟨rfl, rfl, cell_is _ _ _ _ _ _ _⟩
      · cases hc
  · obtain ⟨T, S, K, G, Q, rfl, rfl⟩ := onCfg_eq h
    exact ⟨rfl, rfl, len_is T S K G Q⟩
end Go.Proofs.YtfccbghmagohaaaGreat.Bound
