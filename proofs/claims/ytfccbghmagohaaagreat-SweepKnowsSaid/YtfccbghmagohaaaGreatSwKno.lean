/- Those that had a conflict with one that was let go of. No condition. The law SweepKnows: its loop. No condition. The law SweepKnows. No condition. -/
import Derived.Test.YtfccbghmagohaaaGreatSwOnc
import Derived.Test.YtfccbghmagohaaaGreatSwLB2
section
namespace Go.Proofs.YtfccbghmagohaaaGreat.Bound
open Go.Proofs.YtfccbghmagohaaaGreat.Ev Go.Proofs.YtfccbghmagohaaaGreat.ChartMath
set_option linter.unusedVariables false
set_option linter.unusedSimpArgs false
/-- Whether a side has any. -/
def anyI (w sd : Int) : Bool := decide (0 < w / pw (12 * sd) % 4096) || bitI w (24 + sd)
theorem bit_nat {w n : Int} (h : 0 ≤ w) : bitI w n = w.toNat.testBit n.toNat := by
  rw [Nat.testBit_eq_decide_div_mod_eq]
  unfold bitI pw
  have e : w = ((w.toNat : Nat) : Int) := by omega
  rw [Bool.eq_iff_iff, beq_iff_eq, decide_eq_true_eq]
  conv => lhs; rw [e]
  rw [← Int.natCast_ediv]
  constructor
  · intro h2; omega
  · intro h2; omega
theorem put_bit {w n m : Int} (b : Bool) (h : 0 ≤ w) (hn : 0 ≤ n) (hm : 0 ≤ m) (h1 : w < 18446744073709551616) (h2 : n ≤ 40) : bitI (putI w n b) m = if m = n then b else bitI w m := by
  have hp := put_word b h h1 hn h2
  rw [bit_nat hp.1, bit_nat h]
  have t : ∀ j : Nat, (2 ^ n.toNat).testBit j = decide (n.toNat = j) := fun j => Nat.testBit_two_pow
  cases b with
  | false =>
    rw [← clr_pow h, Int.toNat_natCast, clr_bit, t]
    by_cases e : m = n
    · subst e; simp
    · rw [if_neg e, decide_eq_false (by omega)]; simp
  | true =>
    rw [← or_pow h, Int.toNat_natCast, Nat.testBit_or, t]
    by_cases e : m = n
    · subst e; simp
    · rw [if_neg e, decide_eq_false (by omega)]; simp
theorem any_iff {w sd : Int} (h : 0 ≤ w) (h0 : 0 ≤ sd) : anyI w sd = true ↔ (∃ j : Int, 0 ≤ j ∧ j < 12 ∧ bitI w (12 * sd + j) = true) ∨ bitI w (24 + sd) = true := by
  unfold anyI
  rw [Bool.or_eq_true, decide_eq_true_eq]
  refine or_congr ?_ Iff.rfl
  have e : w / pw (12 * sd) % 4096 = ((w.toNat / 2 ^ (12 * sd).toNat % 2 ^ 12 : Nat) : Int) := by
    unfold pw
    conv => lhs; rw [show w = ((w.toNat : Nat) : Int) by omega]
    rw [← Int.natCast_ediv]
    omega
  rw [e]
  have tb : ∀ j : Nat, (w.toNat / 2 ^ (12 * sd).toNat % 2 ^ 12).testBit j = (decide (j < 12) && w.toNat.testBit ((12 * sd).toNat + j)) := fun j => by
    rw [Nat.testBit_mod_two_pow, Nat.testBit_div_two_pow, Nat.add_comm]
  constructor
  · intro hx
    obtain ⟨j, hj⟩ := Nat.exists_testBit_of_ne_zero (x := w.toNat / 2 ^ (12 * sd).toNat % 2 ^ 12) (by omega)
    rw [tb, Bool.and_eq_true, decide_eq_true_eq] at hj
    refine ⟨j, by omega, by omega, ?_⟩
    rw [bit_nat h, show (12 * sd + (j : Int)).toNat = (12 * sd).toNat + j by omega]
    exact hj.2
  · rintro ⟨j, j0, j1, hj⟩
    rw [bit_nat h, show (12 * sd + j).toNat = (12 * sd).toNat + j.toNat by omega] at hj
    have hb : (w.toNat / 2 ^ (12 * sd).toNat % 2 ^ 12).testBit j.toNat = true := by rw [tb, hj, decide_eq_true (by omega)]; rfl
    have hne : w.toNat / 2 ^ (12 * sd).toNat % 2 ^ 12 ≠ 0 := by
      intro hz
      rw [hz, Nat.zero_testBit] at hb
      cases hb
    omega
/-- One that is committed is remembered by the side's past. -/
theorem any_drop {w sl sd : Int} (h : 0 ≤ w ∧ w < 18446744073709551616) (hs : 0 ≤ sl ∧ sl ≤ 11) (hd : sd = 0 ∨ sd = 1) : anyI (dropW w sl true) sd = anyI w sd := by
  have hw := dropW_word true h hs
  have w0 : 0 ≤ sideD w w 0 sl true ∧ sideD w w 0 sl true < 18446744073709551616 := sideD_word (w := w) (out := w) (sd := 0) (sl := sl) (g := true) h.1 h.2 (by simp only [sideOk, decide_eq_true_eq]; omega)
  have b0 : ∀ m : Int, 0 ≤ m → bitI (sideD w w 0 sl true) m = if bitI w sl = true then (if m = 24 then true else if m = sl then false else bitI w m) else bitI w m := by
    intro m hm
    unfold sideD
    rw [show 12 * (0 : Int) + sl = sl by omega, show (24 : Int) + 0 = 24 by omega]
    cases hb : bitI w sl with
    | false => simp
    | true =>
      have p0 := put_word (n := sl) false h.1 h.2 (by omega) (by omega)
      simp only [cond_true, if_true]
      rw [put_bit true p0.1 (by omega) hm p0.2 (by omega), put_bit false h.1 (by omega) hm h.2 (by omega)]
  have b1 : ∀ m : Int, 0 ≤ m → bitI (dropW w sl true) m = if bitI w (12 + sl) = true then (if m = 25 then true else if m = 12 + sl then false else bitI (sideD w w 0 sl true) m) else bitI (sideD w w 0 sl true) m := by
    intro m hm
    show bitI (sideD w (sideD w w 0 sl true) 1 sl true) m = _
    clear b0
    generalize sideD w w 0 sl true = o at w0 ⊢
    unfold sideD
    rw [show 12 * (1 : Int) + sl = 12 + sl by omega, show (24 : Int) + 1 = 25 by omega]
    cases hb : bitI w (12 + sl) with
    | false => simp
    | true =>
      have p0 := put_word (n := 12 + sl) false w0.1 w0.2 (by omega) (by omega)
      simp only [cond_true, if_true]
      rw [put_bit true p0.1 (by omega) hm p0.2 (by omega), put_bit false w0.1 (by omega) hm w0.2 (by omega)]
  rw [Bool.eq_iff_iff, any_iff hw.1 (by omega), any_iff h.1 (by omega)]
  rcases hd with rfl | rfl
  · by_cases hb : bitI w sl = true
    · refine ⟨fun _ => .inl ⟨sl, by omega, by omega, by simpa using hb⟩, fun _ => .inr ?_⟩
      rw [b1 _ (by omega), b0 _ (by omega), if_pos hb, if_pos (show (24 : Int) + 0 = 24 by omega)]
      split
      · rw [if_neg (by omega), if_neg (by omega)]
      · rfl
    · have e : ∀ m : Int, 0 ≤ m → m < 12 ∨ m = 24 → bitI (dropW w sl true) m = bitI w m := fun m h0 h1 => by
        rw [b1 m h0, b0 m h0, if_neg hb]
        split
        · rw [if_neg (by omega), if_neg (by omega)]
        · rfl
      refine or_congr ⟨fun ⟨j, j0, j1, hj⟩ => ⟨j, j0, j1, by rw [← e _ (by omega) (by omega)]; exact hj⟩, fun ⟨j, j0, j1, hj⟩ => ⟨j, j0, j1, by rw [e _ (by omega) (by omega)]; exact hj⟩⟩ ?_
      rw [e _ (by omega) (by omega)]
  · by_cases hb : bitI w (12 + sl) = true
    · refine ⟨fun _ => .inl ⟨sl, by omega, by omega, hb⟩, fun _ => .inr ?_⟩
      rw [b1 _ (by omega), if_pos hb]
      simp
    · have e : ∀ m : Int, 12 ≤ m → m < 24 ∨ m = 25 → bitI (dropW w sl true) m = bitI w m := fun m h0 h1 => by
        rw [b1 m (by omega), if_neg hb, b0 m (by omega)]
        split
        · rw [if_neg (by omega), if_neg (by omega)]
        · rfl
      refine or_congr ⟨fun ⟨j, j0, j1, hj⟩ => ⟨j, j0, j1, by rw [← e _ (by omega) (by omega)]; exact hj⟩, fun ⟨j, j0, j1, hj⟩ => ⟨j, j0, j1, by rw [e _ (by omega) (by omega)]; exact hj⟩⟩ ?_
      rw [e _ (by omega) (by omega)]
section
variable {p : Pm} (hp : p.Ok)
include hp
theorem drop_other {ws : List Int} (h : p.good ws) {k : Int} (h0 : 0 ≤ k) (h1 : k < p.S) (hk : k ≠ p.sl) : p.at (dropW2 p ws) 4 k = dropW (p.at ws 4 k) p.sl (p.at ws 6 p.sl != 0) := by
  have hc := h.cfg
  have hcell := cell_st (T := p.T) (K := p.K) (k := 4) (by omega) (by omega) h0 h1
  have hs0 := hp.s0
  have hlen := h.cell 4 k
  have c0 : 0 ≤ cellOf p.T p.S p.K 4 k := by omega
  have kg : (keysF p p.K.toNat 0 ws)[(cellOf p.T p.S p.K 4 k).toNat]? = ws[(cellOf p.T p.S p.K 4 k).toNat]? := by
    rw [keysF_get p (by omega) (by omega) _ _ _ _ (by omega) (by omega), if_neg (by omega)]
  unfold Pm.at lat
  rw [if_pos c0, if_pos c0, List.getD_eq_getElem?_getD, List.getD_eq_getElem?_getD (l := ws) (i := (cellOf p.T p.S p.K 4 k).toNat)]
  unfold dropW2
  rw [othersF_get p _ hc.1 _ _ _ _ (by omega) (by omega), keysF_len, if_pos (by omega), List.getD_eq_getElem?_getD, kg]
  rfl
/-- One that was let go of, and had not been clear: other slots' words. -/
theorem swept_other {ws : List Int} (h : p.good ws) (e0 : (sweptI p ws).1 = 0) (h7 : stI (p.at ws 4 p.sl) ≠ 7) {k : Int} (k0 : 0 ≤ k) (k1 : k < p.S) (hk : k ≠ p.sl) : p.at (sweptI p ws).2 4 k = dropW (p.at ws 4 k) p.sl (p.at ws 6 p.sl != 0) := by
  have n4 := ne_slot hp (j := 4) (by omega) k0 k1 (.inr hk)
  have n6 := ne_slot hp (j := 6) (by omega) hp.s0 hp.s1 (.inl (by omega))
  have c4 := cell_st (T := p.T) (K := p.K) (k := 4) (by omega) (by omega) k0 k1
  have c6 := c_num hp
  have c7 := c_ret hp
  have hs0 := hp.s0
  have hc := h.cfg
  have ce : cellOf p.T p.S p.K 2 0 = 1 := cell_ep
  have re : ∀ {vs : List Int}, p.good vs → ∀ st, p.at (retireW p vs st) 4 k = p.at vs 4 k ∧ p.at (retireW p vs st) 6 p.sl = p.at vs 6 p.sl := by
    intro vs hv st
    unfold retireW noteW
    exact ⟨by rw [at_ne (by omega), at_ne (by omega), at_off hp hv n4], by rw [at_ne (by omega), at_ne (by omega), at_off hp hv n6]⟩
  have fin : ∀ {vs : List Int}, p.good vs → p.at (finalW p vs) 4 k = p.at vs 4 k := by
    intro vs hv
    unfold finalW
    rw [at_off hp (hv.lset (by omega) _ _) n4, at_ne (by omega)]
  have eB : ∀ {vs : List Int} (r : Int), p.good vs → (endB p vs r).1 = 0 → p.at (endB p vs r).2 4 k = dropW (p.at vs 4 k) p.sl (p.at vs 6 p.sl != 0) := by
    intro vs r hv he
    have hd := drop_good hp hv
    unfold endB at he ⊢
    by_cases e : heldI p vs r = true
    · rw [if_pos e] at he; cases he
    · rw [if_neg e] at he ⊢
      rcases endT_cases hp (retireW p (dropW2 p vs) 7) (p.at (dropW2 p vs) 2 0) with ⟨e2, _⟩ | e2
      · rw [e2] at he; cases he
      · rw [e2, fin (retire_good hp hd 7), (re hd 7).1, drop_other hp hv k0 k1 hk]
  unfold sweptI at e0 ⊢
  by_cases q1 : gnI (p.at ws 4 p.sl) ≠ p.gn ∨ stI (p.at ws 4 p.sl) = 0 ∨ stI (p.at ws 4 p.sl) = 1
  · rw [if_pos q1] at e0; cases e0
  rw [if_neg q1] at e0 ⊢
  by_cases q2 : bitI (p.at ws 4 p.sl) 26 = true
  · rw [if_pos q2] at e0; cases e0
  rw [if_neg q2] at e0 ⊢
  by_cases q3 : stI (p.at ws 4 p.sl) = 2 ∨ stI (p.at ws 4 p.sl) = 3
  · rw [if_pos q3] at e0; cases e0
  rw [if_neg q3] at e0 ⊢
  by_cases q4 : stI (p.at ws 4 p.sl) = 4 ∧ laterF p ws p.sl (p.at ws 6 p.sl) p.S.toNat 0 = true
  · rw [if_pos q4] at e0; cases e0
  rw [if_neg q4, if_neg h7] at e0 ⊢
  by_cases q6 : stI (p.at ws 4 p.sl) = 6
  · rw [if_pos q6] at e0 ⊢
    exact eB _ h e0
  · rw [if_neg q6] at e0 ⊢
    rw [eB _ (retire_good hp h 6) e0, (re h 6).1, (re h 6).2]
end
end Go.Proofs.YtfccbghmagohaaaGreat.Bound
end

section
namespace Go.Proofs.YtfccbghmagohaaaGreat.Bound
open Go.Proofs.YtfccbghmagohaaaGreat.Ev Go.Proofs.YtfccbghmagohaaaGreat.ChartMath
set_option linter.unusedVariables false
set_option linter.unusedSimpArgs false
def pt_any (w sd : Int) : PT Value := .b (decide (sd < 0)) (.cs 3 (.leaf (.bool false))) (.cs 1 (.b (decide (sd > 1)) (.leaf (.bool false)) (.b (decide (0 ≤ IntKind.i64.wrap (12 * sd) ∧ IntKind.i64.wrap (12 * sd) ≤ 40)) (.b (decide (pw (IntKind.i64.wrap (12 * sd)) = 0)) .bad (.cs 2 (.b (decide (IntKind.i64.wrap ((IntKind.u64.wrap (w.tdiv (pw (IntKind.i64.wrap (12 * sd))))).tmod (pw 12)) > 0)) (.cs 4 (.leaf (.bool true))) (.cs 3 (.b (isW w && decide (0 ≤ IntKind.i64.wrap (24 + sd) ∧ IntKind.i64.wrap (24 + sd) ≤ 40)) (.leaf (.bool (bif false then true else bitI w (IntKind.i64.wrap (24 + sd))))) .bad))))) .bad)))
theorem ct_any (w sd : Int) : cutP (pt_any w sd) (valT (ev sumsF3 60 27 [.int .u64 w, .int .i64 sd] ⟨.nil, 0⟩)) = den (pt_any w sd) := by kernel_rfl
def anyS : List Value → Option (Bool × Value)
  | [.int .u64 w, .int .i64 sd] => some (isW w && decide (0 ≤ sd ∧ sd ≤ 1), .bool (anyI w sd))
  | _ => none
theorem any_is {w sd : Int} (h0 : 0 ≤ w) (h1 : w < 18446744073709551616) (hd : sd = 0 ∨ sd = 1) : outV (ev sumsF3 60 27 [.int .u64 w, .int .i64 sd] ⟨.nil, 0⟩) = some (.bool (anyI w sd)) := by
  refine valT_out (cut_get (ct_any w sd) ?_)
  have hw : isW w = true := isW_iff.2 ⟨h0, h1⟩
  have p12 : pw 12 = 4096 := rfl
  have e : ∀ s : Int, (s = 0 ∨ s = 12) → IntKind.i64.wrap ((IntKind.u64.wrap (w.tdiv (pw s))).tmod 4096) = w / pw s % 4096 := by
    intro s hs
    have hp := pw_pos s
    obtain ⟨a, b, _, _⟩ := div_facts h0 hp
    rw [Int.tdiv_eq_ediv_of_nonneg h0, wrap_id a (by omega), Int.tmod_eq_emod_of_nonneg a, IntKind.wrap_i64]
    omega
  rcases hd with rfl | rfl
  · have w1 : IntKind.i64.wrap (12 * 0) = 0 := rfl
    have w2 : IntKind.i64.wrap (24 + 0) = 24 := rfl
    have pn : pw 0 = 1 := rfl
    simp only [pt_any, den, Tree.get_br, Tree.get_leaf, w1, w2, p12, e 0 (.inl rfl), hw, cond_false]
    unfold anyI
    rw [show (12 : Int) * 0 = 0 by rfl, show (24 : Int) + 0 = 24 by rfl]
    rw [pn, Int.ediv_one]
    by_cases hc : 0 < w % 4096
    · simp [hc]
    · simp [hc]
  · have w1 : IntKind.i64.wrap (12 * 1) = 12 := rfl
    have w2 : IntKind.i64.wrap (24 + 1) = 25 := rfl
    have e12 := e 12 (.inr rfl)
    rw [p12] at e12
    simp only [pt_any, den, Tree.get_br, Tree.get_leaf, w1, w2, p12, e12, hw, cond_false]
    unfold anyI
    rw [show (12 : Int) * 1 = 12 by rfl, show (24 : Int) + 1 = 25 by rfl, p12]
    by_cases hc : 0 < w / 4096 % 4096
    · simp [hc]
    · simp [hc]
theorem anyS_ok {sums : Sums} (hs : SumsOk sums) : SumsOk (withIf sums 27 anyS) := withIf_ok hs sumsF3_ok 60 (by kernel_rfl) fun al v h => by
  unfold anyS at h
  split at h
  · simp only [Option.some.injEq, Prod.mk.injEq, Bool.and_eq_true, decide_eq_true_eq, isW_iff] at h
    obtain ⟨⟨⟨h0, h1⟩, h2, h3⟩, rfl⟩ := h
    exact ⟨rfl, rfl, any_is h0 h1 (by omega)⟩
  · cases h
noncomputable def sumsK0 : Sums := withPure (withEnds (withAt (withIf sumsF3 27 anyS))) 11 aliveS
theorem sumsK0_ok : SumsOk sumsK0 := aliveS_ok (withEnds_ok (withAt_ok (anyS_ok sumsF3_ok)))
def knB : List (Nat × TypeId × CPat) := [(0, winT, .ints .u64), (1, winT, .recs pokeR)]
def knL : LForm := ⟨[1, 3, 11, 14, 15, 84, 85], ⟨[(1, .slice 0 0 none), (3, .ptr 2 0 none), (11, i6), (14, .bool), (15, .slice 3 0 none), (84, i6), (85, i6)], 119, knB ++ [(2, 24, cfB1), (3, 22, .ints .u64)], 4, []⟩, [], [(0, ⟨[], 119, knB, 2, []⟩)], []⟩
section
variable (T S K G Q sl bound k : Int) (l c l1 c1 : Nat) (com : Bool) (ws vs : List Int) (rs : List (List Int))
def knA (k : Int) : List Atom := [.n l, .n c, .i sl, .b com, .n l1, .n c1, .i bound, .i k, .ws ws, .rs rs, .i T, .i S, .i K, .i G, .i Q, .ws vs]
def knTail (w v sd : Int) (P : PT (Ex × List Atom)) : PT (Ex × List Atom) := .b (k != sl) (.cs 2 (.b (isW v && decide (0 ≤ sd ∧ sd ≤ 1)) (.cs 3 (.b (isW w && decide (0 ≤ sd ∧ sd ≤ 1)) (.cs 1 (.b (bif true then !(anyI v sd == anyI w sd) else false) .bad (.cs 1 P))) .bad)) .bad)) (.cs 9 P)
def knOne (sd : Int) (P : PT (Ex × List Atom)) : PT (Ex × List Atom) := .b (rowL T S K G Q l ws && decide (0 ≤ cellOf T S K 4 k)) (.b (rowL T S K G Q l1 vs && decide (0 ≤ cellOf T S K 4 k)) (.b (!com) (.b (isW (lat T S K ws 4 k) && decide (0 ≤ sl ∧ sl ≤ 11)) (knTail sl k (dropW (lat T S K ws 4 k) sl false) (lat T S K vs 4 k) sd P) .bad) (knTail sl k (lat T S K ws 4 k) (lat T S K vs 4 k) sd P)) .bad) .bad
def pt_kn : PT (Ex × List Atom) := .b (decide (k < bound)) (.cs 1 (knOne T S K G Q sl k l l1 com ws vs 0 (knOne T S K G Q sl k l l1 com ws vs 1 (.leaf (.normal, knA T S K G Q sl bound l c l1 c1 com ws vs rs (IntKind.i64.wrap (k + 1))))))) (.leaf (.exit 0, [.ws ws, .rs rs]))
end
theorem ct_kn (T S K G Q sl bound k : Int) (l c l1 c1 : Nat) (com : Bool) (ws vs : List Int) (rs : List (List Int)) : cutP (pt_kn T S K G Q sl bound k l c l1 c1 com ws vs rs) (round sumsK0 60 5 12 2 knL (knA T S K G Q sl bound l c l1 c1 com ws vs rs k)) = den (pt_kn T S K G Q sl bound k l c l1 c1 com ws vs rs) := by kernel_rfl
/-- What is known is known still. -/
def knOk (T S K sl : Int) (com : Bool) (ws vs : List Int) (k : Int) : Bool := decide (k = sl) || (anyI (lat T S K vs 4 k) 0 == anyI (if com = true then lat T S K ws 4 k else dropW (lat T S K ws 4 k) sl false) 0 && anyI (lat T S K vs 4 k) 1 == anyI (if com = true then lat T S K ws 4 k else dropW (lat T S K ws 4 k) sl false) 1)
def knF (T S K sl : Int) (com : Bool) (ws vs : List Int) : Nat → Int → Bool
  | 0, _ => true
  | n + 1, k => knOk T S K sl com ws vs k && knF T S K sl com ws vs n (k + 1)
def kn_t : List Atom → Tree (Ex × List Atom)
  | [.n l, .n c, .i sl, .b com, .n l1, .n c1, .i bound, .i k, .ws ws, .rs rs, .i T, .i S, .i K, .i G, .i Q, .ws vs] => .br (goodB T S K G Q l ws && goodB T S K G Q l1 vs && decide (0 ≤ sl ∧ sl ≤ 11 ∧ 0 ≤ k ∧ bound = S) && knF T S K sl com ws vs (S - k).toNat k) (.leaf (.exit 0, [.ws ws, .rs rs])) .bad
  | _ => .bad
theorem get_one {T S K G Q sl k sd : Int} {l l1 : Nat} {com : Bool} {ws vs : List Int} {P : PT (Ex × List Atom)} (hg : Good T S K G Q l ws) (hv : Good T S K G Q l1 vs) (hs : 0 ≤ sl ∧ sl ≤ 11) (k0 : 0 ≤ k) (k1 : k < S) (hd : sd = 0 ∨ sd = 1)
    (ha : k = sl ∨ anyI (lat T S K vs 4 k) sd = anyI (if com = true then lat T S K ws 4 k else dropW (lat T S K ws 4 k) sl false) sd) : (den (knOne T S K G Q sl k l l1 com ws vs sd P)).get = (den P).get := by
  have hc := hg.cfg
  have c4 : 0 ≤ cellOf T S K 4 k := by rw [cell_st (by omega) (by omega) k0 k1]; omega
  have r0 : rowL T S K G Q l ws = true := rowL_iff.2 ⟨hg.right, hg.len, hg.ll⟩
  have r1 : rowL T S K G Q l1 vs = true := rowL_iff.2 ⟨hv.right, hv.len, hv.ll⟩
  have hd2 : 0 ≤ sd ∧ sd ≤ 1 := by omega
  have hw2 := dropW_word false (hg.lat 4 k) hs
  have hi : isW (dropW (lat T S K ws 4 k) sl false) = true := isW_iff.2 hw2
  have tail : ∀ w, isW w = true → (k = sl ∨ anyI (lat T S K vs 4 k) sd = anyI w sd) → (den (knTail sl k w (lat T S K vs 4 k) sd P)).get = (den P).get := by
    intro w hw he
    unfold knTail
    simp only [den, Tree.get_br, hv.isW, hw, decide_eq_true hd2, Bool.and_self, if_true, cond_true]
    by_cases e : k = sl
    · rw [if_neg (by simp [e])]
    · rcases he with he | he
      · exact absurd he e
      · rw [if_pos (by simp [e]), he]
        simp
  unfold knOne
  simp only [den, Tree.get_br, r0, r1, hg.isW, decide_eq_true c4, decide_eq_true hs, Bool.and_self, if_true]
  cases com with
  | true => exact tail _ (hg.isW _ _) (by simpa using ha)
  | false => exact tail _ hi (by simpa using ha)
theorem kn_iter {T S K G Q sl : Int} {l c l1 c1 : Nat} {com : Bool} {ws vs : List Int} {rs : List (List Int)} (hg : Good T S K G Q l ws) (hv : Good T S K G Q l1 vs) (hs : 0 ≤ sl ∧ sl ≤ 11) : ∀ (n : Nat) (k : Int), (S - k).toNat = n → 0 ≤ k → knF T S K sl com ws vs n k = true →
    ∃ j, iterR (round sumsK0 60 5 12 2 knL) j (knA T S K G Q sl S l c l1 c1 com ws vs rs k) = some (.exit 0, [.ws ws, .rs rs])
  | 0, k, hn, h0, hk => by
    refine ⟨1, ?_⟩
    have e : (round sumsK0 60 5 12 2 knL (knA T S K G Q sl S l c l1 c1 com ws vs rs k)).get = some (.exit 0, [.ws ws, .rs rs]) := cut_get (ct_kn ..) (by
      simp only [pt_kn, den, Tree.get_br, Tree.get_leaf, decide_eq_false (show ¬ k < S by omega), Bool.false_eq_true, if_false])
    simp only [iterR, e]
  | n + 1, k, hn, h0, hk => by
    have hc := hg.cfg
    simp only [knF, Bool.and_eq_true] at hk
    have w1 := wr_s (a := k) (by omega) (by omega)
    obtain ⟨j, hj⟩ := kn_iter (c := c) (c1 := c1) (rs := rs) hg hv hs n (k + 1) (by omega) (by omega) hk.2
    refine ⟨j + 1, ?_⟩
    have ho := hk.1
    unfold knOk at ho
    simp only [Bool.or_eq_true, Bool.and_eq_true, decide_eq_true_eq, beq_iff_eq] at ho
    have e : (round sumsK0 60 5 12 2 knL (knA T S K G Q sl S l c l1 c1 com ws vs rs k)).get = some (.normal, knA T S K G Q sl S l c l1 c1 com ws vs rs (k + 1)) := cut_get (ct_kn ..) (by
      unfold pt_kn
      simp only [den, Tree.get_br]
      rw [if_pos (decide_eq_true (show k < S by omega)), get_one hg hv hs h0 (by omega) (.inl rfl) (ho.imp id fun x => x.1), get_one hg hv hs h0 (by omega) (.inr rfl) (ho.imp id fun x => x.2), w1]
      rfl)
    simp only [iterR, e]
    exact hj
theorem kn_step (x : List Atom) (res : Ex × List Atom) (h : (kn_t x).get = some res) : ∃ n, iterR (round sumsK0 60 5 12 2 knL) n x = some res := by
  unfold kn_t at h
  split at h
  · rename_i l c sl com l1 c1 bound k ws rs T S K G Q vs
    obtain ⟨hg, h2⟩ := get_br h
    simp only [Bool.and_eq_true, decide_eq_true_eq] at hg
    obtain ⟨⟨⟨g0, g1⟩, s0, s1, k0, hb⟩, hf⟩ := hg
    subst hb
    obtain ⟨j, hj⟩ := kn_iter (c := c) (c1 := c1) (rs := rs) (goodB_iff.1 g0) (goodB_iff.1 g1) ⟨s0, s1⟩ _ k rfl k0 hf
    exact ⟨j, hj.trans h2⟩
  · cases h
theorem bodyKn_is : bodyOf 5 = some ((bodyOf 5).getD .skip) := by kernel_rfl
theorem keysKn_is : keysOk (loopsIn ((bodyOf 5).getD .skip)) = true := by kernel_rfl
noncomputable def sumsK1 : Sums := withLoop sumsK0 5 12 (tlsum 2 knL kn_t)
theorem sumsK1_ok : SumsOk sumsK1 := loop_tsum (fuel := 60) sumsK0_ok bodyKn_is keysKn_is (by show (2 : Nat) ≤ 4; omega) kn_step
end Go.Proofs.YtfccbghmagohaaaGreat.Bound
end

section
namespace Go.Proofs.YtfccbghmagohaaaGreat.Bound
open Go.Proofs.YtfccbghmagohaaaGreat.Ev Go.Proofs.YtfccbghmagohaaaGreat.ChartMath
set_option linter.unusedVariables false
set_option linter.unusedSimpArgs false
section
variable (T S K G Q : Int) (l cl : Nat) (cells : List Int) (pt ph : Int)
noncomputable def pt_kw (sl : Int) (R : Option ER) : PT Value := qOf T S K G Q l cl cells
  (.b (isW ph) (.b (!okT ph S) (.b (isW ph) (.cs 4 (.b (!okT ph S) (.cs 8 qTrue) .bad)) .bad)
    (.cs 4 (.b (isW ph) (.b (isW ph) (.cs 4 (.b (!okT ph S) .bad (.cs 3 (.b (rowL T S K G Q l cells && decide (0 ≤ cellOf T S K 4 sl)) (.cs 1 (.b (isW (lat T S K cells 4 sl)) (.cs 1 (.b (stI (lat T S K cells 4 sl) == 7) (.cs 1 qTrue)
      (.b (rowL T S K G Q l cells && decide (0 ≤ cellOf T S K 6 sl)) (.cs 1 (.b R.isSome (.b ((R.getD dfR).e != 0) (.cs 2 qTrue) (qCells T S K G Q l (R.getD dfR).s
        (.b (goodB T S K G Q l cells && goodB T S K G Q l (R.getD dfR).s.ws && decide (0 ≤ sl ∧ sl ≤ 11 ∧ 0 ≤ (0 : Int) ∧ S = S) && knF T S K sl (lat T S K cells 6 sl != 0) cells (R.getD dfR).s.ws (S - 0).toNat 0) qTrue .bad))) .bad)) .bad))) .bad)) .bad)))) .bad) .bad))) .bad)
  (.b (isW ph) (.b (!okT ph S) (.b (isW ph) (.cs 15 qTrue) .bad) (.cs 4 (.b (isW ph) (.b (isW ph) (.cs 15 qTrue) .bad) .bad))) .bad)
end
theorem ct_kw0 (T S K G Q : Int) (l : Nat) (cells : List Int) (pt ph steps : Int) (cl : Nat) : cutP (pt_kw T S K G Q l cl cells ph (if okT ph S = true then slI ph else 0) (runQ T S K G Q pt ph l (zeroS cells))) (valT (ev sumsK1 60 5 [.agg #[.int .i64 T, .int .i64 S, .int .i64 K, .int .i64 G, .int .u64 Q], .slice (some ⟨0, 0, none⟩) l cl, .agg #[.int .i64 pt, .int .u64 ph, .int .i64 steps, .slice none 0 0]] (winsH [⟨0, 0, 0, .ints .u64 cells⟩, ⟨1, 0, 0, .recs pokeR []⟩]))) = den (pt_kw T S K G Q l cl cells ph (if okT ph S = true then slI ph else 0) (runQ T S K G Q pt ph l (zeroS cells))) := by kernel_rfl
theorem ct_kw1 (T S K G Q : Int) (l : Nat) (cells : List Int) (rs : List (List Int)) (pt ph steps : Int) (n cc cl : Nat) : cutP (pt_kw T S K G Q l cl cells ph (if okT ph S = true then slI ph else 0) (runQ T S K G Q pt ph l (zeroS cells))) (valT (ev sumsK1 60 5 [.agg #[.int .i64 T, .int .i64 S, .int .i64 K, .int .i64 G, .int .u64 Q], .slice (some ⟨0, 0, none⟩) l cl, .agg #[.int .i64 pt, .int .u64 ph, .int .i64 steps, .slice (some ⟨1, 0, some 16384⟩) n cc]] (winsH [⟨0, 0, 0, .ints .u64 cells⟩, ⟨1, 0, 0, .recs pokeR rs⟩]))) = den (pt_kw T S K G Q l cl cells ph (if okT ph S = true then slI ph else 0) (runQ T S K G Q pt ph l (zeroS cells))) := by kernel_rfl
theorem knF_all {T S K sl : Int} {com : Bool} {ws vs : List Int} : ∀ (n : Nat) (k : Int), (∀ j, k ≤ j → j < k + n → knOk T S K sl com ws vs j = true) → knF T S K sl com ws vs n k = true
  | 0, k, h => rfl
  | n + 1, k, h => by
    simp only [knF, Bool.and_eq_true]
    exact ⟨h k (by omega) (by omega), knF_all n (k + 1) fun j h0 h1 => h j (by omega) (by omega)⟩
theorem kw_get (T S K G Q : Int) (l cl : Nat) (cells : List Int) (pt ph : Int) (hl : cells.length = l) (hw : ∀ w ∈ cells, 0 ≤ w ∧ w < 18446744073709551616) (hph : 0 ≤ ph ∧ ph < 18446744073709551616) : (den (pt_kw T S K G Q l cl cells ph (if okT ph S = true then slI ph else 0) (runQ T S K G Q pt ph l (zeroS cells)))).get = some (.bool true) := by
  have hW : isW ph = true := isW_iff.2 hph
  have hI : cdec (of_I ([.i T] ++ ([.i S] ++ ([.i K] ++ ([.i G] ++ ([.i Q] ++ [])))) ++ ([.n l, .n cl] ++ []) ++ ([.ws cells] ++ []))) = true := cdec_true hl
  unfold pt_kw qOf
  simp only [den, Tree.get_br, hI, hW, if_true, Bool.and_true]
  cases hr : isRow T S K G Q l with
  | false => cases okT ph S <;> rfl
  | true =>
    simp only [isRow, Bool.and_eq_true, decide_eq_true_eq] at hr
    have hg : Good T S K G Q l (zeroS cells).ws := ⟨hr.1, hl, hr.2, hw⟩
    have hg0 : Good T S K G Q l cells := hg
    simp only [if_true]
    cases hk : okT ph S with
    | false => rfl
    | true =>
      have hp := pmOf_ok (T := T) (K := K) (G := G) (Q := Q) (own := pt) (l := l) hW hk
      have hc := hg.cfg
      have s0 : 0 ≤ slI ph := hp.s0
      have s1 : slI ph < S := hp.s1
      have s2 : slI ph ≤ 11 := hp.s2
      have c4 : 0 ≤ cellOf T S K 4 (slI ph) := by rw [cell_st (by omega) (by omega) s0 s1]; omega
      have c6 : 0 ≤ cellOf T S K 6 (slI ph) := by rw [cell_st (by omega) (by omega) s0 s1]; omega
      have r0 : rowL T S K G Q l cells = true := rowL_iff.2 ⟨hg0.right, hg0.len, hg0.ll⟩
      obtain ⟨R, a1, a2, a3⟩ := runQ_is (pt := pt) hg hW hk
      have a2 : R.e = (sweptI (pmOf T S K G Q pt ph l) cells).1 := a2
      have a3 : R.s.ws = (sweptI (pmOf T S K G Q pt ph l) cells).2 := a3
      have hg1 : Good T S K G Q l R.s.ws := by rw [a3]; exact swept_good hp hg
      rw [a1]
      simp only [Bool.not_true, Bool.false_eq_true, if_false, if_true, r0, hg0.isW, decide_eq_true c4, decide_eq_true c6, Bool.and_self, Option.isSome_some, Option.getD_some, beq_iff_eq, bne_iff_ne]
      by_cases h7 : stI (lat T S K cells 4 (slI ph)) = 7
      · rw [if_pos h7]; rfl
      rw [if_neg h7]
      by_cases h0 : R.e = 0
      · rw [if_neg (fun x => x h0), get_cells hg1]
        simp only [den, Tree.get_br]
        refine if_pos ?_
        have hkn : knF T S K (slI ph) (lat T S K cells 6 (slI ph) != 0) cells R.s.ws (S - 0).toNat 0 = true := by
          refine knF_all _ _ fun j j0 j1 => ?_
          unfold knOk
          by_cases e : j = slI ph
          · rw [decide_eq_true e, Bool.true_or]
          · have so : lat T S K R.s.ws 4 j = dropW (lat T S K cells 4 j) (slI ph) (lat T S K cells 6 (slI ph) != 0) := by
              rw [a3]
              exact swept_other hp hg0 (by rw [← a2]; exact h0) h7 j0 (show j < S by omega) e
            rw [so]
            cases hcom : (lat T S K cells 6 (slI ph) != 0) with
            | false => simp
            | true =>
              simp only [if_true]
              rw [any_drop (hg0.lat 4 j) ⟨s0, s2⟩ (.inl rfl), any_drop (hg0.lat 4 j) ⟨s0, s2⟩ (.inr rfl)]
              simp
        rw [goodB_iff.2 hg0, goodB_iff.2 hg1, hkn]
        simp
        exact ⟨s0, s2⟩
      · rw [if_pos h0]; rfl
def qzk (S ph : Int) : PT Value := .b (isW ph) (.b (!okT ph S) (.b (isW ph) (.cs 15 qTrue) .bad) (.cs 4 (.b (isW ph) (.b (isW ph) (.cs 15 qTrue) .bad) .bad))) .bad
def pt_lzk (T S K G Q ph : Int) : PT Value := .b (!right T S K G Q) (.cs 6 (qzk S ph)) (.cs 4 (.b (((0 : Nat) : Int) != lenA T S K G Q) (qzk S ph) .bad))
noncomputable def sumsZK : Sums := withIf sumsZ 22 ofTS
theorem sumsZK_ok : SumsOk sumsZK := ofTS_ok sumsZ_ok (by kernel_rfl) fun h s a b => ro_is a b
theorem ct_lzk0 (T S K G Q pt ph steps : Int) : cutP (pt_lzk T S K G Q ph) (valT (ev sumsZK 60 5 [.agg #[.int .i64 T, .int .i64 S, .int .i64 K, .int .i64 G, .int .u64 Q], .slice none 0 0, .agg #[.int .i64 pt, .int .u64 ph, .int .i64 steps, .slice none 0 0]] ⟨.nil, 0⟩)) = den (pt_lzk T S K G Q ph) := by kernel_rfl
theorem ct_lzk1 (T S K G Q pt ph steps : Int) (n cc : Nat) : cutP (pt_lzk T S K G Q ph) (valT (ev sumsZK 60 5 [.agg #[.int .i64 T, .int .i64 S, .int .i64 K, .int .i64 G, .int .u64 Q], .slice none 0 0, .agg #[.int .i64 pt, .int .u64 ph, .int .i64 steps, .slice (some ⟨0, 0, some 16384⟩) n cc]] (winsH [⟨0, 0, 0, .recs pokeR []⟩]))) = den (pt_lzk T S K G Q ph) := by kernel_rfl
theorem lzk_get (T S K G Q ph : Int) (hph : 0 ≤ ph ∧ ph < 18446744073709551616) : (den (pt_lzk T S K G Q ph)).get = some (.bool true) := by
  have hW : isW ph = true := isW_iff.2 hph
  have hq : (den (qzk S ph)).get = some (.bool true) := by
    unfold qzk
    simp only [den, Tree.get_br, hW, if_true]
    cases okT ph S <;> rfl
  unfold pt_lzk
  simp only [den, Tree.get_br, hq]
  cases hR : right T S K G Q with
  | false => rfl
  | true =>
    have hR2 := hR
    simp only [right, decide_eq_true_eq] at hR2
    have : (((0 : Nat) : Int) != lenA T S K G Q) = true := by
      rw [bne_iff_ne]
      simp only [lenA, hR, cond_true, lenOf]
      omega
    simp only [Bool.not_true, Bool.false_eq_true, if_false, this, if_true]
end Go.Proofs.YtfccbghmagohaaaGreat.Bound
end
