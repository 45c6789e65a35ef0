/- Sides of a status word: the program's and the document's tell the same. No condition. -/
import Derived.Test.YtfccbghmagohaaaGreatDropSQ
namespace Go.Proofs.YtfccbghmagohaaaGreat.Bound
open Go.Proofs.YtfccbghmagohaaaGreat.Ev
set_option linter.unusedVariables false
set_option linter.unusedSimpArgs false
theorem of_way (sd sl : Int) : walkV (ev sumsD3 60 182 [.int .i64 sd, .int .i64 sl] ⟨.nil, 0⟩) [false, false, false, false, false, false, false, false] =
    some ([decide (sd < (0 : Int)), false, bif false then true else decide (sd > (1 : Int)), false, bif false then true else decide (sl < (0 : Int)), false, bif false then true else decide (sl ≥ (12 : Int)), decide (IntKind.i64.wrap (IntKind.i64.wrap (sd * (12 : Int)) + sl) < (0 : Int))], .int .u64 (IntKind.u64.wrap ((1 : Int) * (2 : Int) ^ min (IntKind.i64.wrap (IntKind.i64.wrap (sd * (12 : Int)) + sl)).toNat IntKind.u64.bits))) := by kernel_rfl
theorem at_way (sd sl : Int) : walkV (ev sumsD3 60 52 [.int .i64 sd, .int .i64 sl] ⟨.nil, 0⟩) [false, false, false, false, false, false, false] =
    some ([decide (sd < (0 : Int)), false, bif false then true else decide (sd > (1 : Int)), false, bif false then true else decide (sl < (0 : Int)), false, bif false then true else decide (sl > (11 : Int))], .int .i64 (IntKind.i64.wrap (IntKind.i64.wrap ((12 : Int) * sd) + sl))) := by kernel_rfl
theorem shl_pw {n : Int} (h0 : 0 ≤ n) (h1 : n ≤ 40) : IntKind.u64.wrap ((1 : Int) * (2 : Int) ^ min n.toNat IntKind.u64.bits) = pw n := by
  have hl := pw_le h1
  have hp := pw_pos n
  have e : min n.toNat IntKind.u64.bits = n.toNat := by
    have : IntKind.u64.bits = 64 := rfl
    omega
  rw [e, Int.one_mul]
  have e2 : (2 : Int) ^ n.toNat = pw n := by unfold pw; rw [Int.natCast_pow]; rfl
  rw [e2]
  exact wrap_id (by omega) (by omega)
/-- Is there such a side, and such a slot? -/
def sideOk (sd sl : Int) : Bool := decide (0 ≤ sd ∧ sd ≤ 1 ∧ 0 ≤ sl ∧ sl ≤ 11)
def ofS : List Value → Option (Bool × Value)
  | [.int .i64 sd, .int .i64 sl] => some (sideOk sd sl, .int .u64 (pw (12 * sd + sl)))
  | _ => none
def atS : List Value → Option (Bool × Value)
  | [.int .i64 sd, .int .i64 sl] => some (sideOk sd sl, .int .i64 (12 * sd + sl))
  | _ => none
noncomputable def sumsE1 : Sums := withIf (withIf sumsD3 182 ofS) 52 atS
theorem sumsE1_ok : SumsOk sumsE1 := by
  refine withIf_ok (withIf_ok sumsD3_ok sumsD3_ok 60 (by kernel_rfl) fun al v h => ?_) sumsD3_ok 60 (by kernel_rfl) fun al v h => ?_
  · unfold ofS at h
    split at h
    · rename_i sd sl
      simp only [Option.some.injEq, Prod.mk.injEq, sideOk, decide_eq_true_eq] at h
      obtain ⟨⟨a1, a2, a3, a4⟩, rfl⟩ := h
      refine ⟨rfl, rfl, ?_⟩
      have e1 : IntKind.i64.wrap (IntKind.i64.wrap (sd * 12) + sl) = 12 * sd + sl := by rw [IntKind.wrap_i64, IntKind.wrap_i64]; omega
      have c1 : decide (sd < 0) = false := decide_eq_false (by omega)
      have c2 : decide (sd > 1) = false := decide_eq_false (by omega)
      have c3 : decide (sl < 0) = false := decide_eq_false (by omega)
      have c4 : decide (sl ≥ 12) = false := decide_eq_false (by omega)
      have c5 : decide (12 * sd + sl < 0) = false := decide_eq_false (by omega)
      rw [outV_walk (of_way sd sl) (by rw [e1]; simp only [c1, c2, c3, c4, c5, cond_false]), e1, shl_pw (by omega) (by omega)]
    · cases h
  · unfold atS at h
    split at h
    · rename_i sd sl
      simp only [Option.some.injEq, Prod.mk.injEq, sideOk, decide_eq_true_eq] at h
      obtain ⟨⟨a1, a2, a3, a4⟩, rfl⟩ := h
      refine ⟨rfl, rfl, ?_⟩
      have e1 : IntKind.i64.wrap (IntKind.i64.wrap (12 * sd) + sl) = 12 * sd + sl := by rw [IntKind.wrap_i64, IntKind.wrap_i64]; omega
      have c1 : decide (sd < 0) = false := decide_eq_false (by omega)
      have c2 : decide (sd > 1) = false := decide_eq_false (by omega)
      have c3 : decide (sl < 0) = false := decide_eq_false (by omega)
      have c4 : decide (sl > 11) = false := decide_eq_false (by omega)
      rw [outV_walk (at_way sd sl) (by simp only [c1, c2, c3, c4, cond_false]), e1]
    · cases h
theorem phas (w sd sl : Int) : walkV (ev sumsE1 60 181 [.int .u64 w, .int .i64 sd, .int .i64 sl] ⟨.nil, 0⟩) [true] =
    some ([sideOk sd sl], .bool (IntKind.u64.wrap (↑(BitVec.ofInt IntKind.u64.bits w &&& BitVec.ofInt IntKind.u64.bits (pw (12 * sd + sl))).toNat) != 0)) := by kernel_rfl
theorem and_bit {w n : Int} (h0 : 0 ≤ w) (h1 : w < 18446744073709551616) (h2 : n ≤ 40) : (IntKind.u64.wrap (↑(BitVec.ofInt IntKind.u64.bits w &&& BitVec.ofInt IntKind.u64.bits (pw n)).toNat) != 0) = bitI w n := by
  have hl := pw_le h2
  have hp := pw_pos n
  rw [p_and h0 h1 (by omega) (by omega)]
  have e : (pw n).toNat = 2 ^ n.toNat := by unfold pw; rw [Int.toNat_natCast]
  rw [e]
  obtain ⟨v, rfl⟩ := Int.eq_ofNat_of_zero_le h0
  simp only [Int.toNat_natCast]
  have hb : bitI (v : Int) n = v.testBit n.toNat := by
    unfold bitI pw
    rw [Nat.testBit_eq_decide_div_mod_eq]
    have : (v : Int) / ((2 ^ n.toNat : Nat) : Int) % 2 = ((v / 2 ^ n.toNat % 2 : Nat) : Int) := by simp
    rw [this]
    generalize v / 2 ^ n.toNat % 2 = q
    by_cases hq : q = 1
    · subst hq; rfl
    · have : ¬ (q : Int) = 1 := by omega
      simp [hq, this]
  rw [hb]
  cases ht : v.testBit n.toNat with
  | true =>
    rw [bne_iff_ne]
    intro h0
    have : (v &&& 2 ^ n.toNat).testBit n.toNat = true := by rw [Nat.testBit_and, ht, Nat.testBit_two_pow_self]; rfl
    have hz : v &&& 2 ^ n.toNat = 0 := by omega
    rw [hz, Nat.zero_testBit] at this
    cases this
  | false =>
    have hz : v &&& 2 ^ n.toNat = 0 := by
      apply Nat.eq_of_testBit_eq
      intro j
      rw [Nat.testBit_and, Nat.testBit_two_pow, Nat.zero_testBit]
      by_cases hj : n.toNat = j
      · subst hj; rw [ht]; rfl
      · rw [decide_eq_false hj, Bool.and_false]
    rw [hz]; rfl
def hasS : List Value → Option (Bool × Value)
  | [.int .u64 w, .int .i64 sd, .int .i64 sl] => some (isW w && sideOk sd sl, .bool (bitI w (12 * sd + sl)))
  | _ => none
theorem rhas (w sd sl : Int) : walkV (ev sumsE1 60 50 [.int .u64 w, .int .i64 sd, .int .i64 sl] ⟨.nil, 0⟩) [true, true, true, true, true, true, true, true] =
    some ([sideOk sd sl, decide ((12 : Int) * sd + sl ≥ (0 : Int)), true, true, true, sideOk sd sl, true, isW w && decide ((0 : Int) ≤ (12 : Int) * sd + sl ∧ (12 : Int) * sd + sl ≤ (40 : Int))], .bool (bif true then bitI w ((12 : Int) * sd + sl) else false)) := by kernel_rfl
noncomputable def sumsE2 : Sums := withIf (withIf sumsE1 181 hasS) 50 hasS
theorem sumsE2_ok : SumsOk sumsE2 := by
  refine withIf_ok (withIf_ok sumsE1_ok sumsE1_ok 60 (by kernel_rfl) fun al v h => ?_) sumsE1_ok 60 (by kernel_rfl) fun al v h => ?_
  all_goals
    unfold hasS at h
    split at h
    case h_2 => cases h
    rename_i w sd sl
    simp only [Option.some.injEq, Prod.mk.injEq, Bool.and_eq_true, isW_iff] at h
    obtain ⟨⟨⟨h0, h1⟩, hs⟩, rfl⟩ := h
    have hs' := hs
    simp only [sideOk, decide_eq_true_eq] at hs'
    obtain ⟨a1, a2, a3, a4⟩ := hs'
    refine ⟨rfl, rfl, ?_⟩
  · rw [outV_walk (phas w sd sl) (by rw [hs]), and_bit h0 h1 (by omega)]
  · have hw : isW w = true := isW_iff.2 ⟨h0, h1⟩
    have c1 : decide (12 * sd + sl ≥ 0) = true := decide_eq_true (by omega)
    have c2 : decide (0 ≤ 12 * sd + sl ∧ 12 * sd + sl ≤ 40) = true := decide_eq_true (by omega)
    exact outV_walk (rhas w sd sl) (by simp only [hs, c1, c2, hw, Bool.and_self])
end Go.Proofs.YtfccbghmagohaaaGreat.Bound
