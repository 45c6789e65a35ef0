/- The next tally, as a sum. No condition. -/
import Derived.Test.YtifojacfedjedaaGreatTalSQ
namespace Go.Proofs.YtifojacfedjedaaGreat.Bound
open Go.Proofs.YtifojacfedjedaaGreat.Ev Go.Proofs.YtifojacfedjedaaGreat.ChartMath
set_option linter.unusedVariables false
set_option linter.unusedSimpArgs false
def pt_nx (w sl : Int) : PT (Value) := .b (isW w) (.b (!(w / 16 == w / 16 && (w % 16 - 1 == -1 && true))) (.cs 3 (.leaf (.tuple #[.int .u64 0, .bool false]))) (.cs 1 (.b (decide (sl < 0)) (.leaf (.tuple #[.int .u64 0, .bool false])) (.cs 2 (.b (!((if (if 11 < sl then 11 else sl) > -1 then if 11 < sl then 11 else sl else -1) == sl && (IntKind.i64.wrap (if 1099511627775 < IntKind.u64.wrap (w / 16 + 1) then 1099511627775 else IntKind.u64.wrap (w / 16 + 1)) == IntKind.i64.wrap (if 1099511627776 < IntKind.u64.wrap (w / 16 + 1) then 1099511627776 else IntKind.u64.wrap (w / 16 + 1)) && true))) (.leaf (.tuple #[.int .u64 0, .bool false])) (.cs 1 (.leaf (.tuple #[.int .u64 (IntKind.u64.wrap (↑(BitVec.ofInt IntKind.u64.bits (IntKind.u64.wrap (IntKind.u64.wrap (w / 16 + 1) * 2 ^ min (Int.toNat 4) IntKind.u64.bits)) ||| BitVec.ofInt IntKind.u64.bits (IntKind.u64.wrap (IntKind.i64.wrap (sl + 1)))).toNat : Int)), .bool true])))))))) .bad
theorem ct_nx (w sl : Int) : cutP (pt_nx w sl) (valT (ev sumsF4 60 227 [.int .u64 w, .int .i64 sl] ⟨.nil, 0⟩)) = den (pt_nx w sl) := by kernel_rfl
/-- Whether there is one more number. -/
def nextB (w : Int) : Bool := decide (w % 16 = 0 ∧ w / 16 + 1 ≤ 1099511627775)
def nextI (w sl : Int) : Int := (w / 16 + 1) * 16 + (sl + 1)
def nextV (w sl : Int) : Value := .tuple #[.int .u64 (if nextB w = true then nextI w sl else 0), .bool (nextB w)]
theorem next_is {w sl : Int} (h0 : 0 ≤ w) (h1 : w < 18446744073709551616) (s0 : 0 ≤ sl) (s1 : sl ≤ 11) : outV (ev sumsF4 60 227 [.int .u64 w, .int .i64 sl] ⟨.nil, 0⟩) = some (nextV w sl) := by
  refine valT_out (cut_get (ct_nx w sl) ?_)
  have a1 : (if (if 11 < sl then 11 else sl) > -1 then if 11 < sl then 11 else sl else -1) = sl := by
    repeat' split
    all_goals omega
  have u1 : IntKind.u64.wrap (w / 16 + 1) = w / 16 + 1 := wrap_id (by omega) (by omega)
  have e4 : (2 : Int) ^ min (Int.toNat 4) IntKind.u64.bits = 16 := rfl
  have w1 : IntKind.i64.wrap (sl + 1) = sl + 1 := by rw [IntKind.wrap_i64]; omega
  have w2 : IntKind.u64.wrap (sl + 1) = sl + 1 := wrap_id (by omega) (by omega)
  simp only [pt_nx, den, Tree.get_br, Tree.get_leaf, isW_iff.2 ⟨h0, h1⟩, if_true, beq_self_eq_true, Bool.true_and, Bool.and_true, a1, u1, decide_eq_false (show ¬ sl < 0 by omega), Bool.false_eq_true, if_false]
  by_cases m : w % 16 = 0
  · have m1 : (w % 16 - 1 == -1) = true := by rw [m]; rfl
    rw [m1]
    by_cases q : w / 16 + 1 ≤ 1099511627775
    · have b : nextB w = true := decide_eq_true ⟨m, q⟩
      have i1 : (if 1099511627775 < w / 16 + 1 then (1099511627775 : Int) else w / 16 + 1) = w / 16 + 1 := if_neg (by omega)
      have i2 : (if 1099511627776 < w / 16 + 1 then (1099511627776 : Int) else w / 16 + 1) = w / 16 + 1 := if_neg (by omega)
      rw [i1, i2]
      simp only [beq_self_eq_true, Bool.not_true, Bool.false_eq_true, if_false]
      have w3 : IntKind.u64.wrap ((w / 16 + 1) * 16) = (w / 16 + 1) * 16 := wrap_id (by omega) (by omega)
      rw [e4, w1, w2, w3, p_or (by omega) (by omega) (by omega) (by omega)]
      have hor : ((w / 16 + 1) * 16).toNat ||| (sl + 1).toNat = ((w / 16 + 1) * 16).toNat + (sl + 1).toNat := by
        have := lay_in (sl + 1).toNat ((w / 16 + 1).toNat * 2 ^ 4) fun j hj => by
          obtain ⟨x1, x2⟩ := hj
          rw [Nat.testBit_mul_two_pow] at x2
          simp only [Bool.and_eq_true, decide_eq_true_eq] at x2
          have h16 : (sl + 1).toNat < 2 ^ j := Nat.lt_of_lt_of_le (show (sl + 1).toNat < 2 ^ 4 by omega) (Nat.pow_le_pow_right (by omega) x2.1)
          rw [Nat.testBit_lt_two_pow h16] at x1
          cases x1
        rw [show ((w / 16 + 1) * 16).toNat = (w / 16 + 1).toNat * 2 ^ 4 by omega, Nat.or_comm, this, Nat.add_comm]
      rw [hor]
      unfold nextV
      rw [b]
      simp only [if_true, nextI]
      congr 5
      omega
    · have b : nextB w = false := decide_eq_false fun x => q x.2
      have i1 : (if 1099511627775 < w / 16 + 1 then (1099511627775 : Int) else w / 16 + 1) = 1099511627775 := if_pos (by omega)
      have ne : (IntKind.i64.wrap 1099511627775 == IntKind.i64.wrap (if 1099511627776 < w / 16 + 1 then 1099511627776 else w / 16 + 1)) = false := by
        split
        · rfl
        · have : w / 16 + 1 = 1099511627776 := by omega
          rw [this]; rfl
      rw [i1, ne]
      unfold nextV
      rw [b]
      rfl
  · have m1 : (w % 16 - 1 == -1) = false := by
      rw [beq_eq_false_iff_ne]
      omega
    have b : nextB w = false := decide_eq_false fun x => m x.1
    rw [m1]
    unfold nextV
    rw [b]
    rfl
def nextS : List Value → Option (Bool × Value)
  | [.int .u64 w, .int .i64 sl] => some (isW w && decide (0 ≤ sl ∧ sl ≤ 11), nextV w sl)
  | _ => none
noncomputable def sumsF5 : Sums := withIf sumsF4 227 nextS
theorem sumsF5_ok : SumsOk sumsF5 := withIf_ok sumsF4_ok sumsF4_ok 60 (by kernel_rfl) fun al v h => by
  unfold nextS at h
  split at h
  · simp only [Option.some.injEq, Prod.mk.injEq, Bool.and_eq_true, decide_eq_true_eq, isW_iff] at h
    obtain ⟨⟨⟨h0, h1⟩, h2, h3⟩, rfl⟩ := h
    exact ⟨rfl, rfl, next_is h0 h1 h2 h3⟩
  · cases h
end Go.Proofs.YtifojacfedjedaaGreat.Bound
