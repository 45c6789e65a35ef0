/- Tallies, and making a ticket, as sums. No condition. -/
import Derived.Test.YtifojacfedjedaaGreatSwTQ
namespace Go.Proofs.YtifojacfedjedaaGreat.Bound
open Go.Proofs.YtifojacfedjedaaGreat.Ev Go.Proofs.YtifojacfedjedaaGreat.ChartMath
set_option linter.unusedVariables false
set_option linter.unusedSimpArgs false
theorem div16 {h : Int} (h0 : 0 ≤ h) : h.fdiv ((2 : Int) ^ min (Int.toNat 4) IntKind.u64.bits) = h / 16 := by
  have : (2 : Int) ^ min (Int.toNat 4) IntKind.u64.bits = 16 := rfl
  rw [this, Int.fdiv_eq_ediv_of_nonneg _ (by omega)]
def unpS (w : Int) : Value := .agg #[.int .u64 (w / 16), .int .i64 (w % 16 - 1)]
theorem unp_is {w : Int} (h0 : 0 ≤ w) (h1 : w < 18446744073709551616) : outV (ev sumsF3 60 215 [.int .u64 w] ⟨.nil, 0⟩) = some (unpS w) := by
  have e : outV (ev sumsF3 60 215 [.int .u64 w] ⟨.nil, 0⟩) = some (.agg #[.int .u64 (w.fdiv ((2 : Int) ^ min (Int.toNat (4 : Int)) IntKind.u64.bits)), .int .i64 (IntKind.i64.wrap (IntKind.i64.wrap (IntKind.u64.wrap (↑(BitVec.ofInt IntKind.u64.bits w &&& BitVec.ofInt IntKind.u64.bits (15 : Int)).toNat : Int)) - (1 : Int)))]) := by kernel_rfl
  have hm : 0 ≤ w % 16 ∧ w % 16 < 16 := by omega
  rw [e, div16 h0, and15 h0 h1]
  have w1 : IntKind.i64.wrap (w % 16) = w % 16 := by rw [IntKind.wrap_i64]; omega
  have w2 : IntKind.i64.wrap (w % 16 - 1) = w % 16 - 1 := by rw [IntKind.wrap_i64]; omega
  rw [w1, w2]
  rfl
def setI (w : Int) : Int := w / 16 * 16
theorem set_is {w : Int} (h0 : 0 ≤ w) (h1 : w < 18446744073709551616) : outV (ev sumsF3 60 304 [.int .u64 w] ⟨.nil, 0⟩) = some (.int .u64 (setI w)) := by
  have e : outV (ev sumsF3 60 304 [.int .u64 w] ⟨.nil, 0⟩) = some (.int .u64 (IntKind.u64.wrap (w.fdiv ((2 : Int) ^ min (Int.toNat (4 : Int)) IntKind.u64.bits) * (2 : Int) ^ min (Int.toNat (4 : Int)) IntKind.u64.bits))) := by kernel_rfl
  have : (2 : Int) ^ min (Int.toNat 4) IntKind.u64.bits = 16 := rfl
  rw [e, div16 h0, this, wrap_id (by omega) (by omega)]
  rfl
/-- A ticket. -/
def mkI (sl g : Int) : Int := 16 * g + sl + 1
def pt_mk (sl g : Int) : PT Value := .cs 2 (.b (!((if (if 11 < sl then 11 else sl) > 0 then if 11 < sl then 11 else sl else 0) == sl && ((if (if 1073741823 < g then 1073741823 else g) > 0 then if 1073741823 < g then 1073741823 else g else 0) == g && true))) .bad (.cs 3 (.leaf (.tuple #[.int .u64 (IntKind.u64.wrap (↑(BitVec.ofInt IntKind.u64.bits (IntKind.u64.wrap (IntKind.i64.wrap (sl + (1 : Int)))) ||| BitVec.ofInt IntKind.u64.bits (IntKind.u64.wrap (IntKind.u64.wrap g * (2 : Int) ^ min (Int.toNat (4 : Int)) IntKind.u64.bits))).toNat : Int)), .bool true]))))
theorem ct_mk (sl g : Int) : cutP (pt_mk sl g) (valT (ev sumsF3 60 271 [.int .i64 sl, .int .i64 g] ⟨.nil, 0⟩)) = den (pt_mk sl g) := by kernel_rfl
theorem mk_is {sl g : Int} (s0 : 0 ≤ sl) (s1 : sl ≤ 11) (g0 : 0 ≤ g) (g1 : g ≤ 1073741823) : outV (ev sumsF3 60 271 [.int .i64 sl, .int .i64 g] ⟨.nil, 0⟩) = some (.tuple #[.int .u64 (mkI sl g), .bool true]) := by
  refine valT_out (cut_get (ct_mk sl g) ?_)
  have a1 : (if (if 11 < sl then 11 else sl) > 0 then if 11 < sl then 11 else sl else 0) = sl := by repeat' split
                                                                                                    all_goals omega
  have a2 : (if (if 1073741823 < g then 1073741823 else g) > 0 then if 1073741823 < g then 1073741823 else g else 0) = g := by repeat' split
                                                                                                                               all_goals omega
  have e4 : (2 : Int) ^ min (Int.toNat 4) IntKind.u64.bits = 16 := rfl
  have w1 : IntKind.i64.wrap (sl + 1) = sl + 1 := by rw [IntKind.wrap_i64]; omega
  have w2 : IntKind.u64.wrap (sl + 1) = sl + 1 := wrap_id (by omega) (by omega)
  have w3 : IntKind.u64.wrap g = g := wrap_id (by omega) (by omega)
  have w4 : IntKind.u64.wrap (g * 16) = g * 16 := wrap_id (by omega) (by omega)
  simp only [pt_mk, den, Tree.get_br, Tree.get_leaf, a1, a2, beq_self_eq_true, Bool.and_self, Bool.not_true, Bool.false_eq_true, if_false, e4, w1, w2, w3, w4]
  rw [p_or (by omega) (by omega) (by omega) (by omega)]
  have hor : (sl + 1).toNat ||| (g * 16).toNat = (sl + 1).toNat + (g * 16).toNat := by
    have := lay_in (sl + 1).toNat (g.toNat * 2 ^ 4) fun j hj => by
      obtain ⟨x1, x2⟩ := hj
      have := Nat.testBit_lt_two_pow (x := (sl + 1).toNat) (i := j)
      rw [Nat.testBit_mul_two_pow] at x2
      simp only [Bool.and_eq_true, decide_eq_true_eq] at x2
      have h16 : (sl + 1).toNat < 2 ^ j := Nat.lt_of_lt_of_le (show (sl + 1).toNat < 2 ^ 4 by omega) (Nat.pow_le_pow_right (by omega) x2.1)
      rw [Nat.testBit_lt_two_pow h16] at x1
      cases x1
    rw [show (g * 16).toNat = g.toNat * 2 ^ 4 by omega]
    exact this
  rw [hor]
  unfold mkI
  congr 5
  omega
def mkS : List Value → Option (Bool × Value)
  | [.int .i64 sl, .int .i64 g] => some (decide (0 ≤ sl ∧ sl ≤ 11 ∧ 0 ≤ g ∧ g ≤ 1073741823), .tuple #[.int .u64 (mkI sl g), .bool true])
  | _ => none
noncomputable def withTal (sums : Sums) : Sums := withIf (withIf (withIf sums 215 (onW unpS)) 304 (onW fun w => .int .u64 (setI w))) 271 mkS
theorem withTal_ok {sums : Sums} (hs : SumsOk sums) : SumsOk (withTal sums) := by
  refine withIf_ok (withIf_ok (withIf_ok hs sumsF3_ok 60 (by kernel_rfl) fun al v h => ?_) sumsF3_ok 60 (by kernel_rfl) fun al v h => ?_) sumsF3_ok 60 (by kernel_rfl) fun al v h => ?_
  · unfold onW at h
    split at h
    · simp only [Option.some.injEq, Prod.mk.injEq, isW_iff] at h
      obtain ⟨⟨h0, h1⟩, rfl⟩ := h
      exact ⟨rfl, rfl, unp_is h0 h1⟩
    · cases h
  · unfold onW at h
    split at h
    · simp only [Option.some.injEq, Prod.mk.injEq, isW_iff] at h
      obtain ⟨⟨h0, h1⟩, rfl⟩ := h
      exact ⟨rfl, rfl, set_is h0 h1⟩
    · cases h
  · unfold mkS at h
    split at h
    · simp only [Option.some.injEq, Prod.mk.injEq, decide_eq_true_eq] at h
      obtain ⟨⟨h0, h1, h2, h3⟩, rfl⟩ := h
      exact ⟨rfl, rfl, mk_is h0 h1 h2 h3⟩
    · cases h
noncomputable def sumsF4 : Sums := withTal sumsF3
theorem sumsF4_ok : SumsOk sumsF4 := withTal_ok sumsF3_ok
end Go.Proofs.YtifojacfedjedaaGreat.Bound
