/- The word of a state, and a generation: the program's and the document's tell the same. No condition. -/
import Derived.Test.YtifojacfedjedaaGreatWordUQ
namespace Go.Proofs.YtifojacfedjedaaGreat.Bound
open Go.Proofs.YtifojacfedjedaaGreat.Ev
set_option linter.unusedVariables false
set_option linter.unusedSimpArgs false
def packW (s g : Int) : Int := IntKind.u64.wrap (↑(BitVec.ofInt IntKind.u64.bits (IntKind.u64.wrap (↑(BitVec.ofInt IntKind.u64.bits (IntKind.u64.wrap (↑(BitVec.ofInt IntKind.u64.bits (IntKind.u64.wrap (↑(BitVec.ofInt IntKind.u64.bits (IntKind.u64.wrap (↑(BitVec.ofInt IntKind.u64.bits (IntKind.u64.wrap (↑(BitVec.ofInt IntKind.u64.bits (IntKind.u64.wrap (0 : Int)) ||| BitVec.ofInt IntKind.u64.bits (IntKind.u64.wrap (IntKind.u64.wrap (0 : Int) * (2 : Int) ^ min (Int.toNat (12 : Int)) IntKind.u64.bits))).toNat : Int)) ||| BitVec.ofInt IntKind.u64.bits (IntKind.u64.wrap ((0 : Int) * (2 : Int) ^ min (Int.toNat (24 : Int)) IntKind.u64.bits))).toNat : Int)) ||| BitVec.ofInt IntKind.u64.bits (IntKind.u64.wrap ((0 : Int) * (2 : Int) ^ min (Int.toNat (25 : Int)) IntKind.u64.bits))).toNat : Int)) ||| BitVec.ofInt IntKind.u64.bits (IntKind.u64.wrap ((0 : Int) * (2 : Int) ^ min (Int.toNat (26 : Int)) IntKind.u64.bits))).toNat : Int)) ||| BitVec.ofInt IntKind.u64.bits (IntKind.u64.wrap (IntKind.u64.wrap s * (2 : Int) ^ min (Int.toNat (27 : Int)) IntKind.u64.bits))).toNat : Int)) ||| BitVec.ofInt IntKind.u64.bits (IntKind.u64.wrap (IntKind.u64.wrap g * (2 : Int) ^ min (Int.toNat (30 : Int)) IntKind.u64.bits))).toNat : Int)
def newR (s g : Int) : Int := IntKind.u64.wrap (IntKind.u64.wrap (IntKind.u64.wrap (IntKind.u64.wrap (0 : Int) + IntKind.u64.wrap ((4096 : Int) * IntKind.u64.wrap (0 : Int))) + IntKind.u64.wrap (pw (27 : Int) * IntKind.u64.wrap s)) + IntKind.u64.wrap (pw (30 : Int) * IntKind.u64.wrap g))
/-- The word of a state, and a generation. -/
def newI (s g : Int) : Int := s * 134217728 + g * 1073741824
theorem newI_word {s g : Int} (s0 : 0 ≤ s) (s1 : s ≤ 7) (g0 : 0 ≤ g) (g1 : g ≤ 1073741824) : 0 ≤ newI s g ∧ newI s g < 18446744073709551616 := by unfold newI; omega
theorem packW_is {s g : Int} (s0 : 0 ≤ s) (s1 : s ≤ 7) (g0 : 0 ≤ g) (g1 : g ≤ 1073741824) : packW s g = newI s g := by
  have e0 : IntKind.u64.wrap (0 : Int) = 0 := rfl
  have es : IntKind.u64.wrap s = s := wrap_id (by omega) (by omega)
  have eg : IntKind.u64.wrap g = g := wrap_id (by omega) (by omega)
  have p27 : (2 : Int) ^ min (Int.toNat (27 : Int)) IntKind.u64.bits = 134217728 := rfl
  have p30 : (2 : Int) ^ min (Int.toNat (30 : Int)) IntKind.u64.bits = 1073741824 := rfl
  have e1 : IntKind.u64.wrap (s * 134217728) = s * 134217728 := wrap_id (by omega) (by omega)
  have e2 : IntKind.u64.wrap (g * 1073741824) = g * 1073741824 := wrap_id (by omega) (by omega)
  have z : ∀ k : Int, IntKind.u64.wrap (↑(BitVec.ofInt IntKind.u64.bits (0 : Int) ||| BitVec.ofInt IntKind.u64.bits (IntKind.u64.wrap ((0 : Int) * k))).toNat) = 0 := fun k => or_no (by omega) (by omega)
  unfold packW newI
  simp only [e0, es, eg, p27, p30, e1, e2, z]
  rw [p_or (x := 0) (y := s * 134217728) (by omega) (by omega) (by omega) (by omega)]
  have a : ((0 : Int).toNat ||| (s * 134217728).toNat) = (s * 134217728).toNat := by show (0 ||| _) = _; rw [Nat.zero_or]
  rw [a, p_or (x := (((s * 134217728).toNat : Nat) : Int)) (y := g * 1073741824) (by omega) (by omega) (by omega) (by omega), Int.toNat_natCast]
  obtain ⟨x, rfl⟩ := Int.eq_ofNat_of_zero_le s0
  obtain ⟨y, rfl⟩ := Int.eq_ofNat_of_zero_le g0
  have b1 : ((x : Int) * 134217728).toNat = x * 134217728 := by omega
  have b2 : ((y : Int) * 1073741824).toNat = y * 1073741824 := by
    have : (y : Int) * 1073741824 = ((y * 1073741824 : Nat) : Int) := (Int.natCast_mul _ _).symm
    rw [this, Int.toNat_natCast]
  have hx : x * 134217728 < 2 ^ 30 := Nat.lt_of_lt_of_eq (show x * 134217728 < 1073741824 by omega) (by decide)
  have hy : y < 2 ^ 31 := Nat.lt_of_lt_of_eq (show y < 2147483648 by omega) (by decide)
  have b3 := set_field (x * 134217728) y 30 31 (fun j h1 h2 => Nat.testBit_lt_two_pow (Nat.lt_of_lt_of_le hx (Nat.pow_le_pow_right (by decide) h1))) hy
  have p3 : (2 : Nat) ^ 30 = 1073741824 := by decide
  rw [p3] at b3
  rw [b1, b2, b3]
  omega
theorem newR_is {s g : Int} (s0 : 0 ≤ s) (s1 : s ≤ 7) (g0 : 0 ≤ g) (g1 : g ≤ 1073741824) : newR s g = newI s g := by
  have p27 : pw 27 = 134217728 := rfl
  have p30 : pw 30 = 1073741824 := rfl
  have e0 : IntKind.u64.wrap (0 : Int) = 0 := rfl
  have es : IntKind.u64.wrap s = s := wrap_id (by omega) (by omega)
  have eg : IntKind.u64.wrap g = g := wrap_id (by omega) (by omega)
  unfold newR newI
  rw [p27, p30, es, eg, wrap_id (x := 134217728 * s) (by omega) (by omega), wrap_id (x := 1073741824 * g) (by omega) (by omega)]
  simp only [e0, Int.mul_zero, Int.add_zero, Int.zero_add]
  rw [wrap_id (x := 134217728 * s) (by omega) (by omega), wrap_id (by omega) (by omega)]
  omega
theorem put_no {w n : Int} (h : w / pw n % 2 = 0) : putI w n false = w := by unfold putI; rw [h]; simp
theorem pk_way_3 (s g : Int) : walkV (ev sumsF1 60 300 [.agg #[.int .i64 g, .int .i64 s, .bool false, .bool false, .bool false, .int .i64 0, .int .i64 0]] ⟨.nil, 0⟩) [false, false, false, false, false, false, false, false, false, false, false, false, false, false] =
    some ([false, false, false, false, false, false, false, false, false, decide (g > (1073741824 : Int)), false, false, false, bif false then true else !(partP (packW s g) (30 : Nat) (32 : Nat) == g && (partP (packW s g) (27 : Nat) (3 : Nat) == s && ((partP (packW s g) (26 : Nat) (1 : Nat) == (1 : Int)) == false && ((partP (packW s g) (25 : Nat) (1 : Nat) == (1 : Int)) == false && ((partP (packW s g) (24 : Nat) (1 : Nat) == (1 : Int)) == false && (partP (packW s g) (12 : Nat) (12 : Nat) == (0 : Int) && (partP (packW s g) (0 : Nat) (12 : Nat) == (0 : Int) && true)))))))], .tuple #[.int .u64 (packW s g), .bool true]) := by kernel_rfl
theorem nw_way_5 (s g : Int) : walkV (ev sumsF2 60 32 [.int .i64 s, .int .i64 g] ⟨.nil, 0⟩) [false, false, false, false, false, false, false, false, false, false, false, false, false, false, false, false, false, false, false, false, false, false, true, true, true, true, true] =
    some ([false, false, false, false, false, false, false, false, false, false, false, false, bif false then true else decide (s < (0 : Int)), false, false, bif false then true else decide (s > (7 : Int)), false, false, bif false then true else decide (g < (0 : Int)), false, false, bif false then true else decide (g > (1073741824 : Int)), true, true, (isW (newR s g) && decide ((0 : Int) ≤ (24 : Int) ∧ (24 : Int) ≤ (40 : Int))), (isW (putI (newR s g) (24 : Int) false) && decide ((0 : Int) ≤ (25 : Int) ∧ (25 : Int) ≤ (40 : Int))), (isW (putI (putI (newR s g) (24 : Int) false) (25 : Int) false) && decide ((0 : Int) ≤ (26 : Int) ∧ (26 : Int) ≤ (40 : Int)))], .int .u64 (putI (putI (putI (newR s g) (24 : Int) false) (25 : Int) false) (26 : Int) false)) := by kernel_rfl
theorem pack_is {s g : Int} (s0 : 0 ≤ s) (s1 : s ≤ 7) (g0 : 0 ≤ g) (g1 : g ≤ 1073741824) : outV (ev sumsF1 60 300 [.agg #[.int .i64 g, .int .i64 s, .bool false, .bool false, .bool false, .int .i64 0, .int .i64 0]] ⟨.nil, 0⟩) = some (.tuple #[.int .u64 (newI s g), .bool true]) := by
  obtain ⟨w0, w1⟩ := newI_word s0 s1 g0 g1
  have c : decide (g > 1073741824) = false := decide_eq_false (by omega)
  have d : ∀ f m : Nat, m < 63 → partP (newI s g) f m = newI s g / 2 ^ f % 2 ^ m := fun f m h => partP_is w0 w1 h
  have e := packW_is s0 s1 g0 g1
  rw [outV_walk (pk_way_3 s g) (by
    rw [e, d 30 32 (by omega), d 27 3 (by omega), d 26 1 (by omega), d 25 1 (by omega), d 24 1 (by omega), d 12 12 (by omega), d 0 12 (by omega)]
    have f1 : newI s g / 2 ^ 30 % 2 ^ 32 = g := by unfold newI; omega
    have f2 : newI s g / 2 ^ 27 % 2 ^ 3 = s := by unfold newI; omega
    have f3 : newI s g / 2 ^ 26 % 2 ^ 1 = 0 := by unfold newI; omega
    have f4 : newI s g / 2 ^ 25 % 2 ^ 1 = 0 := by unfold newI; omega
    have f5 : newI s g / 2 ^ 24 % 2 ^ 1 = 0 := by unfold newI; omega
    have f6 : newI s g / 2 ^ 12 % 2 ^ 12 = 0 := by unfold newI; omega
    have f7 : newI s g / 2 ^ 0 % 2 ^ 12 = 0 := by unfold newI; omega
    rw [c, f1, f2, f3, f4, f5, f6, f7]
    simp only [beq_self_eq_true, Bool.true_and, cond_false, Bool.and_true, Bool.not_true]
    rfl), e]
theorem new_is {s g : Int} (s0 : 0 ≤ s) (s1 : s ≤ 7) (g0 : 0 ≤ g) (g1 : g ≤ 1073741824) : outV (ev sumsF2 60 32 [.int .i64 s, .int .i64 g] ⟨.nil, 0⟩) = some (.int .u64 (newI s g)) := by
  obtain ⟨w0, w1⟩ := newI_word s0 s1 g0 g1
  have e := newR_is s0 s1 g0 g1
  have q24 : newI s g / pw 24 % 2 = 0 := by have : pw 24 = 16777216 := rfl; rw [this]; unfold newI; omega
  have q25 : newI s g / pw 25 % 2 = 0 := by have : pw 25 = 33554432 := rfl; rw [this]; unfold newI; omega
  have q26 : newI s g / pw 26 % 2 = 0 := by have : pw 26 = 67108864 := rfl; rw [this]; unfold newI; omega
  have hw : isW (newI s g) = true := isW_iff.2 ⟨w0, w1⟩
  have c1 : decide (s < 0) = false := decide_eq_false (by omega)
  have c2 : decide (s > 7) = false := decide_eq_false (by omega)
  have c3 : decide (g < 0) = false := decide_eq_false (by omega)
  have c4 : decide (g > 1073741824) = false := decide_eq_false (by omega)
  rw [outV_walk (nw_way_5 s g) (by
    rw [e, put_no q24, put_no q25, hw, c1, c2, c3, c4]
    rfl), e, put_no q24, put_no q25, put_no q26]
def packS : List Value → Option (Bool × Value)
  | [.agg ⟨[.int .i64 g, .int .i64 s, .bool false, .bool false, .bool false, .int .i64 0, .int .i64 0]⟩] => some (decide (0 ≤ s ∧ s ≤ 7 ∧ 0 ≤ g ∧ g ≤ 1073741824), .tuple #[.int .u64 (newI s g), .bool true])
  | _ => none
def newS : List Value → Option (Bool × Value)
  | [.int .i64 s, .int .i64 g] => some (decide (0 ≤ s ∧ s ≤ 7 ∧ 0 ≤ g ∧ g ≤ 1073741824), .int .u64 (newI s g))
  | _ => none
noncomputable def sumsF3 : Sums := withIf (withIf sumsF2 300 packS) 32 newS
theorem sumsF3_ok : SumsOk sumsF3 := by
  refine withIf_ok (withIf_ok sumsF2_ok sumsF1_ok 60 (by kernel_rfl) fun al v h => ?_) sumsF2_ok 60 (by kernel_rfl) fun al v h => ?_
  · unfold packS at h
    split at h
    · simp only [Option.some.injEq, Prod.mk.injEq, decide_eq_true_eq] at h
      obtain ⟨⟨a, b, c, d⟩, rfl⟩ := h
      exact ⟨rfl, rfl, pack_is a b c d⟩
    · cases h
  · unfold newS at h
    split at h
    · simp only [Option.some.injEq, Prod.mk.injEq, decide_eq_true_eq] at h
      obtain ⟨⟨a, b, c, d⟩, rfl⟩ := h
      exact ⟨rfl, rfl, new_is a b c d⟩
    · cases h
end Go.Proofs.YtifojacfedjedaaGreat.Bound
