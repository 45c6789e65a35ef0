/- The document's bits of words, as sums. No condition. -/
import Derived.Test.YtfccbghmagohaaaGreatPowerQ
namespace Go.Proofs.YtfccbghmagohaaaGreat.Bound
open Go.Proofs.YtfccbghmagohaaaGreat.Ev
set_option linter.unusedVariables false
set_option linter.unusedSimpArgs false
theorem wrap_id {x : Int} (h0 : 0 ≤ x) (h1 : x < 18446744073709551616) : IntKind.u64.wrap x = x := by
  have : IntKind.u64.wrap x = x % 18446744073709551616 := by simp [IntKind.wrap, IntKind.bits, IntKind.signed]
  rw [this]; omega
theorem bit_way (w n : Int) : walkV (ev sumsX 60 53 [.int .u64 w, .int .i64 n] ⟨.nil, 0⟩) [true, false, false] =
    some ([(decide (0 ≤ n ∧ n ≤ 40), Value.int IntKind.u64 (pw n)).fst, decide (pw n = 0), false], .bool ((IntKind.u64.wrap (w.tdiv (pw n))).tmod 2 == 1)) := by kernel_rfl
theorem bit_eq {w n : Int} (h0 : 0 ≤ w) (h1 : w < 18446744073709551616) : ((IntKind.u64.wrap (w.tdiv (pw n))).tmod 2 == 1) = bitI w n := by
  have hp := pw_pos n
  obtain ⟨a, b, _, _⟩ := div_facts h0 hp
  rw [Int.tdiv_eq_ediv_of_nonneg h0, wrap_id a (by omega), Int.tmod_eq_emod_of_nonneg a]
  rfl
theorem bit_is {w n : Int} (h0 : 0 ≤ w) (h1 : w < 18446744073709551616) (h2 : 0 ≤ n) (h3 : n ≤ 40) : outV (ev sumsX 60 53 [.int .u64 w, .int .i64 n] ⟨.nil, 0⟩) = some (.bool (bitI w n)) := by
  have hp := pw_pos n
  have hne : ¬ pw n = 0 := by omega
  have := outV_walk (bit_way w n) (by rw [decide_eq_true ⟨h2, h3⟩, decide_eq_false hne])
  rw [this, bit_eq h0 h1]
def bitS : List Value → Option (Bool × Value)
  | [.int .u64 w, .int .i64 n] => some (isW w && decide (0 ≤ n ∧ n ≤ 40), .bool (bitI w n))
  | _ => none
theorem isW_iff {w : Int} : isW w = true ↔ 0 ≤ w ∧ w < 18446744073709551616 := by simp [isW]
noncomputable def sumsB1 : Sums := withIf sumsX 53 bitS
theorem sumsB1_ok : SumsOk sumsB1 := withIf_ok sumsX_ok sumsX_ok 60 (by kernel_rfl) fun al v h => by
  unfold bitS at h
  split at h
  · simp only [Option.some.injEq, Prod.mk.injEq, Bool.and_eq_true, decide_eq_true_eq, isW_iff] at h
    obtain ⟨⟨⟨h0, h1⟩, h2, h3⟩, rfl⟩ := h
    exact ⟨rfl, rfl, bit_is h0 h1 h2 h3⟩
  · cases h
theorem put_way_1 (w n : Int) (b : Bool) : walkV (ev sumsB1 60 51 [.int .u64 w, .int .i64 n, .bool b] ⟨.nil, 0⟩) [true, true] = some ([(isW w && decide (0 ≤ n ∧ n ≤ 40), Value.bool (bitI w n)).fst, bitI w n == b], .int .u64 w) := by kernel_rfl
theorem put_way_2 (w n : Int) (b : Bool) : walkV (ev sumsB1 60 51 [.int .u64 w, .int .i64 n, .bool b] ⟨.nil, 0⟩) [true, false, true, true] = some ([(isW w && decide (0 ≤ n ∧ n ≤ 40), Value.bool (bitI w n)).fst, bitI w n == b, b, (decide (0 ≤ n ∧ n ≤ 40), Value.int IntKind.u64 (pw n)).fst], .int .u64 (IntKind.u64.wrap (w + pw n))) := by kernel_rfl
theorem put_way_3 (w n : Int) (b : Bool) : walkV (ev sumsB1 60 51 [.int .u64 w, .int .i64 n, .bool b] ⟨.nil, 0⟩) [true, false, false, true] = some ([(isW w && decide (0 ≤ n ∧ n ≤ 40), Value.bool (bitI w n)).fst, bitI w n == b, b, (decide (0 ≤ n ∧ n ≤ 40), Value.int IntKind.u64 (pw n)).fst], .int .u64 (IntKind.u64.wrap (w - pw n))) := by kernel_rfl
/-- A word with a bit laid is a word. -/
theorem put_range {w n : Int} (h0 : 0 ≤ w) (h1 : w < 18446744073709551616) (h2 : 0 ≤ n) (h3 : n ≤ 40) (hb : bitI w n = false) : w + pw n < 18446744073709551616 := by
  -- the bit is not there: what is below it, it, and what is above
  have hp := pw_pos n
  unfold bitI at hb
  rw [beq_eq_false_iff_ne] at hb
  have e : ∃ q : Int, 18446744073709551616 = 2 * pw n * q := by
    refine ⟨((2 ^ (63 - n.toNat) : Nat) : Int), ?_⟩
    have : (2 : Nat) ^ 64 = 2 * 2 ^ n.toNat * 2 ^ (63 - n.toNat) := by
      rw [Nat.mul_assoc, ← Nat.pow_add, ← Nat.pow_succ']
      congr 1
      omega
    unfold pw
    have h : ((2 ^ 64 : Nat) : Int) = ((2 * 2 ^ n.toNat * 2 ^ (63 - n.toNat) : Nat) : Int) := congrArg _ this
    rw [Int.natCast_mul, Int.natCast_mul] at h
    exact h
  obtain ⟨q, e⟩ := e
  have d := Int.mul_ediv_add_emod w (pw n)
  have m0 := Int.emod_nonneg w (show pw n ≠ 0 by omega)
  have m1 := Int.emod_lt_of_pos w (show 0 < pw n by omega)
  generalize hx : w / pw n = x at *
  have hx2 : x % 2 = 0 := by omega
  obtain ⟨y, rfl⟩ : ∃ y, x = 2 * y := ⟨x / 2, by omega⟩
  have hy : y < q := by
    refine Int.lt_of_not_ge fun hge => ?_
    have := Int.mul_le_mul_of_nonneg_left hge (show (0 : Int) ≤ 2 * pw n by omega)
    have e2 : pw n * (2 * y) = 2 * pw n * y := by rw [← Int.mul_assoc, Int.mul_comm (pw n) 2]
    rw [e2] at d
    omega
  have := Int.mul_le_mul_of_nonneg_left (show y + 1 ≤ q by omega) (show (0 : Int) ≤ 2 * pw n by omega)
  rw [Int.mul_add] at this
  have e2 : pw n * (2 * y) = 2 * pw n * y := by rw [← Int.mul_assoc, Int.mul_comm (pw n) 2]
  rw [e2] at d
  omega
theorem put_word {w n : Int} (b : Bool) (h0 : 0 ≤ w) (h1 : w < 18446744073709551616) (h2 : 0 ≤ n) (h3 : n ≤ 40) : 0 ≤ putI w n b ∧ putI w n b < 18446744073709551616 := by
  have hp := pw_pos n
  obtain ⟨a1, a2, a3, a4⟩ := div_facts h0 hp
  unfold putI
  rcases a4 with e | e
  · have hb : bitI w n = false := by unfold bitI; rw [e]; rfl
    have hr := put_range h0 h1 h2 h3 hb
    rw [e]
    cases b <;> simp only [cond_true, cond_false, Int.zero_mul] <;> omega
  · rw [e] at a3 ⊢
    cases b <;> simp only [cond_true, cond_false, Int.one_mul] at a3 ⊢ <;> omega
theorem put_is {w n : Int} (b : Bool) (h0 : 0 ≤ w) (h1 : w < 18446744073709551616) (h2 : 0 ≤ n) (h3 : n ≤ 40) : outV (ev sumsB1 60 51 [.int .u64 w, .int .i64 n, .bool b] ⟨.nil, 0⟩) = some (.int .u64 (putI w n b)) := by
  have hp := pw_pos n
  obtain ⟨a1, a2, a3, a4⟩ := div_facts h0 hp
  have hw : isW w = true := isW_iff.2 ⟨h0, h1⟩
  have hg : decide (0 ≤ n ∧ n ≤ 40) = true := decide_eq_true ⟨h2, h3⟩
  cases hb : bitI w n == b with
  | true =>
    rw [outV_walk (put_way_1 w n b) (by rw [hw, hg, hb]; rfl)]
    have hb := eq_of_beq hb
    congr 2
    unfold putI
    unfold bitI at hb
    rcases a4 with e | e
    · rw [e] at hb ⊢
      subst hb
      show w = w - 0 * pw n + 0
      omega
    · rw [e] at hb ⊢
      subst hb
      show w = w - 1 * pw n + pw n
      omega
  | false =>
    cases b with
    | true =>
      have hf : bitI w n = false := by cases h : bitI w n <;> simp_all
      have hr := put_range h0 h1 h2 h3 hf
      rw [outV_walk (put_way_2 w n true) (by rw [hw, hg, hb]; rfl), wrap_id (by omega) hr]
      congr 2
      unfold putI
      have e : w / pw n % 2 = 0 := by unfold bitI at hf; rw [beq_eq_false_iff_ne] at hf; omega
      rw [e]
      show w + pw n = w - 0 * pw n + pw n
      omega
    | false =>
      have hf : bitI w n = true := by cases h : bitI w n <;> simp_all
      have e : w / pw n % 2 = 1 := by unfold bitI at hf; exact eq_of_beq hf
      rw [e] at a3
      rw [outV_walk (put_way_3 w n false) (by rw [hw, hg, hb]; rfl), wrap_id (by omega) (by omega)]
      congr 2
      unfold putI
      rw [e]
      show w - pw n = w - 1 * pw n + 0
      omega
def putS : List Value → Option (Bool × Value)
  | [.int .u64 w, .int .i64 n, .bool b] => some (isW w && decide (0 ≤ n ∧ n ≤ 40), .int .u64 (putI w n b))
  | _ => none
noncomputable def sumsB2 : Sums := withIf sumsB1 51 putS
theorem sumsB2_ok : SumsOk sumsB2 := withIf_ok sumsB1_ok sumsB1_ok 60 (by kernel_rfl) fun al v h => by
  unfold putS at h
  split at h
  · simp only [Option.some.injEq, Prod.mk.injEq, Bool.and_eq_true, decide_eq_true_eq, isW_iff] at h
    obtain ⟨⟨⟨h0, h1⟩, h2, h3⟩, rfl⟩ := h
    exact ⟨rfl, rfl, put_is _ h0 h1 h2 h3⟩
  · cases h
end Go.Proofs.YtfccbghmagohaaaGreat.Bound
