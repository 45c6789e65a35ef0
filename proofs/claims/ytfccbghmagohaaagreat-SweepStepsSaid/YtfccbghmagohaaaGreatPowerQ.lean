/- The document's powers of two, as a sum. No condition. -/
import Derived.Test.YtfccbghmagohaaaGreatWordMathQ
namespace Go.Proofs.YtfccbghmagohaaaGreat.Bound
open Go.Proofs.YtfccbghmagohaaaGreat.Ev
set_option linter.unusedVariables false
set_option linter.unusedSimpArgs false
def isPow (n : Nat) : Option Value → Bool
  | some (.int .u64 m) => m == (2 ^ n : Nat)
  | _ => false
theorem isPow_eq {n : Nat} {v : Option Value} (h : isPow n v = true) : v = some (.int .u64 ((2 ^ n : Nat) : Int)) := by
  unfold isPow at h
  split at h
  · rw [eq_of_beq h]
  · cases h
set_option maxRecDepth 100000 in
theorem pows : (List.range 41).all (fun n => isPow n (outV (ev noSums 100 84 [.int .i64 (n : Int)] ⟨.nil, 0⟩))) = true := by kernel_rfl
/-- A power of two, of a number that may be. -/
def pw (n : Int) : Int := ((2 ^ n.toNat : Nat) : Int)
def powS : List Value → Option (Bool × Value)
  | [.int .i64 n] => some (decide (0 ≤ n ∧ n ≤ 40), .int .u64 (pw n))
  | _ => none
theorem pow_is {n : Int} (h0 : 0 ≤ n) (h1 : n ≤ 40) : outV (ev noSums 100 84 [.int .i64 n] ⟨.nil, 0⟩) = some (.int .u64 (pw n)) := by
  obtain ⟨k, rfl⟩ := Int.eq_ofNat_of_zero_le h0
  exact isPow_eq (List.all_eq_true.1 pows k (List.mem_range.2 (by omega)))
noncomputable def sumsX : Sums := withIf sumsW 84 powS
theorem sumsX_ok : SumsOk sumsX := withIf_ok sumsW_ok noSums_ok 100 (by kernel_rfl) fun al v h => by
  unfold powS at h
  split at h
  · simp only [Option.some.injEq, Prod.mk.injEq, decide_eq_true_eq] at h
    obtain ⟨⟨h0, h1⟩, rfl⟩ := h
    exact ⟨rfl, rfl, pow_is h0 h1⟩
  · cases h
theorem pw_pos (n : Int) : 1 ≤ pw n := by
  have := Nat.one_le_two_pow (n := n.toNat)
  unfold pw
  omega
theorem pw_le {n : Int} (h : n ≤ 40) : pw n ≤ 1099511627776 := by
  unfold pw
  have : 2 ^ n.toNat ≤ 2 ^ 40 := Nat.pow_le_pow_right (by decide) (by omega)
  omega
/-- Whether a word is one. -/
def isW (w : Int) : Bool := decide (0 ≤ w ∧ w < 18446744073709551616)
def bitI (w n : Int) : Bool := w / pw n % 2 == 1
def putI (w n : Int) (b : Bool) : Int := w - w / pw n % 2 * pw n + bif b then pw n else 0
theorem div_facts {w p : Int} (h0 : 0 ≤ w) (hp : 1 ≤ p) : 0 ≤ w / p ∧ w / p ≤ w ∧ w / p % 2 * p ≤ w ∧ (w / p % 2 = 0 ∨ w / p % 2 = 1) := by
  have a := Int.ediv_nonneg h0 (show (0 : Int) ≤ p by omega)
  have b := Int.ediv_le_self p h0
  have c := Int.mul_ediv_self_le (x := w) (k := p) (by omega)
  refine ⟨a, b, ?_, by omega⟩
  have d : w / p % 2 ≤ w / p := by omega
  exact Int.le_trans (Int.mul_le_mul_of_nonneg_right d (by omega)) (by rw [Int.mul_comm]; exact c)
end Go.Proofs.YtfccbghmagohaaaGreat.Bound
