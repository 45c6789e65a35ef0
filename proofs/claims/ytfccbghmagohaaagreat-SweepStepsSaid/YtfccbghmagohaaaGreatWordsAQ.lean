/- The words of transactions: what the program and the document read out of them. Conditions stand in the statements. -/
import Derived.Test.YtfccbghmagohaaaGreatCellCQ
import Derived.Laws.BitsLemmas
namespace Go.Proofs.YtfccbghmagohaaaGreat.Bound
open Go.Proofs.YtfccbghmagohaaaGreat.Ev Go.RowKit
set_option linter.unusedVariables false
set_option linter.unusedSimpArgs false
/-- Some bits of a word, as the program reads them. -/
def partP (w : Int) (fr many : Nat) : Int := IntKind.i64.wrap (IntKind.u64.wrap ↑(BitVec.ofInt IntKind.u64.bits (w.fdiv (2 ^ fr)) &&& BitVec.ofInt IntKind.u64.bits (2 ^ many - 1)).toNat)
def statusP (w : Int) : Value := .agg #[.int .i64 (partP w 30 32), .int .i64 (partP w 27 3), .bool (partP w 26 1 == 1), .bool (partP w 25 1 == 1), .bool (partP w 24 1 == 1), .int .i64 (partP w 12 12), .int .i64 (partP w 0 12)]
/-- As the document reads them. -/
def partR (w : Int) (fr many : Nat) : Int := IntKind.i64.wrap ((IntKind.u64.wrap (w.tdiv (2 ^ fr))).tmod (2 ^ many))
theorem unpack_ev (w : Int) : outV (ev noSums 60 78 [.int .u64 w] ⟨.nil, 0⟩) = some (statusP w) := by kernel_rfl
theorem state_ev (w : Int) : outV (ev noSums 60 23 [.int .u64 w] ⟨.nil, 0⟩) = some (.int .i64 (partR w 27 3)) := by kernel_rfl
def onWord (f : Int → Value) : List Value → Option Value
  | [.int .u64 w] => some (f w)
  | _ => none
theorem onWord_eq {f : Int → Value} {l : List Value} {v : Value} (h : onWord f l = some v) : ∃ w, l = [.int .u64 w] ∧ v = f w := by
  unfold onWord at h
  split at h
  · cases h; exact ⟨_, rfl, rfl⟩
  · cases h
noncomputable def sums9 : Sums := withPure (withPure sums8 78 (onWord statusP)) 23 (onWord fun w => .int .i64 (partR w 27 3))
theorem sums9_ok : SumsOk sums9 := by
  refine withPure_ok (withPure_ok sums8_ok noSums_ok 60 (by kernel_rfl) fun al v h => ?_) noSums_ok 60 (by kernel_rfl) fun al v h => ?_
  · obtain ⟨w, rfl, rfl⟩ := onWord_eq h
    exact ⟨rfl, rfl, unpack_ev w⟩
  · obtain ⟨w, rfl, rfl⟩ := onWord_eq h
    exact ⟨rfl, rfl, state_ev w⟩
/-- They read the same. -/
theorem partP_is {w : Int} {fr many : Nat} (h0 : 0 ≤ w) (h1 : w < 18446744073709551616) (hm : many < 63) : partP w fr many = w / 2 ^ fr % 2 ^ many := by
  have p : (1 : Int) ≤ 2 ^ many := by exact_mod_cast Nat.one_le_two_pow
  have p2 : (2 : Int) ^ many ≤ 2 ^ 62 := by exact_mod_cast Nat.pow_le_pow_right (by decide) (by omega)
  have q : (0 : Int) < 2 ^ fr := by exact_mod_cast Nat.two_pow_pos fr
  have q0 : 0 ≤ w / 2 ^ fr := Int.ediv_nonneg h0 (by omega)
  have q1 : w / 2 ^ fr ≤ w := Int.ediv_le_self _ h0
  have wr : ∀ n : Int, 0 ≤ n → n < 2 ^ 64 → IntKind.u64.wrap n = n := fun n a b => by
    have : IntKind.u64.wrap n = n % 18446744073709551616 := by simp [IntKind.wrap, IntKind.bits, IntKind.signed]
    rw [this]; omega
  have := bits_mask .u64 64 (by decide) wr many (by omega) (w / 2 ^ fr) q0 (by omega)
  unfold partP
  rw [Int.fdiv_eq_ediv_of_nonneg _ (by omega)]
  have e : IntKind.u64.wrap ↑(BitVec.ofInt IntKind.u64.bits (w / 2 ^ fr) &&& BitVec.ofInt IntKind.u64.bits (2 ^ many - 1)).toNat = w / 2 ^ fr % 2 ^ many := this
  rw [e]
  have r0 := Int.emod_nonneg (w / 2 ^ fr) (show (2 : Int) ^ many ≠ 0 by omega)
  have r1 := Int.emod_lt_of_pos (w / 2 ^ fr) (show (0 : Int) < 2 ^ many by omega)
  rw [IntKind.wrap_i64]
  omega
theorem partR_is {w : Int} {fr many : Nat} (h0 : 0 ≤ w) (h1 : w < 18446744073709551616) (hm : many < 63) : partR w fr many = w / 2 ^ fr % 2 ^ many := by
  have p : (1 : Int) ≤ 2 ^ many := by exact_mod_cast Nat.one_le_two_pow
  have p2 : (2 : Int) ^ many ≤ 2 ^ 62 := by exact_mod_cast Nat.pow_le_pow_right (by decide) (by omega)
  have q : (0 : Int) < 2 ^ fr := by exact_mod_cast Nat.two_pow_pos fr
  have q0 : 0 ≤ w / 2 ^ fr := Int.ediv_nonneg h0 (by omega)
  have q1 : w / 2 ^ fr ≤ w := Int.ediv_le_self _ h0
  unfold partR
  rw [Int.tdiv_eq_ediv_of_nonneg h0]
  have e : IntKind.u64.wrap (w / 2 ^ fr) = w / 2 ^ fr := by
    have : IntKind.u64.wrap (w / 2 ^ fr) = (w / 2 ^ fr) % 18446744073709551616 := by simp [IntKind.wrap, IntKind.bits, IntKind.signed]
    rw [this]; omega
  rw [e, Int.tmod_eq_emod_of_nonneg q0]
  have r0 := Int.emod_nonneg (w / 2 ^ fr) (show (2 : Int) ^ many ≠ 0 by omega)
  have r1 := Int.emod_lt_of_pos (w / 2 ^ fr) (show (0 : Int) < 2 ^ many by omega)
  rw [IntKind.wrap_i64]
  omega
theorem part_same {w : Int} {fr many : Nat} (h0 : 0 ≤ w) (h1 : w < 18446744073709551616) (hm : many < 63) : partR w fr many = partP w fr many := by rw [partP_is h0 h1 hm, partR_is h0 h1 hm]
end Go.Proofs.YtfccbghmagohaaaGreat.Bound
