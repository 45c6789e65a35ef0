/- Marks dropped from a word: the program's and the document's tell the same. No condition. -/
import Derived.Test.YtfccbghmagohaaaGreatWordSQ
namespace Go.Proofs.YtfccbghmagohaaaGreat.Bound
open Go.Proofs.YtfccbghmagohaaaGreat.Ev
set_option linter.unusedVariables false
set_option linter.unusedSimpArgs false
theorem clr_pow {w n : Int} (h0 : 0 ≤ w) : ((clr w.toNat (2 ^ n.toNat) : Nat) : Int) = putI w n false := by
  have h : clr w.toNat (2 ^ n.toNat) = w.toNat - w.toNat / 2 ^ n.toNat % 2 ^ 1 * 2 ^ n.toNat := take_out _ _ 1 _ fun j => by
    rw [clr_bit, Nat.testBit_two_pow]
    congr 2
    rw [decide_eq_decide]
    omega
  have hp := pw_pos n
  obtain ⟨_, _, a3, _⟩ := div_facts h0 hp
  rw [h]
  unfold putI
  simp only [cond_false]
  unfold pw at *
  obtain ⟨v, rfl⟩ := Int.eq_ofNat_of_zero_le h0
  simp only [Int.toNat_natCast, Nat.pow_one]
  generalize 2 ^ n.toNat = p at *
  have e : ((v / p % 2 * p : Nat) : Int) = (v : Int) / p % 2 * p := by simp
  rw [← e] at a3 ⊢
  omega
theorem clr_or (w a b : Nat) : clr w (a ||| b) = clr (clr w a) b := by
  apply Nat.eq_of_testBit_eq
  intro j
  rw [clr_bit, clr_bit, clr_bit, Nat.testBit_or]
  cases w.testBit j <;> cases a.testBit j <;> cases b.testBit j <;> rfl
/-- A word without a slot's marks. -/
def dropM (w sl : Int) : Int := putI (putI w sl false) (12 + sl) false
theorem mdrop_way (w sl : Int) : walkV (ev sumsD2 60 173 [.int .u64 w, .int .i64 sl] ⟨.nil, 0⟩) [false, false, false, false, false, false, false, false, false, false, true, true, false, false, false, false, false, false, false] =
    some ([false, false, false, false, false, bif false then true else decide (sl < (0 : Int)), false, bif false then true else decide (sl ≥ (12 : Int)), decide (sl < (0 : Int)), false, true, true, false, false, bif false then true else decide (sl < (0 : Int)), false, bif false then true else decide (sl ≥ (12 : Int)), decide (sl < (0 : Int)), false], .int .u64 (IntKind.u64.wrap (↑(BitVec.ofInt IntKind.u64.bits w &&& ~~~BitVec.ofInt IntKind.u64.bits (IntKind.u64.wrap (↑(BitVec.ofInt IntKind.u64.bits (IntKind.u64.wrap (IntKind.u64.wrap ((1 : Int) * (2 : Int) ^ min sl.toNat IntKind.u64.bits) * (2 : Int) ^ min (IntKind.i64.wrap ((0 : Int) * (12 : Int))).toNat IntKind.u64.bits)) ||| BitVec.ofInt IntKind.u64.bits (IntKind.u64.wrap (IntKind.u64.wrap ((1 : Int) * (2 : Int) ^ min sl.toNat IntKind.u64.bits) * (2 : Int) ^ min (IntKind.i64.wrap ((1 : Int) * (12 : Int))).toNat IntKind.u64.bits))).toNat : Int))).toNat : Int))) := by kernel_rfl
theorem rdrop_way (w sl : Int) : walkV (ev sumsD2 60 89 [.int .u64 w, .int .i64 sl] ⟨.nil, 0⟩) [false, false, false, false, false, false, false, false, false, false, false, false, false, false, false, true, false, false, false, false, false, false, false, true] =
    some ([false, false, false, false, bif false then true else decide (sl < (0 : Int)), false, bif false then true else decide (sl > (11 : Int)), decide (IntKind.i64.wrap (IntKind.i64.wrap ((12 : Int) * (0 : Int)) + sl) < (0 : Int)), false, false, false, false, bif false then true else decide (sl < (0 : Int)), false, bif false then true else decide (sl > (11 : Int)), (isW w && decide ((0 : Int) ≤ IntKind.i64.wrap (IntKind.i64.wrap ((12 : Int) * (0 : Int)) + sl) ∧ IntKind.i64.wrap (IntKind.i64.wrap ((12 : Int) * (0 : Int)) + sl) ≤ (40 : Int)), Value.int IntKind.u64 (putI w (IntKind.i64.wrap (IntKind.i64.wrap ((12 : Int) * (0 : Int)) + sl)) false)).fst, false, false, false, false, bif false then true else decide (sl < (0 : Int)), false, bif false then true else decide (sl > (11 : Int)), (isW (putI w (IntKind.i64.wrap (IntKind.i64.wrap ((12 : Int) * (0 : Int)) + sl)) false) && decide ((0 : Int) ≤ IntKind.i64.wrap (IntKind.i64.wrap ((12 : Int) * (1 : Int)) + sl) ∧ IntKind.i64.wrap (IntKind.i64.wrap ((12 : Int) * (1 : Int)) + sl) ≤ (40 : Int)), Value.int IntKind.u64 (putI (putI w (IntKind.i64.wrap (IntKind.i64.wrap ((12 : Int) * (0 : Int)) + sl)) false) (IntKind.i64.wrap (IntKind.i64.wrap ((12 : Int) * (1 : Int)) + sl)) false)).fst], .int .u64 (putI (putI w (IntKind.i64.wrap (IntKind.i64.wrap ((12 : Int) * (0 : Int)) + sl)) false) (IntKind.i64.wrap (IntKind.i64.wrap ((12 : Int) * (1 : Int)) + sl)) false)) := by kernel_rfl
theorem slots {P : Int → Prop} {sl : Int} (h0 : 0 ≤ sl) (h1 : sl ≤ 11) (h : ∀ n : Nat, n < 12 → P n) : P sl := by
  obtain ⟨n, rfl⟩ := Int.eq_ofNat_of_zero_le h0
  exact h n (by omega)
theorem bit_a {sl : Int} (h0 : 0 ≤ sl) (h1 : sl ≤ 11) : (IntKind.u64.wrap (IntKind.u64.wrap ((1 : Int) * (2 : Int) ^ min sl.toNat IntKind.u64.bits) * (2 : Int) ^ min (IntKind.i64.wrap ((0 : Int) * (12 : Int))).toNat IntKind.u64.bits)) = ((2 ^ sl.toNat : Nat) : Int) := by
  refine slots (P := fun sl => (IntKind.u64.wrap (IntKind.u64.wrap ((1 : Int) * (2 : Int) ^ min sl.toNat IntKind.u64.bits) * (2 : Int) ^ min (IntKind.i64.wrap ((0 : Int) * (12 : Int))).toNat IntKind.u64.bits)) = ((2 ^ sl.toNat : Nat) : Int)) h0 h1 fun n hn => ?_
  match n, hn with
  | 0, _ | 1, _ | 2, _ | 3, _ | 4, _ | 5, _ | 6, _ | 7, _ | 8, _ | 9, _ | 10, _ | 11, _ => rfl
theorem bit_b {sl : Int} (h0 : 0 ≤ sl) (h1 : sl ≤ 11) : (IntKind.u64.wrap (IntKind.u64.wrap ((1 : Int) * (2 : Int) ^ min sl.toNat IntKind.u64.bits) * (2 : Int) ^ min (IntKind.i64.wrap ((1 : Int) * (12 : Int))).toNat IntKind.u64.bits)) = ((2 ^ (12 + sl).toNat : Nat) : Int) := by
  refine slots (P := fun sl => (IntKind.u64.wrap (IntKind.u64.wrap ((1 : Int) * (2 : Int) ^ min sl.toNat IntKind.u64.bits) * (2 : Int) ^ min (IntKind.i64.wrap ((1 : Int) * (12 : Int))).toNat IntKind.u64.bits)) = ((2 ^ (12 + sl).toNat : Nat) : Int)) h0 h1 fun n hn => ?_
  match n, hn with
  | 0, _ | 1, _ | 2, _ | 3, _ | 4, _ | 5, _ | 6, _ | 7, _ | 8, _ | 9, _ | 10, _ | 11, _ => rfl
theorem mdrop_is {w sl : Int} (h0 : 0 ≤ w) (h1 : w < 18446744073709551616) (h2 : 0 ≤ sl) (h3 : sl ≤ 11) : outV (ev sumsD2 60 173 [.int .u64 w, .int .i64 sl] ⟨.nil, 0⟩) = some (.int .u64 (dropM w sl)) := by
  have c1 : decide (sl < 0) = false := decide_eq_false (by omega)
  have c2 : decide (sl ≥ 12) = false := decide_eq_false (by omega)
  rw [outV_walk (mdrop_way w sl) (by simp only [c1, c2, cond_false])]
  rw [bit_a h2 h3, bit_b h2 h3]
  have la : 2 ^ sl.toNat ≤ 2 ^ 23 := Nat.pow_le_pow_right (by decide) (by omega)
  have lb : 2 ^ (12 + sl).toNat ≤ 2 ^ 23 := Nat.pow_le_pow_right (by decide) (by omega)
  have o1 := p_or (x := ((2 ^ sl.toNat : Nat) : Int)) (y := ((2 ^ (12 + sl).toNat : Nat) : Int)) (Int.natCast_nonneg _) (by omega) (Int.natCast_nonneg _) (by omega)
  rw [o1]
  have l3 : 2 ^ sl.toNat ||| 2 ^ (12 + sl).toNat < 2 ^ 24 := Nat.or_lt_two_pow (by omega) (by omega)
  simp only [Int.toNat_natCast]
  have o2 := p_clr (x := w) (y := ((2 ^ sl.toNat ||| 2 ^ (12 + sl).toNat : Nat) : Int)) h0 h1 (by omega) (by omega)
  rw [o2, Int.toNat_natCast, clr_or]
  have e1 := clr_pow (w := w) (n := sl) h0
  obtain ⟨q0, q1⟩ := put_word (n := sl) false h0 h1 h2 (by omega)
  have e2 := clr_pow (w := putI w sl false) (n := 12 + sl) q0
  rw [← e1, Int.toNat_natCast] at e2
  rw [e2, e1]
  rfl
theorem rdrop_is {w sl : Int} (h0 : 0 ≤ w) (h1 : w < 18446744073709551616) (h2 : 0 ≤ sl) (h3 : sl ≤ 11) : outV (ev sumsD2 60 89 [.int .u64 w, .int .i64 sl] ⟨.nil, 0⟩) = some (.int .u64 (dropM w sl)) := by
  have c1 : decide (sl < 0) = false := decide_eq_false (by omega)
  have c2 : decide (sl > 11) = false := decide_eq_false (by omega)
  have ea : IntKind.i64.wrap (IntKind.i64.wrap ((12 : Int) * (0 : Int)) + sl) = sl := by rw [IntKind.wrap_i64, IntKind.wrap_i64]; omega
  have eb : IntKind.i64.wrap (IntKind.i64.wrap ((12 : Int) * (1 : Int)) + sl) = 12 + sl := by rw [IntKind.wrap_i64, IntKind.wrap_i64]; omega
  obtain ⟨q0, q1⟩ := put_word (n := sl) false h0 h1 h2 (by omega)
  have w1 : isW w = true := isW_iff.2 ⟨h0, h1⟩
  have w2 : isW (putI w sl false) = true := isW_iff.2 ⟨q0, q1⟩
  have g1 : decide (0 ≤ sl ∧ sl ≤ 40) = true := decide_eq_true (by omega)
  have g2 : decide (0 ≤ 12 + sl ∧ 12 + sl ≤ 40) = true := decide_eq_true (by omega)
  rw [outV_walk (rdrop_way w sl) (by rw [ea, eb]; simp only [c1, c2, cond_false, w1, w2, g1, g2, Bool.and_self]), ea, eb]
  rfl
def dropS : List Value → Option (Bool × Value)
  | [.int .u64 w, .int .i64 sl] => some (isW w && decide (0 ≤ sl ∧ sl ≤ 11), .int .u64 (dropM w sl))
  | _ => none
theorem dropS_ok {sums : Sums} {f : Nat} (hs : SumsOk sums) (hf : (fns f).isSome = true) (h : ∀ w sl : Int, 0 ≤ w → w < 18446744073709551616 → 0 ≤ sl → sl ≤ 11 → outV (ev sumsD2 60 f [.int .u64 w, .int .i64 sl] ⟨.nil, 0⟩) = some (.int .u64 (dropM w sl))) : SumsOk (withIf sums f dropS) := withIf_ok hs sumsD2_ok 60 hf fun al v hv => by
  unfold dropS at hv
  split at hv
  · simp only [Option.some.injEq, Prod.mk.injEq, Bool.and_eq_true, decide_eq_true_eq, isW_iff] at hv
    obtain ⟨⟨⟨h0, h1⟩, h2, h3⟩, rfl⟩ := hv
    exact ⟨rfl, rfl, h _ _ h0 h1 h2 h3⟩
  · cases hv
noncomputable def sumsD3 : Sums := withIf (withIf sumsD2 173 dropS) 89 dropS
theorem sumsD3_ok : SumsOk sumsD3 := dropS_ok (dropS_ok sumsD2_ok (by kernel_rfl) fun w sl a b c d => mdrop_is a b c d) (by kernel_rfl) fun w sl a b c d => rdrop_is a b c d
end Go.Proofs.YtfccbghmagohaaaGreat.Bound
