/- Words, bit by bit and as numbers. Conditions stand in the statements. -/
import Derived.Test.YtfccbghmagohaaaGreatMemWQ
namespace Go.Proofs.YtfccbghmagohaaaGreat.Bound
open Go.Proofs.YtfccbghmagohaaaGreat.Ev
set_option linter.unusedVariables false
set_option linter.unusedSimpArgs false
theorem ofInt_nat {x : Int} (h0 : 0 ≤ x) (h1 : x < 18446744073709551616) : (BitVec.ofInt 64 x).toNat = x.toNat := by
  rw [BitVec.toNat_ofInt]
  have : x % ((2 ^ 64 : Nat) : Int) = x := Int.emod_eq_of_lt h0 (by simpa using h1)
  rw [this]
theorem wrap_nat {n : Nat} (h : n < 18446744073709551616) : IntKind.u64.wrap (n : Int) = n := by
  have : IntKind.u64.wrap (n : Int) = (n : Int) % 18446744073709551616 := by simp [IntKind.wrap, IntKind.bits, IntKind.signed]
  rw [this]; omega
theorem p_and {x y : Int} (h0 : 0 ≤ x) (h1 : x < 18446744073709551616) (k0 : 0 ≤ y) (k1 : y < 18446744073709551616) :
    IntKind.u64.wrap ↑(BitVec.ofInt IntKind.u64.bits x &&& BitVec.ofInt IntKind.u64.bits y).toNat = ((x.toNat &&& y.toNat : Nat) : Int) := by
  show IntKind.u64.wrap ↑(BitVec.ofInt 64 x &&& BitVec.ofInt 64 y).toNat = _
  rw [BitVec.toNat_and, ofInt_nat h0 h1, ofInt_nat k0 k1]
  exact wrap_nat (Nat.lt_of_le_of_lt Nat.and_le_left (by omega))
theorem p_or {x y : Int} (h0 : 0 ≤ x) (h1 : x < 18446744073709551616) (k0 : 0 ≤ y) (k1 : y < 18446744073709551616) :
    IntKind.u64.wrap ↑(BitVec.ofInt IntKind.u64.bits x ||| BitVec.ofInt IntKind.u64.bits y).toNat = ((x.toNat ||| y.toNat : Nat) : Int) := by
  show IntKind.u64.wrap ↑(BitVec.ofInt 64 x ||| BitVec.ofInt 64 y).toNat = _
  rw [BitVec.toNat_or, ofInt_nat h0 h1, ofInt_nat k0 k1]
  exact wrap_nat (Nat.or_lt_two_pow (n := 64) (by omega) (by omega))
/-- A word without the bits of another one. -/
def clr (x y : Nat) : Nat := x &&& (x ^^^ y)
theorem clr_bit (x y j : Nat) : (clr x y).testBit j = (x.testBit j && !y.testBit j) := by
  unfold clr
  rw [Nat.testBit_and, Nat.testBit_xor]
  cases x.testBit j <;> cases y.testBit j <;> rfl
theorem clr_le (x y : Nat) : clr x y ≤ x := Nat.and_le_left
theorem p_clr {x y : Int} (h0 : 0 ≤ x) (h1 : x < 18446744073709551616) (k0 : 0 ≤ y) (k1 : y < 18446744073709551616) :
    IntKind.u64.wrap ↑(BitVec.ofInt IntKind.u64.bits x &&& ~~~BitVec.ofInt IntKind.u64.bits y).toNat = ((clr x.toNat y.toNat : Nat) : Int) := by
  show IntKind.u64.wrap ↑(BitVec.ofInt 64 x &&& ~~~BitVec.ofInt 64 y).toNat = _
  have e : (BitVec.ofInt 64 x &&& ~~~BitVec.ofInt 64 y).toNat = clr x.toNat y.toNat := by
    apply Nat.eq_of_testBit_eq
    intro j
    rw [clr_bit, ← ofInt_nat h0 h1, ← ofInt_nat k0 k1]
    simp only [BitVec.testBit_toNat, BitVec.getLsbD_and, BitVec.getLsbD_not]
    by_cases hj : j < 64
    · simp [hj]
    · have : (BitVec.ofInt 64 x).getLsbD j = false := BitVec.getLsbD_of_ge _ _ (by omega)
      simp [this]
  rw [e]
  exact wrap_nat (Nat.lt_of_le_of_lt (clr_le _ _) (by omega))
/-- Some bits of a word are taken out. -/
theorem take_out (w f m y : Nat) (h : ∀ j, y.testBit j = (w.testBit j && !decide (f ≤ j ∧ j < f + m))) : y = w - w / 2 ^ f % 2 ^ m * 2 ^ f := by
  have hz : y = 2 ^ (f + m) * (w / 2 ^ (f + m)) + w % 2 ^ f := by
    apply Nat.eq_of_testBit_eq
    intro j
    rw [h]
    have hlt : w % 2 ^ f < 2 ^ (f + m) := Nat.lt_of_lt_of_le (Nat.mod_lt _ (Nat.two_pow_pos f)) (Nat.pow_le_pow_right (by decide) (by omega))
    rw [Nat.testBit_two_pow_mul_add _ hlt]
    by_cases h1 : j < f + m
    · rw [if_pos h1, Nat.testBit_mod_two_pow]
      by_cases h2 : j < f
      · rw [decide_eq_true h2, decide_eq_false (by omega)]; simp
      · rw [decide_eq_false h2, decide_eq_true (by omega)]; simp
    · rw [if_neg h1, Nat.testBit_div_two_pow, decide_eq_false (by omega)]
      simp
      congr 1
      omega
  have hw := Nat.div_add_mod w (2 ^ (f + m))
  have hm : w % 2 ^ (f + m) = w % 2 ^ f + 2 ^ f * (w / 2 ^ f % 2 ^ m) := by rw [Nat.pow_add]; exact Nat.mod_mul
  have hc : w / 2 ^ f % 2 ^ m * 2 ^ f = 2 ^ f * (w / 2 ^ f % 2 ^ m) := Nat.mul_comm _ _
  rw [hc, hz]
  omega
/-- Bits that are not there are laid: a sum. -/
theorem lay_in (x y : Nat) (h : ∀ j, ¬ (x.testBit j = true ∧ y.testBit j = true)) : x ||| y = x + y := by
  have hz : x &&& y = 0 := by
    apply Nat.eq_of_testBit_eq
    intro j
    rw [Nat.testBit_and, Nat.zero_testBit]
    have := h j
    cases hx : x.testBit j <;> cases hy : y.testBit j <;> simp_all
  have hn : x + y < 2 ^ (x + y + 1) := Nat.lt_of_lt_of_le Nat.lt_two_pow_self (Nat.pow_le_pow_right (by decide) (by omega))
  have ex : (BitVec.ofNat (x + y + 1) x).toNat = x := by rw [BitVec.toNat_ofNat]; exact Nat.mod_eq_of_lt (by omega)
  have ey : (BitVec.ofNat (x + y + 1) y).toNat = y := by rw [BitVec.toNat_ofNat]; exact Nat.mod_eq_of_lt (by omega)
  have hb : BitVec.ofNat (x + y + 1) x &&& BitVec.ofNat (x + y + 1) y = 0#(x + y + 1) := by
    apply BitVec.eq_of_toNat_eq
    rw [BitVec.toNat_and, ex, ey, hz]
    simp
  have := congrArg BitVec.toNat (BitVec.add_eq_or_of_and_eq_zero _ _ hb)
  rw [BitVec.toNat_add, BitVec.toNat_or, ex, ey, Nat.mod_eq_of_lt hn] at this
  exact this.symm
theorem field_bit (v f m j : Nat) (hv : v < 2 ^ m) (h : (v * 2 ^ f).testBit j = true) : f ≤ j ∧ j < f + m := by
  rw [Nat.testBit_mul_two_pow] at h
  simp only [Bool.and_eq_true, decide_eq_true_eq] at h
  refine ⟨h.1, ?_⟩
  refine Classical.byContradiction fun hn => ?_
  have := Nat.testBit_lt_two_pow (Nat.lt_of_lt_of_le hv (Nat.pow_le_pow_right (show 0 < 2 by decide) (show m ≤ j - f by omega)))
  rw [this] at h
  cases h.2
/-- Bits are laid where none are. -/
theorem set_field (x v f m : Nat) (hx : ∀ j, f ≤ j → j < f + m → x.testBit j = false) (hv : v < 2 ^ m) : x ||| v * 2 ^ f = x + v * 2 ^ f := by
  refine lay_in _ _ fun j ⟨h1, h2⟩ => ?_
  obtain ⟨h3, h4⟩ := field_bit v f m j hv h2
  rw [hx j h3 h4] at h1
  cases h1
theorem mask_bit (f m j : Nat) : ((2 ^ m - 1) * 2 ^ f).testBit j = decide (f ≤ j ∧ j < f + m) := by
  rw [Nat.testBit_mul_two_pow, Nat.testBit_two_pow_sub_one]
  rw [Bool.eq_iff_iff, Bool.and_eq_true, decide_eq_true_iff, decide_eq_true_iff, decide_eq_true_iff]
  omega
theorem clr_field (w f m : Nat) : clr w ((2 ^ m - 1) * 2 ^ f) = w - w / 2 ^ f % 2 ^ m * 2 ^ f := take_out w f m _ fun j => by rw [clr_bit, mask_bit]
theorem u64_range (x : Int) : 0 ≤ IntKind.u64.wrap x ∧ IntKind.u64.wrap x < 18446744073709551616 := by
  have : IntKind.u64.wrap x = x % 18446744073709551616 := by simp [IntKind.wrap, IntKind.bits, IntKind.signed]
  rw [this]; omega
/-- A word of another state. -/
def moveI (w st : Int) (b : Bool) : Int := w - w / 67108864 % 16 * 67108864 + (if b = true then 67108864 else 0) + st % 8 * 134217728
/-- As the program reckons it. -/
def moveP (w st c : Int) : Int := IntKind.u64.wrap (↑(BitVec.ofInt IntKind.u64.bits (IntKind.u64.wrap (↑(BitVec.ofInt IntKind.u64.bits (IntKind.u64.wrap (↑(BitVec.ofInt IntKind.u64.bits w &&& ~~~BitVec.ofInt IntKind.u64.bits (1006632960 : Int)).toNat : Int)) ||| BitVec.ofInt IntKind.u64.bits (IntKind.u64.wrap (c * (2 : Int) ^ min (Int.toNat (26 : Int)) IntKind.u64.bits))).toNat : Int)) ||| BitVec.ofInt IntKind.u64.bits (IntKind.u64.wrap (IntKind.u64.wrap (↑(BitVec.ofInt IntKind.u64.bits (IntKind.u64.wrap st) &&& BitVec.ofInt IntKind.u64.bits (7 : Int)).toNat : Int) * (2 : Int) ^ min (Int.toNat (27 : Int)) IntKind.u64.bits))).toNat : Int)
theorem moveP_is {w st : Int} (h0 : 0 ≤ w) (h1 : w < 18446744073709551616) (b : Bool) : moveP w st (if b = true then 1 else 0) = moveI w st b := by
  unfold moveP
  have q26 : (2 : Int) ^ min (Int.toNat (26 : Int)) IntKind.u64.bits = 67108864 := rfl
  have q27 : (2 : Int) ^ min (Int.toNat (27 : Int)) IntKind.u64.bits = 134217728 := rfl
  rw [q26, q27, p_clr h0 h1 (by decide) (by decide)]
  have ew : ∀ x : Int, IntKind.u64.wrap x = x % 18446744073709551616 := fun x => by simp [IntKind.wrap, IntKind.bits, IntKind.signed]
  have hst := u64_range st
  rw [p_and (x := IntKind.u64.wrap st) hst.1 hst.2 (by decide) (by decide)]
  have e7 : (IntKind.u64.wrap st).toNat &&& (7 : Int).toNat = (st % 8).toNat := by
    show (IntKind.u64.wrap st).toNat &&& (2 ^ 3 - 1) = _
    rw [Nat.and_two_pow_sub_one_eq_mod, ew]
    omega
  rw [e7]
  have em : clr w.toNat (1006632960 : Int).toNat = w.toNat - w.toNat / 2 ^ 26 % 2 ^ 4 * 2 ^ 26 := clr_field w.toNat 26 4
  have hc : ∀ j, 26 ≤ j → j < 30 → (clr w.toNat (1006632960 : Int).toNat).testBit j = false := fun j h2 h3 => by
    rw [clr_bit, show (1006632960 : Int).toNat = (2 ^ 4 - 1) * 2 ^ 26 from rfl, mask_bit, decide_eq_true ⟨h2, by omega⟩]; simp
  generalize hn : clr w.toNat (1006632960 : Int).toNat = n at *
  have hnl : n ≤ w.toNat := by rw [← hn]; exact clr_le _ _
  have hB : IntKind.u64.wrap ((if b = true then 1 else 0) * 67108864) = (((if b = true then 1 else 0) * 2 ^ 26 : Nat) : Int) := by cases b <;> rfl
  rw [hB]
  have hs1 : n ||| (if b = true then 1 else 0) * 2 ^ 26 = n + (if b = true then 1 else 0) * 2 ^ 26 := set_field n _ 26 1 (fun j h2 h3 => hc j h2 (by omega)) (by cases b <;> decide)
  have o1 := p_or (x := (n : Int)) (y := (((if b = true then 1 else 0) * 2 ^ 26 : Nat) : Int)) (by omega) (by omega) (by omega) (by cases b <;> decide)
  rw [o1]
  simp only [Int.toNat_natCast]
  have hs : IntKind.u64.wrap (((st % 8).toNat : Int) * 134217728) = (((st % 8).toNat * 2 ^ 27 : Nat) : Int) := by rw [ew]; omega
  rw [hs]
  have hx : ∀ j, 27 ≤ j → j < 30 → (n ||| (if b = true then 1 else 0) * 2 ^ 26).testBit j = false := fun j h2 h3 => by
    rw [Nat.testBit_or, hc j (by omega) h3, Bool.false_or]
    cases hq : ((if b = true then 1 else 0) * 2 ^ 26).testBit j with
    | false => rfl
    | true =>
      have := field_bit (if b = true then 1 else 0) 26 1 j (by cases b <;> decide) hq
      omega
  have hs2 := set_field (n ||| (if b = true then 1 else 0) * 2 ^ 26) (st % 8).toNat 27 3 hx (by omega)
  have hlt : n ||| (if b = true then 1 else 0) * 2 ^ 26 < 18446744073709551616 := Nat.or_lt_two_pow (n := 64) (by omega) (by cases b <;> decide)
  have o2 := p_or (x := ((n ||| (if b = true then 1 else 0) * 2 ^ 26 : Nat) : Int)) (y := (((st % 8).toNat * 2 ^ 27 : Nat) : Int)) (by omega) (by omega) (by omega) (by omega)
  rw [o2]
  simp only [Int.toNat_natCast]
  rw [hs2, hs1]
  unfold moveI
  cases b <;> simp only [Bool.false_eq_true, if_false, if_true] <;> omega
end Go.Proofs.YtfccbghmagohaaaGreat.Bound
