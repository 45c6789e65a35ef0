/- Words, bit by bit and as numbers. Conditions stand in the statements. The document's powers of two, as a sum. No condition. The document's bits of words, as sums. No condition. The pure functions of words, as sums: the program's and the document's tell the same. No condition. Marks dropped from a word: the program's and the document's tell the same. No condition. Sides of a status word: the program's and the document's tell the same. No condition. One dropped from a status word's sides: the program's and the document's tell the same. No condition. -/
import Derived.Test.YtifojacfedjedaaGreatMemWQ
section
namespace Go.Proofs.YtifojacfedjedaaGreat.Bound
open Go.Proofs.YtifojacfedjedaaGreat.Ev
set_option linter.unusedVariables false
set_option linter.unusedSimpArgs false
theorem ofInt_nat {x : Int} (h0 : 0 ≤ x) (h1 : x < 18446744073709551616) : (BitVec.ofInt 64 x).toNat = x.toNat := by
  rw [BitVec.toNat_ofInt]
  have : x % ((2 ^ 64 : Nat) : Int) = x := Int.emod_eq_of_lt h0 (by simpa using h1)
  rw [this]
theorem wrap_nat {n : Nat} (h : n < 18446744073709551616) : IntKind.u64.wrap (n : Int) = n := by
  have : IntKind.u64.wrap (n : Int) = (n : Int) % 18446744073709551616 := by simp [IntKind.wrap, IntKind.bits, IntKind.signed]
  rw [this]; omega
theorem p_and {x y : Int} (h0 : 0 ≤ x) (h1 : x < 18446744073709551616) (k0 : 0 ≤ y) (k1 : y < 18446744073709551616) :
    IntKind.u64.wrap ↑(BitVec.ofInt IntKind.u64.bits x &&& BitVec.ofInt IntKind.u64.bits y).toNat = ((x.toNat &&& y.toNat : Nat) : Int) := by
  show IntKind.u64.wrap ↑(BitVec.ofInt 64 x &&& BitVec.ofInt 64 y).toNat = _
  rw [BitVec.toNat_and, ofInt_nat h0 h1, ofInt_nat k0 k1]
  exact wrap_nat (Nat.lt_of_le_of_lt Nat.and_le_left (by omega))
theorem p_or {x y : Int} (h0 : 0 ≤ x) (h1 : x < 18446744073709551616) (k0 : 0 ≤ y) (k1 : y < 18446744073709551616) :
    IntKind.u64.wrap ↑(BitVec.ofInt IntKind.u64.bits x ||| BitVec.ofInt IntKind.u64.bits y).toNat = ((x.toNat ||| y.toNat : Nat) : Int) := by
  show IntKind.u64.wrap ↑(BitVec.ofInt 64 x ||| BitVec.ofInt 64 y).toNat = _
  rw [BitVec.toNat_or, ofInt_nat h0 h1, ofInt_nat k0 k1]
  exact wrap_nat (Nat.or_lt_two_pow (n := 64) (by omega) (by omega))
/-- A word without the bits of another one. -/
def clr (x y : Nat) : Nat := x &&& (x ^^^ y)
theorem clr_bit (x y j : Nat) : (clr x y).testBit j = (x.testBit j && !y.testBit j) := by
  unfold clr
  rw [Nat.testBit_and, Nat.testBit_xor]
  cases x.testBit j <;> cases y.testBit j <;> rfl
theorem clr_le (x y : Nat) : clr x y ≤ x := Nat.and_le_left
theorem p_clr {x y : Int} (h0 : 0 ≤ x) (h1 : x < 18446744073709551616) (k0 : 0 ≤ y) (k1 : y < 18446744073709551616) :
    IntKind.u64.wrap ↑(BitVec.ofInt IntKind.u64.bits x &&& ~~~BitVec.ofInt IntKind.u64.bits y).toNat = ((clr x.toNat y.toNat : Nat) : Int) := by
  show IntKind.u64.wrap ↑(BitVec.ofInt 64 x &&& ~~~BitVec.ofInt 64 y).toNat = _
  have e : (BitVec.ofInt 64 x &&& ~~~BitVec.ofInt 64 y).toNat = clr x.toNat y.toNat := by
    apply Nat.eq_of_testBit_eq
    intro j
    rw [clr_bit, ← ofInt_nat h0 h1, ← ofInt_nat k0 k1]
    simp only [BitVec.testBit_toNat, BitVec.getLsbD_and, BitVec.getLsbD_not]
    by_cases hj : j < 64
    · simp [hj]
    · have : (BitVec.ofInt 64 x).getLsbD j = false := BitVec.getLsbD_of_ge _ _ (by omega)
      simp [this]
  rw [e]
  exact wrap_nat (Nat.lt_of_le_of_lt (clr_le _ _) (by omega))
/-- Some bits of a word are taken out. -/
theorem take_out (w f m y : Nat) (h : ∀ j, y.testBit j = (w.testBit j && !decide (f ≤ j ∧ j < f + m))) : y = w - w / 2 ^ f % 2 ^ m * 2 ^ f := by
  have hz : y = 2 ^ (f + m) * (w / 2 ^ (f + m)) + w % 2 ^ f := by
    apply Nat.eq_of_testBit_eq
    intro j
    rw [h]
    have hlt : w % 2 ^ f < 2 ^ (f + m) := Nat.lt_of_lt_of_le (Nat.mod_lt _ (Nat.two_pow_pos f)) (Nat.pow_le_pow_right (by decide) (by omega))
    rw [Nat.testBit_two_pow_mul_add _ hlt]
    by_cases h1 : j < f + m
    · rw [if_pos h1, Nat.testBit_mod_two_pow]
      by_cases h2 : j < f
      · rw [decide_eq_true h2, decide_eq_false (by omega)]; simp
      · rw [decide_eq_false h2, decide_eq_true (by omega)]; simp
    · rw [if_neg h1, Nat.testBit_div_two_pow, decide_eq_false (by omega)]
      simp
      congr 1
      omega
  have hw := Nat.div_add_mod w (2 ^ (f + m))
  have hm : w % 2 ^ (f + m) = w % 2 ^ f + 2 ^ f * (w / 2 ^ f % 2 ^ m) := by rw [Nat.pow_add]; exact Nat.mod_mul
  have hc : w / 2 ^ f % 2 ^ m * 2 ^ f = 2 ^ f * (w / 2 ^ f % 2 ^ m) := Nat.mul_comm _ _
  rw [hc, hz]
  omega
/-- Bits that are not there are laid: a sum. -/
theorem lay_in (x y : Nat) (h : ∀ j, ¬ (x.testBit j = true ∧ y.testBit j = true)) : x ||| y = x + y := by
  have hz : x &&& y = 0 := by
    apply Nat.eq_of_testBit_eq
    intro j
    rw [Nat.testBit_and, Nat.zero_testBit]
    have := h j
    cases hx : x.testBit j <;> cases hy : y.testBit j <;> simp_all
  have hn : x + y < 2 ^ (x + y + 1) := Nat.lt_of_lt_of_le Nat.lt_two_pow_self (Nat.pow_le_pow_right (by decide) (by omega))
  have ex : (BitVec.ofNat (x + y + 1) x).toNat = x := by rw [BitVec.toNat_ofNat]; exact Nat.mod_eq_of_lt (by omega)
  have ey : (BitVec.ofNat (x + y + 1) y).toNat = y := by rw [BitVec.toNat_ofNat]; exact Nat.mod_eq_of_lt (by omega)
  have hb : BitVec.ofNat (x + y + 1) x &&& BitVec.ofNat (x + y + 1) y = 0#(x + y + 1) := by
    apply BitVec.eq_of_toNat_eq
    rw [BitVec.toNat_and, ex, ey, hz]
    simp
  have := congrArg BitVec.toNat (BitVec.add_eq_or_of_and_eq_zero _ _ hb)
  rw [BitVec.toNat_add, BitVec.toNat_or, ex, ey, Nat.mod_eq_of_lt hn] at this
  exact this.symm
theorem field_bit (v f m j : Nat) (hv : v < 2 ^ m) (h : (v * 2 ^ f).testBit j = true) : f ≤ j ∧ j < f + m := by
  rw [Nat.testBit_mul_two_pow] at h
  simp only [Bool.and_eq_true, decide_eq_true_eq] at h
  refine ⟨h.1, ?_⟩
  refine Classical.byContradiction fun hn => ?_
  have := Nat.testBit_lt_two_pow (Nat.lt_of_lt_of_le hv (Nat.pow_le_pow_right (show 0 < 2 by decide) (show m ≤ j - f by omega)))
  rw [this] at h
  cases h.2
/-- Bits are laid where none are. -/
theorem set_field (x v f m : Nat) (hx : ∀ j, f ≤ j → j < f + m → x.testBit j = false) (hv : v < 2 ^ m) : x ||| v * 2 ^ f = x + v * 2 ^ f := by
  refine lay_in _ _ fun j ⟨h1, h2⟩ => ?_
  obtain ⟨h3, h4⟩ := field_bit v f m j hv h2
  rw [hx j h3 h4] at h1
  cases h1
theorem mask_bit (f m j : Nat) : ((2 ^ m - 1) * 2 ^ f).testBit j = decide (f ≤ j ∧ j < f + m) := by
  rw [Nat.testBit_mul_two_pow, Nat.testBit_two_pow_sub_one]
  rw [Bool.eq_iff_iff, Bool.and_eq_true, decide_eq_true_iff, decide_eq_true_iff, decide_eq_true_iff]
  omega
theorem clr_field (w f m : Nat) : clr w ((2 ^ m - 1) * 2 ^ f) = w - w / 2 ^ f % 2 ^ m * 2 ^ f := take_out w f m _ fun j => by rw [clr_bit, mask_bit]
theorem u64_range (x : Int) : 0 ≤ IntKind.u64.wrap x ∧ IntKind.u64.wrap x < 18446744073709551616 := by
  have : IntKind.u64.wrap x = x % 18446744073709551616 := by simp [IntKind.wrap, IntKind.bits, IntKind.signed]
  rw [this]; omega
/-- A word of another state. -/
def moveI (w st : Int) (b : Bool) : Int := w - w / 67108864 % 16 * 67108864 + (if b = true then 67108864 else 0) + st % 8 * 134217728
/-- As the program reckons it. -/
def moveP (w st c : Int) : Int := IntKind.u64.wrap (↑(BitVec.ofInt IntKind.u64.bits (IntKind.u64.wrap (↑(BitVec.ofInt IntKind.u64.bits (IntKind.u64.wrap (↑(BitVec.ofInt IntKind.u64.bits w &&& ~~~BitVec.ofInt IntKind.u64.bits (1006632960 : Int)).toNat : Int)) ||| BitVec.ofInt IntKind.u64.bits (IntKind.u64.wrap (c * (2 : Int) ^ min (Int.toNat (26 : Int)) IntKind.u64.bits))).toNat : Int)) ||| BitVec.ofInt IntKind.u64.bits (IntKind.u64.wrap (IntKind.u64.wrap (↑(BitVec.ofInt IntKind.u64.bits (IntKind.u64.wrap st) &&& BitVec.ofInt IntKind.u64.bits (7 : Int)).toNat : Int) * (2 : Int) ^ min (Int.toNat (27 : Int)) IntKind.u64.bits))).toNat : Int)
theorem moveP_is {w st : Int} (h0 : 0 ≤ w) (h1 : w < 18446744073709551616) (b : Bool) : moveP w st (if b = true then 1 else 0) = moveI w st b := by
  unfold moveP
  have q26 : (2 : Int) ^ min (Int.toNat (26 : Int)) IntKind.u64.bits = 67108864 := rfl
  have q27 : (2 : Int) ^ min (Int.toNat (27 : Int)) IntKind.u64.bits = 134217728 := rfl
  rw [q26, q27, p_clr h0 h1 (by decide) (by decide)]
  have ew : ∀ x : Int, IntKind.u64.wrap x = x % 18446744073709551616 := fun x => by simp [IntKind.wrap, IntKind.bits, IntKind.signed]
  have hst := u64_range st
  rw [p_and (x := IntKind.u64.wrap st) hst.1 hst.2 (by decide) (by decide)]
  have e7 : (IntKind.u64.wrap st).toNat &&& (7 : Int).toNat = (st % 8).toNat := by
    show (IntKind.u64.wrap st).toNat &&& (2 ^ 3 - 1) = _
    rw [Nat.and_two_pow_sub_one_eq_mod, ew]
    omega
  rw [e7]
  have em : clr w.toNat (1006632960 : Int).toNat = w.toNat - w.toNat / 2 ^ 26 % 2 ^ 4 * 2 ^ 26 := clr_field w.toNat 26 4
  have hc : ∀ j, 26 ≤ j → j < 30 → (clr w.toNat (1006632960 : Int).toNat).testBit j = false := fun j h2 h3 => by
    rw [clr_bit, show (1006632960 : Int).toNat = (2 ^ 4 - 1) * 2 ^ 26 from rfl, mask_bit, decide_eq_true ⟨h2, by omega⟩]; simp
  generalize hn : clr w.toNat (1006632960 : Int).toNat = n at *
  have hnl : n ≤ w.toNat := by rw [← hn]; exact clr_le _ _
  have hB : IntKind.u64.wrap ((if b = true then 1 else 0) * 67108864) = (((if b = true then 1 else 0) * 2 ^ 26 : Nat) : Int) := by cases b <;> rfl
  rw [hB]
  have hs1 : n ||| (if b = true then 1 else 0) * 2 ^ 26 = n + (if b = true then 1 else 0) * 2 ^ 26 := set_field n _ 26 1 (fun j h2 h3 => hc j h2 (by omega)) (by cases b <;> decide)
  have o1 := p_or (x := (n : Int)) (y := (((if b = true then 1 else 0) * 2 ^ 26 : Nat) : Int)) (by omega) (by omega) (by omega) (by cases b <;> decide)
  rw [o1]
  simp only [Int.toNat_natCast]
  have hs : IntKind.u64.wrap (((st % 8).toNat : Int) * 134217728) = (((st % 8).toNat * 2 ^ 27 : Nat) : Int) := by rw [ew]; omega
  rw [hs]
  have hx : ∀ j, 27 ≤ j → j < 30 → (n ||| (if b = true then 1 else 0) * 2 ^ 26).testBit j = false := fun j h2 h3 => by
    rw [Nat.testBit_or, hc j (by omega) h3, Bool.false_or]
    cases hq : ((if b = true then 1 else 0) * 2 ^ 26).testBit j with
    | false => rfl
    | true =>
      have := field_bit (if b = true then 1 else 0) 26 1 j (by cases b <;> decide) hq
      omega
  have hs2 := set_field (n ||| (if b = true then 1 else 0) * 2 ^ 26) (st % 8).toNat 27 3 hx (by omega)
  have hlt : n ||| (if b = true then 1 else 0) * 2 ^ 26 < 18446744073709551616 := Nat.or_lt_two_pow (n := 64) (by omega) (by cases b <;> decide)
  have o2 := p_or (x := ((n ||| (if b = true then 1 else 0) * 2 ^ 26 : Nat) : Int)) (y := (((st % 8).toNat * 2 ^ 27 : Nat) : Int)) (by omega) (by omega) (by omega) (by omega)
  rw [o2]
  simp only [Int.toNat_natCast]
  rw [hs2, hs1]
  unfold moveI
  cases b <;> simp only [Bool.false_eq_true, if_false, if_true] <;> omega
end Go.Proofs.YtifojacfedjedaaGreat.Bound
end

section
namespace Go.Proofs.YtifojacfedjedaaGreat.Bound
open Go.Proofs.YtifojacfedjedaaGreat.Ev
set_option linter.unusedVariables false
set_option linter.unusedSimpArgs false
def isPow (n : Nat) : Option Value → Bool
  | some (.int .u64 m) => m == (2 ^ n : Nat)
  | _ => false
theorem isPow_eq {n : Nat} {v : Option Value} (h : isPow n v = true) : v = some (.int .u64 ((2 ^ n : Nat) : Int)) := by
  unfold isPow at h
  split at h
  · rw [eq_of_beq h]
  · cases h
set_option maxRecDepth 100000 in
theorem pows : (List.range 41).all (fun n => isPow n (outV (ev noSums 100 68 [.int .i64 (n : Int)] ⟨.nil, 0⟩))) = true := by kernel_rfl
/-- A power of two, of a number that may be. -/
def pw (n : Int) : Int := ((2 ^ n.toNat : Nat) : Int)
def powS : List Value → Option (Bool × Value)
  | [.int .i64 n] => some (decide (0 ≤ n ∧ n ≤ 40), .int .u64 (pw n))
  | _ => none
theorem pow_is {n : Int} (h0 : 0 ≤ n) (h1 : n ≤ 40) : outV (ev noSums 100 68 [.int .i64 n] ⟨.nil, 0⟩) = some (.int .u64 (pw n)) := by
  obtain ⟨k, rfl⟩ := Int.eq_ofNat_of_zero_le h0
  exact isPow_eq (List.all_eq_true.1 pows k (List.mem_range.2 (by omega)))
noncomputable def sumsX : Sums := withIf sumsW 68 powS
theorem sumsX_ok : SumsOk sumsX := withIf_ok sumsW_ok noSums_ok 100 (by kernel_rfl) fun al v h => by
  unfold powS at h
  split at h
  · simp only [Option.some.injEq, Prod.mk.injEq, decide_eq_true_eq] at h
    obtain ⟨⟨h0, h1⟩, rfl⟩ := h
    exact ⟨rfl, rfl, pow_is h0 h1⟩
  · cases h
theorem pw_pos (n : Int) : 1 ≤ pw n := by
  have := Nat.one_le_two_pow (n := n.toNat)
  unfold pw
  omega
theorem pw_le {n : Int} (h : n ≤ 40) : pw n ≤ 1099511627776 := by
  unfold pw
  have : 2 ^ n.toNat ≤ 2 ^ 40 := Nat.pow_le_pow_right (by decide) (by omega)
  omega
/-- Whether a word is one. -/
def isW (w : Int) : Bool := decide (0 ≤ w ∧ w < 18446744073709551616)
def bitI (w n : Int) : Bool := w / pw n % 2 == 1
def putI (w n : Int) (b : Bool) : Int := w - w / pw n % 2 * pw n + bif b then pw n else 0
theorem div_facts {w p : Int} (h0 : 0 ≤ w) (hp : 1 ≤ p) : 0 ≤ w / p ∧ w / p ≤ w ∧ w / p % 2 * p ≤ w ∧ (w / p % 2 = 0 ∨ w / p % 2 = 1) := by
  have a := Int.ediv_nonneg h0 (show (0 : Int) ≤ p by omega)
  have b := Int.ediv_le_self p h0
  have c := Int.mul_ediv_self_le (x := w) (k := p) (by omega)
  refine ⟨a, b, ?_, by omega⟩
  have d : w / p % 2 ≤ w / p := by omega
  exact Int.le_trans (Int.mul_le_mul_of_nonneg_right d (by omega)) (by rw [Int.mul_comm]; exact c)
end Go.Proofs.YtifojacfedjedaaGreat.Bound
end

section
namespace Go.Proofs.YtifojacfedjedaaGreat.Bound
open Go.Proofs.YtifojacfedjedaaGreat.Ev
set_option linter.unusedVariables false
set_option linter.unusedSimpArgs false
theorem wrap_id {x : Int} (h0 : 0 ≤ x) (h1 : x < 18446744073709551616) : IntKind.u64.wrap x = x := by
  have : IntKind.u64.wrap x = x % 18446744073709551616 := by simp [IntKind.wrap, IntKind.bits, IntKind.signed]
  rw [this]; omega
theorem bit_way (w n : Int) : walkV (ev sumsX 60 131 [.int .u64 w, .int .i64 n] ⟨.nil, 0⟩) [true, false, false] =
    some ([(decide (0 ≤ n ∧ n ≤ 40), Value.int IntKind.u64 (pw n)).fst, decide (pw n = 0), false], .bool ((IntKind.u64.wrap (w.tdiv (pw n))).tmod 2 == 1)) := by kernel_rfl
theorem bit_eq {w n : Int} (h0 : 0 ≤ w) (h1 : w < 18446744073709551616) : ((IntKind.u64.wrap (w.tdiv (pw n))).tmod 2 == 1) = bitI w n := by
  have hp := pw_pos n
  obtain ⟨a, b, _, _⟩ := div_facts h0 hp
  rw [Int.tdiv_eq_ediv_of_nonneg h0, wrap_id a (by omega), Int.tmod_eq_emod_of_nonneg a]
  rfl
theorem bit_is {w n : Int} (h0 : 0 ≤ w) (h1 : w < 18446744073709551616) (h2 : 0 ≤ n) (h3 : n ≤ 40) : outV (ev sumsX 60 131 [.int .u64 w, .int .i64 n] ⟨.nil, 0⟩) = some (.bool (bitI w n)) := by
  have hp := pw_pos n
  have hne : ¬ pw n = 0 := by omega
  have := outV_walk (bit_way w n) (by rw [decide_eq_true ⟨h2, h3⟩, decide_eq_false hne])
  rw [this, bit_eq h0 h1]
def bitS : List Value → Option (Bool × Value)
  | [.int .u64 w, .int .i64 n] => some (isW w && decide (0 ≤ n ∧ n ≤ 40), .bool (bitI w n))
  | _ => none
theorem isW_iff {w : Int} : isW w = true ↔ 0 ≤ w ∧ w < 18446744073709551616 := by simp [isW]
noncomputable def sumsB1 : Sums := withIf sumsX 131 bitS
theorem sumsB1_ok : SumsOk sumsB1 := withIf_ok sumsX_ok sumsX_ok 60 (by kernel_rfl) fun al v h => by
  unfold bitS at h
  split at h
  · simp only [Option.some.injEq, Prod.mk.injEq, Bool.and_eq_true, decide_eq_true_eq, isW_iff] at h
    obtain ⟨⟨⟨h0, h1⟩, h2, h3⟩, rfl⟩ := h
    exact ⟨rfl, rfl, bit_is h0 h1 h2 h3⟩
  · cases h
theorem put_way_1 (w n : Int) (b : Bool) : walkV (ev sumsB1 60 80 [.int .u64 w, .int .i64 n, .bool b] ⟨.nil, 0⟩) [true, true] = some ([(isW w && decide (0 ≤ n ∧ n ≤ 40), Value.bool (bitI w n)).fst, bitI w n == b], .int .u64 w) := by kernel_rfl
theorem put_way_2 (w n : Int) (b : Bool) : walkV (ev sumsB1 60 80 [.int .u64 w, .int .i64 n, .bool b] ⟨.nil, 0⟩) [true, false, true, true] = some ([(isW w && decide (0 ≤ n ∧ n ≤ 40), Value.bool (bitI w n)).fst, bitI w n == b, b, (decide (0 ≤ n ∧ n ≤ 40), Value.int IntKind.u64 (pw n)).fst], .int .u64 (IntKind.u64.wrap (w + pw n))) := by kernel_rfl
theorem put_way_3 (w n : Int) (b : Bool) : walkV (ev sumsB1 60 80 [.int .u64 w, .int .i64 n, .bool b] ⟨.nil, 0⟩) [true, false, false, true] = some ([(isW w && decide (0 ≤ n ∧ n ≤ 40), Value.bool (bitI w n)).fst, bitI w n == b, b, (decide (0 ≤ n ∧ n ≤ 40), Value.int IntKind.u64 (pw n)).fst], .int .u64 (IntKind.u64.wrap (w - pw n))) := by kernel_rfl
/-- A word with a bit laid is a word. -/
theorem put_range {w n : Int} (h0 : 0 ≤ w) (h1 : w < 18446744073709551616) (h2 : 0 ≤ n) (h3 : n ≤ 40) (hb : bitI w n = false) : w + pw n < 18446744073709551616 := by
  -- the bit is not there: what is below it, it, and what is above
  have hp := pw_pos n
  unfold bitI at hb
  rw [beq_eq_false_iff_ne] at hb
  have e : ∃ q : Int, 18446744073709551616 = 2 * pw n * q := by
    refine ⟨((2 ^ (63 - n.toNat) : Nat) : Int), ?_⟩
    have : (2 : Nat) ^ 64 = 2 * 2 ^ n.toNat * 2 ^ (63 - n.toNat) := by
      rw [Nat.mul_assoc, ← Nat.pow_add, ← Nat.pow_succ']
      congr 1
      omega
    unfold pw
    have h : ((2 ^ 64 : Nat) : Int) = ((2 * 2 ^ n.toNat * 2 ^ (63 - n.toNat) : Nat) : Int) := congrArg _ this
    rw [Int.natCast_mul, Int.natCast_mul] at h
    exact h
  obtain ⟨q, e⟩ := e
  have d := Int.mul_ediv_add_emod w (pw n)
  have m0 := Int.emod_nonneg w (show pw n ≠ 0 by omega)
  have m1 := Int.emod_lt_of_pos w (show 0 < pw n by omega)
  generalize hx : w / pw n = x at *
  have hx2 : x % 2 = 0 := by omega
  obtain ⟨y, rfl⟩ : ∃ y, x = 2 * y := ⟨x / 2, by omega⟩
  have hy : y < q := by
    refine Int.lt_of_not_ge fun hge => ?_
    have := Int.mul_le_mul_of_nonneg_left hge (show (0 : Int) ≤ 2 * pw n by omega)
    have e2 : pw n * (2 * y) = 2 * pw n * y := by rw [← Int.mul_assoc, Int.mul_comm (pw n) 2]
    rw [e2] at d
    omega
  have := Int.mul_le_mul_of_nonneg_left (show y + 1 ≤ q by omega) (show (0 : Int) ≤ 2 * pw n by omega)
  rw [Int.mul_add] at this
  have e2 : pw n * (2 * y) = 2 * pw n * y := by rw [← Int.mul_assoc, Int.mul_comm (pw n) 2]
  rw [e2] at d
  omega
theorem put_word {w n : Int} (b : Bool) (h0 : 0 ≤ w) (h1 : w < 18446744073709551616) (h2 : 0 ≤ n) (h3 : n ≤ 40) : 0 ≤ putI w n b ∧ putI w n b < 18446744073709551616 := by
  have hp := pw_pos n
  obtain ⟨a1, a2, a3, a4⟩ := div_facts h0 hp
  unfold putI
  rcases a4 with e | e
  · have hb : bitI w n = false := by unfold bitI; rw [e]; rfl
    have hr := put_range h0 h1 h2 h3 hb
    rw [e]
    cases b <;> simp only [cond_true, cond_false, Int.zero_mul] <;> omega
  · rw [e] at a3 ⊢
    cases b <;> simp only [cond_true, cond_false, Int.one_mul] at a3 ⊢ <;> omega
theorem put_is {w n : Int} (b : Bool) (h0 : 0 ≤ w) (h1 : w < 18446744073709551616) (h2 : 0 ≤ n) (h3 : n ≤ 40) : outV (ev sumsB1 60 80 [.int .u64 w, .int .i64 n, .bool b] ⟨.nil, 0⟩) = some (.int .u64 (putI w n b)) := by
  have hp := pw_pos n
  obtain ⟨a1, a2, a3, a4⟩ := div_facts h0 hp
  have hw : isW w = true := isW_iff.2 ⟨h0, h1⟩
  have hg : decide (0 ≤ n ∧ n ≤ 40) = true := decide_eq_true ⟨h2, h3⟩
  cases hb : bitI w n == b with
  | true =>
    rw [outV_walk (put_way_1 w n b) (by rw [hw, hg, hb]; rfl)]
    have hb := eq_of_beq hb
    congr 2
    unfold putI
    unfold bitI at hb
    rcases a4 with e | e
    · rw [e] at hb ⊢
      subst hb
      show w = w - 0 * pw n + 0
      omega
    · rw [e] at hb ⊢
      subst hb
      show w = w - 1 * pw n + pw n
      omega
  | false =>
    cases b with
    | true =>
      have hf : bitI w n = false := by cases h : bitI w n <;> simp_all
      have hr := put_range h0 h1 h2 h3 hf
      rw [outV_walk (put_way_2 w n true) (by rw [hw, hg, hb]; rfl), wrap_id (by omega) hr]
      congr 2
      unfold putI
      have e : w / pw n % 2 = 0 := by unfold bitI at hf; rw [beq_eq_false_iff_ne] at hf; omega
      rw [e]
      show w + pw n = w - 0 * pw n + pw n
      omega
    | false =>
      have hf : bitI w n = true := by cases h : bitI w n <;> simp_all
      have e : w / pw n % 2 = 1 := by unfold bitI at hf; exact eq_of_beq hf
      rw [e] at a3
      rw [outV_walk (put_way_3 w n false) (by rw [hw, hg, hb]; rfl), wrap_id (by omega) (by omega)]
      congr 2
      unfold putI
      rw [e]
      show w - pw n = w - 1 * pw n + 0
      omega
def putS : List Value → Option (Bool × Value)
  | [.int .u64 w, .int .i64 n, .bool b] => some (isW w && decide (0 ≤ n ∧ n ≤ 40), .int .u64 (putI w n b))
  | _ => none
noncomputable def sumsB2 : Sums := withIf sumsB1 80 putS
theorem sumsB2_ok : SumsOk sumsB2 := withIf_ok sumsB1_ok sumsB1_ok 60 (by kernel_rfl) fun al v h => by
  unfold putS at h
  split at h
  · simp only [Option.some.injEq, Prod.mk.injEq, Bool.and_eq_true, decide_eq_true_eq, isW_iff] at h
    obtain ⟨⟨⟨h0, h1⟩, h2, h3⟩, rfl⟩ := h
    exact ⟨rfl, rfl, put_is _ h0 h1 h2 h3⟩
  · cases h
end Go.Proofs.YtifojacfedjedaaGreat.Bound
end

section
namespace Go.Proofs.YtifojacfedjedaaGreat.Bound
open Go.Proofs.YtifojacfedjedaaGreat.Ev
set_option linter.unusedVariables false
set_option linter.unusedSimpArgs false
theorem move_t (w st : Int) : outV (ev noSums 60 188 [.int .u64 w, .int .i64 st, .bool true] ⟨.nil, 0⟩) = some (.int .u64 (moveP w st 1)) := by kernel_rfl
theorem move_f (w st : Int) : outV (ev noSums 60 188 [.int .u64 w, .int .i64 st, .bool false] ⟨.nil, 0⟩) = some (.int .u64 (moveP w st 0)) := by kernel_rfl
def moveS : List Value → Option (Bool × Value)
  | [.int .u64 w, .int .i64 st, .bool b] => some (isW w, .int .u64 (moveI w st b))
  | _ => none
noncomputable def sumsD1 : Sums := withIf sumsB2 188 moveS
theorem sumsD1_ok : SumsOk sumsD1 := withIf_ok sumsB2_ok noSums_ok 60 (by kernel_rfl) fun al v h => by
  unfold moveS at h
  split at h
  · rename_i w st b
    simp only [Option.some.injEq, Prod.mk.injEq, isW_iff] at h
    obtain ⟨⟨h0, h1⟩, rfl⟩ := h
    refine ⟨rfl, rfl, ?_⟩
    have hm := moveP_is (st := st) h0 h1 b
    cases b with
    | true => rw [move_t, ← hm]; rfl
    | false => rw [move_f, ← hm]; rfl
  · cases h
theorem move_word {w st : Int} (b : Bool) (h0 : 0 ≤ w) (h1 : w < 18446744073709551616) : 0 ≤ moveI w st b := by
  unfold moveI
  cases b <;> simp only [Bool.false_eq_true, if_false, if_true] <;> omega
theorem rmove_way (w st : Int) (b : Bool) : walkV (ev sumsB2 60 101 [.int .u64 w, .int .i64 st, .bool b] ⟨.nil, 0⟩) [false, false, true, true, false, true, false, true, true] =
    some ([false, decide (st.tmod (8 : Int) < (0 : Int)), true, true, false, true, false, true, (isW (IntKind.u64.wrap (IntKind.u64.wrap (w - IntKind.u64.wrap (pw (27 : Int) * IntKind.u64.wrap (IntKind.i64.wrap ((IntKind.u64.wrap (w.tdiv (pw (27 : Int)))).tmod (pw (3 : Int)))))) + IntKind.u64.wrap (pw (27 : Int) * IntKind.u64.wrap (st.tmod (8 : Int))))) && decide ((0 : Int) ≤ (26 : Int) ∧ (26 : Int) ≤ (40 : Int)), Value.int IntKind.u64 (putI (IntKind.u64.wrap (IntKind.u64.wrap (w - IntKind.u64.wrap (pw (27 : Int) * IntKind.u64.wrap (IntKind.i64.wrap ((IntKind.u64.wrap (w.tdiv (pw (27 : Int)))).tmod (pw (3 : Int)))))) + IntKind.u64.wrap (pw (27 : Int) * IntKind.u64.wrap (st.tmod (8 : Int))))) (26 : Int) b)).fst], .int .u64 (putI (IntKind.u64.wrap (IntKind.u64.wrap (w - IntKind.u64.wrap (pw (27 : Int) * IntKind.u64.wrap (IntKind.i64.wrap ((IntKind.u64.wrap (w.tdiv (pw (27 : Int)))).tmod (pw (3 : Int)))))) + IntKind.u64.wrap (pw (27 : Int) * IntKind.u64.wrap (st.tmod (8 : Int))))) (26 : Int) b)) := by kernel_rfl
theorem rmove_x {w st : Int} (h0 : 0 ≤ w) (h1 : w < 18446744073709551616) (h2 : 0 ≤ st) (h3 : st ≤ 7) : (IntKind.u64.wrap (IntKind.u64.wrap (w - IntKind.u64.wrap (pw (27 : Int) * IntKind.u64.wrap (IntKind.i64.wrap ((IntKind.u64.wrap (w.tdiv (pw (27 : Int)))).tmod (pw (3 : Int)))))) + IntKind.u64.wrap (pw (27 : Int) * IntKind.u64.wrap (st.tmod (8 : Int))))) = w - w / 134217728 % 8 * 134217728 + st * 134217728 := by
  have p27 : pw 27 = 134217728 := rfl
  have p3 : pw 3 = 8 := rfl
  rw [p27, p3, Int.tdiv_eq_ediv_of_nonneg h0, wrap_id (x := w / 134217728) (by omega) (by omega), Int.tmod_eq_emod_of_nonneg (show 0 ≤ w / 134217728 by omega), Int.tmod_eq_emod_of_nonneg h2, IntKind.wrap_i64]
  have e1 : (w / 134217728 % 8 + 9223372036854775808) % 18446744073709551616 - 9223372036854775808 = w / 134217728 % 8 := by omega
  have e2 : st % 8 = st := by omega
  rw [e1, e2, wrap_id (x := w / 134217728 % 8) (by omega) (by omega), wrap_id (x := st) (by omega) (by omega), wrap_id (x := 134217728 * (w / 134217728 % 8)) (by omega) (by omega), wrap_id (x := 134217728 * st) (by omega) (by omega), wrap_id (x := w - 134217728 * (w / 134217728 % 8)) (by omega) (by omega), wrap_id (by omega) (by omega)]
  omega
theorem rmove_is {w st : Int} (b : Bool) (h0 : 0 ≤ w) (h1 : w < 18446744073709551616) (h2 : 0 ≤ st) (h3 : st ≤ 7) : outV (ev sumsB2 60 101 [.int .u64 w, .int .i64 st, .bool b] ⟨.nil, 0⟩) = some (.int .u64 (moveI w st b)) := by
  have hx := rmove_x h0 h1 h2 h3
  have hneg : ¬ st.tmod 8 < 0 := by rw [Int.tmod_eq_emod_of_nonneg h2]; omega
  have hw : isW (w - w / 134217728 % 8 * 134217728 + st * 134217728) = true := isW_iff.2 (by omega)
  rw [outV_walk (rmove_way w st b) (by rw [hx, hw, decide_eq_false hneg]; rfl), hx]
  congr 2
  unfold putI moveI
  have p26 : pw 26 = 67108864 := rfl
  rw [p26]
  cases b <;> simp only [cond_true, cond_false, Bool.false_eq_true, if_false, if_true] <;> omega
def rmoveS : List Value → Option (Bool × Value)
  | [.int .u64 w, .int .i64 st, .bool b] => some (isW w && decide (0 ≤ st ∧ st ≤ 7), .int .u64 (moveI w st b))
  | _ => none
noncomputable def sumsD2 : Sums := withIf sumsD1 101 rmoveS
theorem sumsD2_ok : SumsOk sumsD2 := withIf_ok sumsD1_ok sumsB2_ok 60 (by kernel_rfl) fun al v h => by
  unfold rmoveS at h
  split at h
  · simp only [Option.some.injEq, Prod.mk.injEq, Bool.and_eq_true, decide_eq_true_eq, isW_iff] at h
    obtain ⟨⟨⟨h0, h1⟩, h2, h3⟩, rfl⟩ := h
    exact ⟨rfl, rfl, rmove_is _ h0 h1 h2 h3⟩
  · cases h
end Go.Proofs.YtifojacfedjedaaGreat.Bound
end

section
namespace Go.Proofs.YtifojacfedjedaaGreat.Bound
open Go.Proofs.YtifojacfedjedaaGreat.Ev
set_option linter.unusedVariables false
set_option linter.unusedSimpArgs false
theorem clr_pow {w n : Int} (h0 : 0 ≤ w) : ((clr w.toNat (2 ^ n.toNat) : Nat) : Int) = putI w n false := by
  have h : clr w.toNat (2 ^ n.toNat) = w.toNat - w.toNat / 2 ^ n.toNat % 2 ^ 1 * 2 ^ n.toNat := take_out _ _ 1 _ fun j => by
    rw [clr_bit, Nat.testBit_two_pow]
    congr 2
    rw [decide_eq_decide]
    omega
  have hp := pw_pos n
  obtain ⟨_, _, a3, _⟩ := div_facts h0 hp
  rw [h]
  unfold putI
  simp only [cond_false]
  unfold pw at *
  obtain ⟨v, rfl⟩ := Int.eq_ofNat_of_zero_le h0
  simp only [Int.toNat_natCast, Nat.pow_one]
  generalize 2 ^ n.toNat = p at *
  have e : ((v / p % 2 * p : Nat) : Int) = (v : Int) / p % 2 * p := by simp
  rw [← e] at a3 ⊢
  omega
theorem clr_or (w a b : Nat) : clr w (a ||| b) = clr (clr w a) b := by
  apply Nat.eq_of_testBit_eq
  intro j
  rw [clr_bit, clr_bit, clr_bit, Nat.testBit_or]
  cases w.testBit j <;> cases a.testBit j <;> cases b.testBit j <;> rfl
/-- A word without a slot's marks. -/
def dropM (w sl : Int) : Int := putI (putI w sl false) (12 + sl) false
theorem mdrop_way (w sl : Int) : walkV (ev sumsD2 60 302 [.int .u64 w, .int .i64 sl] ⟨.nil, 0⟩) [false, false, false, false, false, false, false, false, false, false, true, true, false, false, false, false, false, false, false] =
    some ([false, false, false, false, false, bif false then true else decide (sl < (0 : Int)), false, bif false then true else decide (sl ≥ (12 : Int)), decide (sl < (0 : Int)), false, true, true, false, false, bif false then true else decide (sl < (0 : Int)), false, bif false then true else decide (sl ≥ (12 : Int)), decide (sl < (0 : Int)), false], .int .u64 (IntKind.u64.wrap (↑(BitVec.ofInt IntKind.u64.bits w &&& ~~~BitVec.ofInt IntKind.u64.bits (IntKind.u64.wrap (↑(BitVec.ofInt IntKind.u64.bits (IntKind.u64.wrap (IntKind.u64.wrap ((1 : Int) * (2 : Int) ^ min sl.toNat IntKind.u64.bits) * (2 : Int) ^ min (IntKind.i64.wrap ((0 : Int) * (12 : Int))).toNat IntKind.u64.bits)) ||| BitVec.ofInt IntKind.u64.bits (IntKind.u64.wrap (IntKind.u64.wrap ((1 : Int) * (2 : Int) ^ min sl.toNat IntKind.u64.bits) * (2 : Int) ^ min (IntKind.i64.wrap ((1 : Int) * (12 : Int))).toNat IntKind.u64.bits))).toNat : Int))).toNat : Int))) := by kernel_rfl
theorem rdrop_way (w sl : Int) : walkV (ev sumsD2 60 171 [.int .u64 w, .int .i64 sl] ⟨.nil, 0⟩) [false, false, false, false, false, false, false, false, false, false, false, false, false, false, false, true, false, false, false, false, false, false, false, true] =
    some ([false, false, false, false, bif false then true else decide (sl < (0 : Int)), false, bif false then true else decide (sl > (11 : Int)), decide (IntKind.i64.wrap (IntKind.i64.wrap ((12 : Int) * (0 : Int)) + sl) < (0 : Int)), false, false, false, false, bif false then true else decide (sl < (0 : Int)), false, bif false then true else decide (sl > (11 : Int)), (isW w && decide ((0 : Int) ≤ IntKind.i64.wrap (IntKind.i64.wrap ((12 : Int) * (0 : Int)) + sl) ∧ IntKind.i64.wrap (IntKind.i64.wrap ((12 : Int) * (0 : Int)) + sl) ≤ (40 : Int)), Value.int IntKind.u64 (putI w (IntKind.i64.wrap (IntKind.i64.wrap ((12 : Int) * (0 : Int)) + sl)) false)).fst, false, false, false, false, bif false then true else decide (sl < (0 : Int)), false, bif false then true else decide (sl > (11 : Int)), (isW (putI w (IntKind.i64.wrap (IntKind.i64.wrap ((12 : Int) * (0 : Int)) + sl)) false) && decide ((0 : Int) ≤ IntKind.i64.wrap (IntKind.i64.wrap ((12 : Int) * (1 : Int)) + sl) ∧ IntKind.i64.wrap (IntKind.i64.wrap ((12 : Int) * (1 : Int)) + sl) ≤ (40 : Int)), Value.int IntKind.u64 (putI (putI w (IntKind.i64.wrap (IntKind.i64.wrap ((12 : Int) * (0 : Int)) + sl)) false) (IntKind.i64.wrap (IntKind.i64.wrap ((12 : Int) * (1 : Int)) + sl)) false)).fst], .int .u64 (putI (putI w (IntKind.i64.wrap (IntKind.i64.wrap ((12 : Int) * (0 : Int)) + sl)) false) (IntKind.i64.wrap (IntKind.i64.wrap ((12 : Int) * (1 : Int)) + sl)) false)) := by kernel_rfl
theorem slots {P : Int → Prop} {sl : Int} (h0 : 0 ≤ sl) (h1 : sl ≤ 11) (h : ∀ n : Nat, n < 12 → P n) : P sl := by
  obtain ⟨n, rfl⟩ := Int.eq_ofNat_of_zero_le h0
  exact h n (by omega)
theorem bit_a {sl : Int} (h0 : 0 ≤ sl) (h1 : sl ≤ 11) : (IntKind.u64.wrap (IntKind.u64.wrap ((1 : Int) * (2 : Int) ^ min sl.toNat IntKind.u64.bits) * (2 : Int) ^ min (IntKind.i64.wrap ((0 : Int) * (12 : Int))).toNat IntKind.u64.bits)) = ((2 ^ sl.toNat : Nat) : Int) := by
  refine slots (P := fun sl => (IntKind.u64.wrap (IntKind.u64.wrap ((1 : Int) * (2 : Int) ^ min sl.toNat IntKind.u64.bits) * (2 : Int) ^ min (IntKind.i64.wrap ((0 : Int) * (12 : Int))).toNat IntKind.u64.bits)) = ((2 ^ sl.toNat : Nat) : Int)) h0 h1 fun n hn => ?_
  match n, hn with
  | 0, _ | 1, _ | 2, _ | 3, _ | 4, _ | 5, _ | 6, _ | 7, _ | 8, _ | 9, _ | 10, _ | 11, _ => rfl
theorem bit_b {sl : Int} (h0 : 0 ≤ sl) (h1 : sl ≤ 11) : (IntKind.u64.wrap (IntKind.u64.wrap ((1 : Int) * (2 : Int) ^ min sl.toNat IntKind.u64.bits) * (2 : Int) ^ min (IntKind.i64.wrap ((1 : Int) * (12 : Int))).toNat IntKind.u64.bits)) = ((2 ^ (12 + sl).toNat : Nat) : Int) := by
  refine slots (P := fun sl => (IntKind.u64.wrap (IntKind.u64.wrap ((1 : Int) * (2 : Int) ^ min sl.toNat IntKind.u64.bits) * (2 : Int) ^ min (IntKind.i64.wrap ((1 : Int) * (12 : Int))).toNat IntKind.u64.bits)) = ((2 ^ (12 + sl).toNat : Nat) : Int)) h0 h1 fun n hn => ?_
  match n, hn with
  | 0, _ | 1, _ | 2, _ | 3, _ | 4, _ | 5, _ | 6, _ | 7, _ | 8, _ | 9, _ | 10, _ | 11, _ => rfl
theorem mdrop_is {w sl : Int} (h0 : 0 ≤ w) (h1 : w < 18446744073709551616) (h2 : 0 ≤ sl) (h3 : sl ≤ 11) : outV (ev sumsD2 60 302 [.int .u64 w, .int .i64 sl] ⟨.nil, 0⟩) = some (.int .u64 (dropM w sl)) := by
  have c1 : decide (sl < 0) = false := decide_eq_false (by omega)
  have c2 : decide (sl ≥ 12) = false := decide_eq_false (by omega)
  rw [outV_walk (mdrop_way w sl) (by simp only [c1, c2, cond_false])]
  rw [bit_a h2 h3, bit_b h2 h3]
  have la : 2 ^ sl.toNat ≤ 2 ^ 23 := Nat.pow_le_pow_right (by decide) (by omega)
  have lb : 2 ^ (12 + sl).toNat ≤ 2 ^ 23 := Nat.pow_le_pow_right (by decide) (by omega)
  have o1 := p_or (x := ((2 ^ sl.toNat : Nat) : Int)) (y := ((2 ^ (12 + sl).toNat : Nat) : Int)) (Int.natCast_nonneg _) (by omega) (Int.natCast_nonneg _) (by omega)
  rw [o1]
  have l3 : 2 ^ sl.toNat ||| 2 ^ (12 + sl).toNat < 2 ^ 24 := Nat.or_lt_two_pow (by omega) (by omega)
  simp only [Int.toNat_natCast]
  have o2 := p_clr (x := w) (y := ((2 ^ sl.toNat ||| 2 ^ (12 + sl).toNat : Nat) : Int)) h0 h1 (by omega) (by omega)
  rw [o2, Int.toNat_natCast, clr_or]
  have e1 := clr_pow (w := w) (n := sl) h0
  obtain ⟨q0, q1⟩ := put_word (n := sl) false h0 h1 h2 (by omega)
  have e2 := clr_pow (w := putI w sl false) (n := 12 + sl) q0
  rw [← e1, Int.toNat_natCast] at e2
  rw [e2, e1]
  rfl
theorem rdrop_is {w sl : Int} (h0 : 0 ≤ w) (h1 : w < 18446744073709551616) (h2 : 0 ≤ sl) (h3 : sl ≤ 11) : outV (ev sumsD2 60 171 [.int .u64 w, .int .i64 sl] ⟨.nil, 0⟩) = some (.int .u64 (dropM w sl)) := by
  have c1 : decide (sl < 0) = false := decide_eq_false (by omega)
  have c2 : decide (sl > 11) = false := decide_eq_false (by omega)
  have ea : IntKind.i64.wrap (IntKind.i64.wrap ((12 : Int) * (0 : Int)) + sl) = sl := by rw [IntKind.wrap_i64, IntKind.wrap_i64]; omega
  have eb : IntKind.i64.wrap (IntKind.i64.wrap ((12 : Int) * (1 : Int)) + sl) = 12 + sl := by rw [IntKind.wrap_i64, IntKind.wrap_i64]; omega
  obtain ⟨q0, q1⟩ := put_word (n := sl) false h0 h1 h2 (by omega)
  have w1 : isW w = true := isW_iff.2 ⟨h0, h1⟩
  have w2 : isW (putI w sl false) = true := isW_iff.2 ⟨q0, q1⟩
  have g1 : decide (0 ≤ sl ∧ sl ≤ 40) = true := decide_eq_true (by omega)
  have g2 : decide (0 ≤ 12 + sl ∧ 12 + sl ≤ 40) = true := decide_eq_true (by omega)
  rw [outV_walk (rdrop_way w sl) (by rw [ea, eb]; simp only [c1, c2, cond_false, w1, w2, g1, g2, Bool.and_self]), ea, eb]
  rfl
def dropS : List Value → Option (Bool × Value)
  | [.int .u64 w, .int .i64 sl] => some (isW w && decide (0 ≤ sl ∧ sl ≤ 11), .int .u64 (dropM w sl))
  | _ => none
theorem dropS_ok {sums : Sums} {f : Nat} (hs : SumsOk sums) (hf : (fns f).isSome = true) (h : ∀ w sl : Int, 0 ≤ w → w < 18446744073709551616 → 0 ≤ sl → sl ≤ 11 → outV (ev sumsD2 60 f [.int .u64 w, .int .i64 sl] ⟨.nil, 0⟩) = some (.int .u64 (dropM w sl))) : SumsOk (withIf sums f dropS) := withIf_ok hs sumsD2_ok 60 hf fun al v hv => by
  unfold dropS at hv
  split at hv
  · simp only [Option.some.injEq, Prod.mk.injEq, Bool.and_eq_true, decide_eq_true_eq, isW_iff] at hv
    obtain ⟨⟨⟨h0, h1⟩, h2, h3⟩, rfl⟩ := hv
    exact ⟨rfl, rfl, h _ _ h0 h1 h2 h3⟩
  · cases hv
noncomputable def sumsD3 : Sums := withIf (withIf sumsD2 302 dropS) 171 dropS
theorem sumsD3_ok : SumsOk sumsD3 := dropS_ok (dropS_ok sumsD2_ok (by kernel_rfl) fun w sl a b c d => mdrop_is a b c d) (by kernel_rfl) fun w sl a b c d => rdrop_is a b c d
end Go.Proofs.YtifojacfedjedaaGreat.Bound
end

section
namespace Go.Proofs.YtifojacfedjedaaGreat.Bound
open Go.Proofs.YtifojacfedjedaaGreat.Ev
set_option linter.unusedVariables false
set_option linter.unusedSimpArgs false
theorem of_way (sd sl : Int) : walkV (ev sumsD3 60 320 [.int .i64 sd, .int .i64 sl] ⟨.nil, 0⟩) [false, false, false, false, false, false, false, false] =
    some ([decide (sd < (0 : Int)), false, bif false then true else decide (sd > (1 : Int)), false, bif false then true else decide (sl < (0 : Int)), false, bif false then true else decide (sl ≥ (12 : Int)), decide (IntKind.i64.wrap (IntKind.i64.wrap (sd * (12 : Int)) + sl) < (0 : Int))], .int .u64 (IntKind.u64.wrap ((1 : Int) * (2 : Int) ^ min (IntKind.i64.wrap (IntKind.i64.wrap (sd * (12 : Int)) + sl)).toNat IntKind.u64.bits))) := by kernel_rfl
theorem at_way (sd sl : Int) : walkV (ev sumsD3 60 208 [.int .i64 sd, .int .i64 sl] ⟨.nil, 0⟩) [false, false, false, false, false, false, false] =
    some ([decide (sd < (0 : Int)), false, bif false then true else decide (sd > (1 : Int)), false, bif false then true else decide (sl < (0 : Int)), false, bif false then true else decide (sl > (11 : Int))], .int .i64 (IntKind.i64.wrap (IntKind.i64.wrap ((12 : Int) * sd) + sl))) := by kernel_rfl
theorem shl_pw {n : Int} (h0 : 0 ≤ n) (h1 : n ≤ 40) : IntKind.u64.wrap ((1 : Int) * (2 : Int) ^ min n.toNat IntKind.u64.bits) = pw n := by
  have hl := pw_le h1
  have hp := pw_pos n
  have e : min n.toNat IntKind.u64.bits = n.toNat := by
    have : IntKind.u64.bits = 64 := rfl
    omega
  rw [e, Int.one_mul]
  have e2 : (2 : Int) ^ n.toNat = pw n := by unfold pw; rw [Int.natCast_pow]; rfl
  rw [e2]
  exact wrap_id (by omega) (by omega)
/-- Is there such a side, and such a slot? -/
def sideOk (sd sl : Int) : Bool := decide (0 ≤ sd ∧ sd ≤ 1 ∧ 0 ≤ sl ∧ sl ≤ 11)
def ofS : List Value → Option (Bool × Value)
  | [.int .i64 sd, .int .i64 sl] => some (sideOk sd sl, .int .u64 (pw (12 * sd + sl)))
  | _ => none
def atS : List Value → Option (Bool × Value)
  | [.int .i64 sd, .int .i64 sl] => some (sideOk sd sl, .int .i64 (12 * sd + sl))
  | _ => none
noncomputable def sumsE1 : Sums := withIf (withIf sumsD3 320 ofS) 208 atS
theorem sumsE1_ok : SumsOk sumsE1 := by
  refine withIf_ok (withIf_ok sumsD3_ok sumsD3_ok 60 (by kernel_rfl) fun al v h => ?_) sumsD3_ok 60 (by kernel_rfl) fun al v h => ?_
  · unfold ofS at h
    split at h
    · rename_i sd sl
      simp only [Option.some.injEq, Prod.mk.injEq, sideOk, decide_eq_true_eq] at h
      obtain ⟨⟨a1, a2, a3, a4⟩, rfl⟩ := h
      refine ⟨rfl, rfl, ?_⟩
      have e1 : IntKind.i64.wrap (IntKind.i64.wrap (sd * 12) + sl) = 12 * sd + sl := by rw [IntKind.wrap_i64, IntKind.wrap_i64]; omega
      have c1 : decide (sd < 0) = false := decide_eq_false (by omega)
      have c2 : decide (sd > 1) = false := decide_eq_false (by omega)
      have c3 : decide (sl < 0) = false := decide_eq_false (by omega)
      have c4 : decide (sl ≥ 12) = false := decide_eq_false (by omega)
      have c5 : decide (12 * sd + sl < 0) = false := decide_eq_false (by omega)
      rw [outV_walk (of_way sd sl) (by rw [e1]; simp only [c1, c2, c3, c4, c5, cond_false]), e1, shl_pw (by omega) (by omega)]
    · cases h
  · unfold atS at h
    split at h
    · rename_i sd sl
      simp only [Option.some.injEq, Prod.mk.injEq, sideOk, decide_eq_true_eq] at h
      obtain ⟨⟨a1, a2, a3, a4⟩, rfl⟩ := h
      refine ⟨rfl, rfl, ?_⟩
      have e1 : IntKind.i64.wrap (IntKind.i64.wrap (12 * sd) + sl) = 12 * sd + sl := by rw [IntKind.wrap_i64, IntKind.wrap_i64]; omega
      have c1 : decide (sd < 0) = false := decide_eq_false (by omega)
      have c2 : decide (sd > 1) = false := decide_eq_false (by omega)
      have c3 : decide (sl < 0) = false := decide_eq_false (by omega)
      have c4 : decide (sl > 11) = false := decide_eq_false (by omega)
      rw [outV_walk (at_way sd sl) (by simp only [c1, c2, c3, c4, cond_false]), e1]
    · cases h
theorem phas (w sd sl : Int) : walkV (ev sumsE1 60 313 [.int .u64 w, .int .i64 sd, .int .i64 sl] ⟨.nil, 0⟩) [true] =
    some ([sideOk sd sl], .bool (IntKind.u64.wrap (↑(BitVec.ofInt IntKind.u64.bits w &&& BitVec.ofInt IntKind.u64.bits (pw (12 * sd + sl))).toNat) != 0)) := by kernel_rfl
theorem and_bit {w n : Int} (h0 : 0 ≤ w) (h1 : w < 18446744073709551616) (h2 : n ≤ 40) : (IntKind.u64.wrap (↑(BitVec.ofInt IntKind.u64.bits w &&& BitVec.ofInt IntKind.u64.bits (pw n)).toNat) != 0) = bitI w n := by
  have hl := pw_le h2
  have hp := pw_pos n
  rw [p_and h0 h1 (by omega) (by omega)]
  have e : (pw n).toNat = 2 ^ n.toNat := by unfold pw; rw [Int.toNat_natCast]
  rw [e]
  obtain ⟨v, rfl⟩ := Int.eq_ofNat_of_zero_le h0
  simp only [Int.toNat_natCast]
  have hb : bitI (v : Int) n = v.testBit n.toNat := by
    unfold bitI pw
    rw [Nat.testBit_eq_decide_div_mod_eq]
    have : (v : Int) / ((2 ^ n.toNat : Nat) : Int) % 2 = ((v / 2 ^ n.toNat % 2 : Nat) : Int) := by simp
    rw [this]
    generalize v / 2 ^ n.toNat % 2 = q
    by_cases hq : q = 1
    · subst hq; rfl
    · have : ¬ (q : Int) = 1 := by omega
      simp [hq, this]
  rw [hb]
  cases ht : v.testBit n.toNat with
  | true =>
    rw [bne_iff_ne]
    intro h0
    have : (v &&& 2 ^ n.toNat).testBit n.toNat = true := by rw [Nat.testBit_and, ht, Nat.testBit_two_pow_self]; rfl
    have hz : v &&& 2 ^ n.toNat = 0 := by omega
    rw [hz, Nat.zero_testBit] at this
    cases this
  | false =>
    have hz : v &&& 2 ^ n.toNat = 0 := by
      apply Nat.eq_of_testBit_eq
      intro j
      rw [Nat.testBit_and, Nat.testBit_two_pow, Nat.zero_testBit]
      by_cases hj : n.toNat = j
      · subst hj; rw [ht]; rfl
      · rw [decide_eq_false hj, Bool.and_false]
    rw [hz]; rfl
def hasS : List Value → Option (Bool × Value)
  | [.int .u64 w, .int .i64 sd, .int .i64 sl] => some (isW w && sideOk sd sl, .bool (bitI w (12 * sd + sl)))
  | _ => none
theorem rhas (w sd sl : Int) : walkV (ev sumsE1 60 209 [.int .u64 w, .int .i64 sd, .int .i64 sl] ⟨.nil, 0⟩) [true, true, true, true, true, true, true, true] =
    some ([sideOk sd sl, decide ((12 : Int) * sd + sl ≥ (0 : Int)), true, true, true, sideOk sd sl, true, isW w && decide ((0 : Int) ≤ (12 : Int) * sd + sl ∧ (12 : Int) * sd + sl ≤ (40 : Int))], .bool (bif true then bitI w ((12 : Int) * sd + sl) else false)) := by kernel_rfl
noncomputable def sumsE2 : Sums := withIf (withIf sumsE1 313 hasS) 209 hasS
theorem sumsE2_ok : SumsOk sumsE2 := by
  refine withIf_ok (withIf_ok sumsE1_ok sumsE1_ok 60 (by kernel_rfl) fun al v h => ?_) sumsE1_ok 60 (by kernel_rfl) fun al v h => ?_
  all_goals
    unfold hasS at h
    split at h
    case h_2 => cases h
    rename_i w sd sl
    simp only [Option.some.injEq, Prod.mk.injEq, Bool.and_eq_true, isW_iff] at h
    obtain ⟨⟨⟨h0, h1⟩, hs⟩, rfl⟩ := h
    have hs' := hs
    simp only [sideOk, decide_eq_true_eq] at hs'
    obtain ⟨a1, a2, a3, a4⟩ := hs'
    refine ⟨rfl, rfl, ?_⟩
  · rw [outV_walk (phas w sd sl) (by rw [hs]), and_bit h0 h1 (by omega)]
  · have hw : isW w = true := isW_iff.2 ⟨h0, h1⟩
    have c1 : decide (12 * sd + sl ≥ 0) = true := decide_eq_true (by omega)
    have c2 : decide (0 ≤ 12 * sd + sl ∧ 12 * sd + sl ≤ 40) = true := decide_eq_true (by omega)
    exact outV_walk (rhas w sd sl) (by simp only [hs, c1, c2, hw, Bool.and_self])
end Go.Proofs.YtifojacfedjedaaGreat.Bound
end

section
namespace Go.Proofs.YtifojacfedjedaaGreat.Bound
open Go.Proofs.YtifojacfedjedaaGreat.Ev
set_option linter.unusedVariables false
set_option linter.unusedSimpArgs false
theorem or_pow {w n : Int} (h0 : 0 ≤ w) : ((w.toNat ||| 2 ^ n.toNat : Nat) : Int) = putI w n true := by
  have hc := clr_pow (w := w) (n := n) h0
  have e : w.toNat ||| 2 ^ n.toNat = clr w.toNat (2 ^ n.toNat) + 2 ^ n.toNat := by
    rw [← lay_in]
    · apply Nat.eq_of_testBit_eq
      intro j
      rw [Nat.testBit_or, Nat.testBit_or, clr_bit]
      cases w.toNat.testBit j <;> cases (2 ^ n.toNat).testBit j <;> rfl
    · intro j h
      rw [clr_bit] at h
      obtain ⟨h1, h2⟩ := h
      rw [h2] at h1
      simp at h1
  rw [e, Int.natCast_add, hc]
  unfold putI pw
  simp only [cond_true, cond_false]
  omega
theorem pw_nat (n : Int) : (pw n).toNat = 2 ^ n.toNat := by unfold pw; rw [Int.toNat_natCast]
theorem clrP {w n : Int} (h0 : 0 ≤ w) (h1 : w < 18446744073709551616) (h2 : n ≤ 40) : IntKind.u64.wrap (↑(BitVec.ofInt IntKind.u64.bits w &&& ~~~BitVec.ofInt IntKind.u64.bits (pw n)).toNat) = putI w n false := by
  have hl := pw_le h2
  have hp := pw_pos n
  rw [p_clr h0 h1 (by omega) (by omega), pw_nat, clr_pow h0]
theorem orP {w n : Int} (h0 : 0 ≤ w) (h1 : w < 18446744073709551616) (h2 : n ≤ 40) : IntKind.u64.wrap (↑(BitVec.ofInt IntKind.u64.bits w ||| BitVec.ofInt IntKind.u64.bits (pw n)).toNat) = putI w n true := by
  have hl := pw_le h2
  have hp := pw_pos n
  rw [p_or h0 h1 (by omega) (by omega), pw_nat, or_pow h0]
theorem or_no {w k : Int} (h0 : 0 ≤ w) (h1 : w < 18446744073709551616) : IntKind.u64.wrap (↑(BitVec.ofInt IntKind.u64.bits w ||| BitVec.ofInt IntKind.u64.bits (IntKind.u64.wrap ((0 : Int) * k))).toNat) = w := by
  have e : IntKind.u64.wrap ((0 : Int) * k) = 0 := by rw [Int.zero_mul]; rfl
  rw [e, p_or h0 h1 (by omega) (by omega)]
  show ((w.toNat ||| 0 : Nat) : Int) = w
  rw [Nat.or_zero]
  omega
/-- A side without a slot; that it was there, if that is to be known. -/
def sideD (w out sd sl : Int) (g : Bool) : Int := bif bitI w (12 * sd + sl) then (bif g then putI (putI out (12 * sd + sl) false) (24 + sd) true else putI out (12 * sd + sl) false) else out
def dropW (w sl : Int) (g : Bool) : Int := sideD w (sideD w w 0 sl g) 1 sl g
theorem bool_two (b : Bool) : b = true ∨ b = false := by cases b <;> simp
theorem sideD_word {w out sd sl : Int} {g : Bool} (h0 : 0 ≤ out) (h1 : out < 18446744073709551616) (h2 : sideOk sd sl = true) : 0 ≤ sideD w out sd sl g ∧ sideD w out sd sl g < 18446744073709551616 := by
  simp only [sideOk, decide_eq_true_eq] at h2
  obtain ⟨q0, q1⟩ := put_word (n := 12 * sd + sl) false h0 h1 (by omega) (by omega)
  unfold sideD
  cases bitI w (12 * sd + sl) <;> cases g <;> simp only [cond_true, cond_false]
  · exact ⟨h0, h1⟩
  · exact ⟨h0, h1⟩
  · exact ⟨q0, q1⟩
  · exact put_word (n := 24 + sd) true q0 q1 (by omega) (by omega)

theorem pdrop_way_1 (w sl : Int) (g : Bool) : walkV (ev sumsE2 60 318 [.int .u64 w, .int .i64 sl, .bool g] ⟨.nil, 0⟩) [true, true, true, true, true, true, false, true, true, true, true, true, true, false, false] =
    some ([true, true, (isW w && sideOk (0 : Int) sl), bitI w ((12 : Int) * (0 : Int) + sl), (sideOk (0 : Int) sl), g, false, true, true, (isW w && sideOk (1 : Int) sl), bitI w ((12 : Int) * (1 : Int) + sl), (sideOk (1 : Int) sl), g, false, false], .int .u64 (IntKind.u64.wrap (↑(BitVec.ofInt IntKind.u64.bits (IntKind.u64.wrap (↑(BitVec.ofInt IntKind.u64.bits (IntKind.u64.wrap (↑(BitVec.ofInt IntKind.u64.bits (IntKind.u64.wrap (↑(BitVec.ofInt IntKind.u64.bits w &&& ~~~BitVec.ofInt IntKind.u64.bits (pw ((12 : Int) * (0 : Int) + sl))).toNat : Int)) ||| BitVec.ofInt IntKind.u64.bits (IntKind.u64.wrap ((1 : Int) * (2 : Int) ^ min (IntKind.i64.wrap ((24 : Int) + (0 : Int))).toNat IntKind.u64.bits))).toNat : Int)) &&& ~~~BitVec.ofInt IntKind.u64.bits (pw ((12 : Int) * (1 : Int) + sl))).toNat : Int)) ||| BitVec.ofInt IntKind.u64.bits (IntKind.u64.wrap ((1 : Int) * (2 : Int) ^ min (IntKind.i64.wrap ((24 : Int) + (1 : Int))).toNat IntKind.u64.bits))).toNat : Int))) := by kernel_rfl
theorem pdrop_way_3 (w sl : Int) (g : Bool) : walkV (ev sumsE2 60 318 [.int .u64 w, .int .i64 sl, .bool g] ⟨.nil, 0⟩) [true, true, true, true, true, true, false, true, true, true, false, false] =
    some ([true, true, (isW w && sideOk (0 : Int) sl), bitI w ((12 : Int) * (0 : Int) + sl), (sideOk (0 : Int) sl), g, false, true, true, (isW w && sideOk (1 : Int) sl), bitI w ((12 : Int) * (1 : Int) + sl), false], .int .u64 (IntKind.u64.wrap (↑(BitVec.ofInt IntKind.u64.bits (IntKind.u64.wrap (↑(BitVec.ofInt IntKind.u64.bits w &&& ~~~BitVec.ofInt IntKind.u64.bits (pw ((12 : Int) * (0 : Int) + sl))).toNat : Int)) ||| BitVec.ofInt IntKind.u64.bits (IntKind.u64.wrap ((1 : Int) * (2 : Int) ^ min (IntKind.i64.wrap ((24 : Int) + (0 : Int))).toNat IntKind.u64.bits))).toNat : Int))) := by kernel_rfl
theorem pdrop_way_5 (w sl : Int) (g : Bool) : walkV (ev sumsE2 60 318 [.int .u64 w, .int .i64 sl, .bool g] ⟨.nil, 0⟩) [true, true, true, true, true, false, false, true, true, true, true, true, false, false, false] =
    some ([true, true, (isW w && sideOk (0 : Int) sl), bitI w ((12 : Int) * (0 : Int) + sl), (sideOk (0 : Int) sl), g, false, true, true, (isW w && sideOk (1 : Int) sl), bitI w ((12 : Int) * (1 : Int) + sl), (sideOk (1 : Int) sl), g, false, false], .int .u64 (IntKind.u64.wrap (↑(BitVec.ofInt IntKind.u64.bits (IntKind.u64.wrap (↑(BitVec.ofInt IntKind.u64.bits (IntKind.u64.wrap (↑(BitVec.ofInt IntKind.u64.bits (IntKind.u64.wrap (↑(BitVec.ofInt IntKind.u64.bits w &&& ~~~BitVec.ofInt IntKind.u64.bits (pw ((12 : Int) * (0 : Int) + sl))).toNat : Int)) ||| BitVec.ofInt IntKind.u64.bits (IntKind.u64.wrap ((0 : Int) * (2 : Int) ^ min (IntKind.i64.wrap ((24 : Int) + (0 : Int))).toNat IntKind.u64.bits))).toNat : Int)) &&& ~~~BitVec.ofInt IntKind.u64.bits (pw ((12 : Int) * (1 : Int) + sl))).toNat : Int)) ||| BitVec.ofInt IntKind.u64.bits (IntKind.u64.wrap ((0 : Int) * (2 : Int) ^ min (IntKind.i64.wrap ((24 : Int) + (1 : Int))).toNat IntKind.u64.bits))).toNat : Int))) := by kernel_rfl
theorem pdrop_way_6 (w sl : Int) (g : Bool) : walkV (ev sumsE2 60 318 [.int .u64 w, .int .i64 sl, .bool g] ⟨.nil, 0⟩) [true, true, true, true, true, false, false, true, true, true, false, false] =
    some ([true, true, (isW w && sideOk (0 : Int) sl), bitI w ((12 : Int) * (0 : Int) + sl), (sideOk (0 : Int) sl), g, false, true, true, (isW w && sideOk (1 : Int) sl), bitI w ((12 : Int) * (1 : Int) + sl), false], .int .u64 (IntKind.u64.wrap (↑(BitVec.ofInt IntKind.u64.bits (IntKind.u64.wrap (↑(BitVec.ofInt IntKind.u64.bits w &&& ~~~BitVec.ofInt IntKind.u64.bits (pw ((12 : Int) * (0 : Int) + sl))).toNat : Int)) ||| BitVec.ofInt IntKind.u64.bits (IntKind.u64.wrap ((0 : Int) * (2 : Int) ^ min (IntKind.i64.wrap ((24 : Int) + (0 : Int))).toNat IntKind.u64.bits))).toNat : Int))) := by kernel_rfl
theorem pdrop_way_7 (w sl : Int) (g : Bool) : walkV (ev sumsE2 60 318 [.int .u64 w, .int .i64 sl, .bool g] ⟨.nil, 0⟩) [true, true, true, false, true, true, true, true, true, true, false, false] =
    some ([true, true, (isW w && sideOk (0 : Int) sl), bitI w ((12 : Int) * (0 : Int) + sl), true, true, (isW w && sideOk (1 : Int) sl), bitI w ((12 : Int) * (1 : Int) + sl), (sideOk (1 : Int) sl), g, false, false], .int .u64 (IntKind.u64.wrap (↑(BitVec.ofInt IntKind.u64.bits (IntKind.u64.wrap (↑(BitVec.ofInt IntKind.u64.bits w &&& ~~~BitVec.ofInt IntKind.u64.bits (pw ((12 : Int) * (1 : Int) + sl))).toNat : Int)) ||| BitVec.ofInt IntKind.u64.bits (IntKind.u64.wrap ((1 : Int) * (2 : Int) ^ min (IntKind.i64.wrap ((24 : Int) + (1 : Int))).toNat IntKind.u64.bits))).toNat : Int))) := by kernel_rfl
theorem pdrop_way_8 (w sl : Int) (g : Bool) : walkV (ev sumsE2 60 318 [.int .u64 w, .int .i64 sl, .bool g] ⟨.nil, 0⟩) [true, true, true, false, true, true, true, true, true, false, false, false] =
    some ([true, true, (isW w && sideOk (0 : Int) sl), bitI w ((12 : Int) * (0 : Int) + sl), true, true, (isW w && sideOk (1 : Int) sl), bitI w ((12 : Int) * (1 : Int) + sl), (sideOk (1 : Int) sl), g, false, false], .int .u64 (IntKind.u64.wrap (↑(BitVec.ofInt IntKind.u64.bits (IntKind.u64.wrap (↑(BitVec.ofInt IntKind.u64.bits w &&& ~~~BitVec.ofInt IntKind.u64.bits (pw ((12 : Int) * (1 : Int) + sl))).toNat : Int)) ||| BitVec.ofInt IntKind.u64.bits (IntKind.u64.wrap ((0 : Int) * (2 : Int) ^ min (IntKind.i64.wrap ((24 : Int) + (1 : Int))).toNat IntKind.u64.bits))).toNat : Int))) := by kernel_rfl
theorem pdrop_way_9 (w sl : Int) (g : Bool) : walkV (ev sumsE2 60 318 [.int .u64 w, .int .i64 sl, .bool g] ⟨.nil, 0⟩) [true, true, true, false, true, true, true, false, false] =
    some ([true, true, (isW w && sideOk (0 : Int) sl), bitI w ((12 : Int) * (0 : Int) + sl), true, true, (isW w && sideOk (1 : Int) sl), bitI w ((12 : Int) * (1 : Int) + sl), false], .int .u64 (w)) := by kernel_rfl
theorem pdrop_is {w sl : Int} (g : Bool) (h0 : 0 ≤ w) (h1 : w < 18446744073709551616) (h2 : 0 ≤ sl) (h3 : sl ≤ 11) : outV (ev sumsE2 60 318 [.int .u64 w, .int .i64 sl, .bool g] ⟨.nil, 0⟩) = some (.int .u64 (dropW w sl g)) := by
  have hw : isW w = true := isW_iff.2 ⟨h0, h1⟩
  have s0 : sideOk 0 sl = true := by simp only [sideOk, decide_eq_true_eq]; omega
  have s1 : sideOk 1 sl = true := by simp only [sideOk, decide_eq_true_eq]; omega
  have e01 : IntKind.i64.wrap ((0 : Int) + 1) = 1 := rfl
  have e240 : IntKind.i64.wrap ((24 : Int) + 0) = 24 := rfl
  have e241 : IntKind.i64.wrap ((24 : Int) + 1) = 25 := rfl
  have x24 : IntKind.i64.wrap (24 : Int) = 24 := rfl
  have x25 : IntKind.i64.wrap (25 : Int) = 25 := rfl
  have n0 : decide ((0 : Int) ≤ 12 * 0 + sl ∧ 12 * 0 + sl ≤ 40) = true := decide_eq_true (by omega)
  have n1 : decide ((0 : Int) ≤ 12 * 1 + sl ∧ 12 * 1 + sl ≤ 40) = true := decide_eq_true (by omega)
  have n2 : decide ((0 : Int) ≤ 24 ∧ (24 : Int) ≤ 40) = true := by decide
  have n3 : decide ((0 : Int) ≤ 25 ∧ (25 : Int) ≤ 40) = true := by decide
  have k24 : IntKind.u64.wrap ((1 : Int) * (2 : Int) ^ min (24 : Int).toNat IntKind.u64.bits) = pw 24 := shl_pw (by omega) (by omega)
  have k25 : IntKind.u64.wrap ((1 : Int) * (2 : Int) ^ min (25 : Int).toNat IntKind.u64.bits) = pw 25 := shl_pw (by omega) (by omega)
  have P : ∀ (x n : Int) (b : Bool), 0 ≤ x ∧ x < 18446744073709551616 → 0 ≤ n → n ≤ 40 → 0 ≤ putI x n b ∧ putI x n b < 18446744073709551616 := fun x n b h a c => put_word (n := n) b h.1 h.2 a c
  have C : ∀ (x n : Int), 0 ≤ x ∧ x < 18446744073709551616 → n ≤ 40 → IntKind.u64.wrap (↑(BitVec.ofInt IntKind.u64.bits x &&& ~~~BitVec.ofInt IntKind.u64.bits (pw n)).toNat) = putI x n false := fun x n h c => clrP h.1 h.2 c
  have O : ∀ (x n : Int), 0 ≤ x ∧ x < 18446744073709551616 → n ≤ 40 → IntKind.u64.wrap (↑(BitVec.ofInt IntKind.u64.bits x ||| BitVec.ofInt IntKind.u64.bits (pw n)).toNat) = putI x n true := fun x n h c => orP h.1 h.2 c
  have w0 : 0 ≤ w ∧ w < 18446744073709551616 := ⟨h0, h1⟩
  rcases bool_two (bitI w (12 * 0 + sl)) with b0 | b0 <;> rcases bool_two (bitI w (12 * 1 + sl)) with b1 | b1 <;> rcases bool_two g with hg | hg
  · have := outV_walk (pdrop_way_1 w sl g) (by
      simp only [e01, e240, e241, hw, s0, s1, b0, b1, hg, n0, n1, n2, n3, Bool.and_self, Bool.true_and, isW_iff.2 (P _ _ _ w0 (show 0 ≤ 12 * 0 + sl by omega) (by omega)), isW_iff.2 (P _ _ _ w0 (show 0 ≤ 12 * 1 + sl by omega) (by omega)), isW_iff.2 (P _ 24 true (P w (12 * 0 + sl) false w0 (by omega) (by omega)) (by omega) (by omega)), isW_iff.2 (P _ (12 * 1 + sl) false (P _ 24 true (P w (12 * 0 + sl) false w0 (by omega) (by omega)) (by omega) (by omega)) (by omega) (by omega)), isW_iff.2 (P _ (12 * 1 + sl) false (P w (12 * 0 + sl) false w0 (by omega) (by omega)) (by omega) (by omega))])
    rw [this]; simp only [e01, e240, e241, x24, x25, k24, k25, dropW, sideD, b0, b1, hg, cond_true, cond_false, show (24 : Int) + 0 = 24 from rfl, show (24 : Int) + 1 = 25 from rfl]
    rw [C (w) (12 * 0 + sl) (w0) (by omega)]
    rw [O (putI (w) (12 * 0 + sl) false) 24 (P (w) (12 * 0 + sl) false (w0) (by omega) (by omega)) (by omega)]
    rw [C (putI (putI (w) (12 * 0 + sl) false) 24 true) (12 * 1 + sl) (P (putI (w) (12 * 0 + sl) false) 24 true (P (w) (12 * 0 + sl) false (w0) (by omega) (by omega)) (by omega) (by omega)) (by omega)]
    rw [O (putI (putI (putI (w) (12 * 0 + sl) false) 24 true) (12 * 1 + sl) false) 25 (P (putI (putI (w) (12 * 0 + sl) false) 24 true) (12 * 1 + sl) false (P (putI (w) (12 * 0 + sl) false) 24 true (P (w) (12 * 0 + sl) false (w0) (by omega) (by omega)) (by omega) (by omega)) (by omega) (by omega)) (by omega)]
  · have := outV_walk (pdrop_way_5 w sl g) (by
      simp only [e01, e240, e241, hw, s0, s1, b0, b1, hg, n0, n1, n2, n3, Bool.and_self, Bool.true_and, isW_iff.2 (P _ _ _ w0 (show 0 ≤ 12 * 0 + sl by omega) (by omega)), isW_iff.2 (P _ _ _ w0 (show 0 ≤ 12 * 1 + sl by omega) (by omega)), isW_iff.2 (P _ 24 true (P w (12 * 0 + sl) false w0 (by omega) (by omega)) (by omega) (by omega)), isW_iff.2 (P _ (12 * 1 + sl) false (P _ 24 true (P w (12 * 0 + sl) false w0 (by omega) (by omega)) (by omega) (by omega)) (by omega) (by omega)), isW_iff.2 (P _ (12 * 1 + sl) false (P w (12 * 0 + sl) false w0 (by omega) (by omega)) (by omega) (by omega))])
    rw [this]; simp only [e01, e240, e241, x24, x25, k24, k25, dropW, sideD, b0, b1, hg, cond_true, cond_false, show (24 : Int) + 0 = 24 from rfl, show (24 : Int) + 1 = 25 from rfl]
    rw [C (w) (12 * 0 + sl) (w0) (by omega)]
    rw [or_no (P (w) (12 * 0 + sl) false (w0) (by omega) (by omega)).1 (P (w) (12 * 0 + sl) false (w0) (by omega) (by omega)).2]
    rw [C (putI (w) (12 * 0 + sl) false) (12 * 1 + sl) (P (w) (12 * 0 + sl) false (w0) (by omega) (by omega)) (by omega)]
    rw [or_no (P (putI (w) (12 * 0 + sl) false) (12 * 1 + sl) false (P (w) (12 * 0 + sl) false (w0) (by omega) (by omega)) (by omega) (by omega)).1 (P (putI (w) (12 * 0 + sl) false) (12 * 1 + sl) false (P (w) (12 * 0 + sl) false (w0) (by omega) (by omega)) (by omega) (by omega)).2]
  · have := outV_walk (pdrop_way_3 w sl g) (by
      simp only [e01, e240, e241, hw, s0, s1, b0, b1, hg, n0, n1, n2, n3, Bool.and_self, Bool.true_and, isW_iff.2 (P _ _ _ w0 (show 0 ≤ 12 * 0 + sl by omega) (by omega)), isW_iff.2 (P _ _ _ w0 (show 0 ≤ 12 * 1 + sl by omega) (by omega)), isW_iff.2 (P _ 24 true (P w (12 * 0 + sl) false w0 (by omega) (by omega)) (by omega) (by omega)), isW_iff.2 (P _ (12 * 1 + sl) false (P _ 24 true (P w (12 * 0 + sl) false w0 (by omega) (by omega)) (by omega) (by omega)) (by omega) (by omega)), isW_iff.2 (P _ (12 * 1 + sl) false (P w (12 * 0 + sl) false w0 (by omega) (by omega)) (by omega) (by omega))])
    rw [this]; simp only [e01, e240, e241, x24, x25, k24, k25, dropW, sideD, b0, b1, hg, cond_true, cond_false, show (24 : Int) + 0 = 24 from rfl, show (24 : Int) + 1 = 25 from rfl]
    rw [C (w) (12 * 0 + sl) (w0) (by omega)]
    rw [O (putI (w) (12 * 0 + sl) false) 24 (P (w) (12 * 0 + sl) false (w0) (by omega) (by omega)) (by omega)]
  · have := outV_walk (pdrop_way_6 w sl g) (by
      simp only [e01, e240, e241, hw, s0, s1, b0, b1, hg, n0, n1, n2, n3, Bool.and_self, Bool.true_and, isW_iff.2 (P _ _ _ w0 (show 0 ≤ 12 * 0 + sl by omega) (by omega)), isW_iff.2 (P _ _ _ w0 (show 0 ≤ 12 * 1 + sl by omega) (by omega)), isW_iff.2 (P _ 24 true (P w (12 * 0 + sl) false w0 (by omega) (by omega)) (by omega) (by omega)), isW_iff.2 (P _ (12 * 1 + sl) false (P _ 24 true (P w (12 * 0 + sl) false w0 (by omega) (by omega)) (by omega) (by omega)) (by omega) (by omega)), isW_iff.2 (P _ (12 * 1 + sl) false (P w (12 * 0 + sl) false w0 (by omega) (by omega)) (by omega) (by omega))])
    rw [this]; simp only [e01, e240, e241, x24, x25, k24, k25, dropW, sideD, b0, b1, hg, cond_true, cond_false, show (24 : Int) + 0 = 24 from rfl, show (24 : Int) + 1 = 25 from rfl]
    rw [C (w) (12 * 0 + sl) (w0) (by omega)]
    rw [or_no (P (w) (12 * 0 + sl) false (w0) (by omega) (by omega)).1 (P (w) (12 * 0 + sl) false (w0) (by omega) (by omega)).2]
  · have := outV_walk (pdrop_way_7 w sl g) (by
      simp only [e01, e240, e241, hw, s0, s1, b0, b1, hg, n0, n1, n2, n3, Bool.and_self, Bool.true_and, isW_iff.2 (P _ _ _ w0 (show 0 ≤ 12 * 0 + sl by omega) (by omega)), isW_iff.2 (P _ _ _ w0 (show 0 ≤ 12 * 1 + sl by omega) (by omega)), isW_iff.2 (P _ 24 true (P w (12 * 0 + sl) false w0 (by omega) (by omega)) (by omega) (by omega)), isW_iff.2 (P _ (12 * 1 + sl) false (P _ 24 true (P w (12 * 0 + sl) false w0 (by omega) (by omega)) (by omega) (by omega)) (by omega) (by omega)), isW_iff.2 (P _ (12 * 1 + sl) false (P w (12 * 0 + sl) false w0 (by omega) (by omega)) (by omega) (by omega))])
    rw [this]; simp only [e01, e240, e241, x24, x25, k24, k25, dropW, sideD, b0, b1, hg, cond_true, cond_false, show (24 : Int) + 0 = 24 from rfl, show (24 : Int) + 1 = 25 from rfl]
    rw [C (w) (12 * 1 + sl) (w0) (by omega)]
    rw [O (putI (w) (12 * 1 + sl) false) 25 (P (w) (12 * 1 + sl) false (w0) (by omega) (by omega)) (by omega)]
  · have := outV_walk (pdrop_way_8 w sl g) (by
      simp only [e01, e240, e241, hw, s0, s1, b0, b1, hg, n0, n1, n2, n3, Bool.and_self, Bool.true_and, isW_iff.2 (P _ _ _ w0 (show 0 ≤ 12 * 0 + sl by omega) (by omega)), isW_iff.2 (P _ _ _ w0 (show 0 ≤ 12 * 1 + sl by omega) (by omega)), isW_iff.2 (P _ 24 true (P w (12 * 0 + sl) false w0 (by omega) (by omega)) (by omega) (by omega)), isW_iff.2 (P _ (12 * 1 + sl) false (P _ 24 true (P w (12 * 0 + sl) false w0 (by omega) (by omega)) (by omega) (by omega)) (by omega) (by omega)), isW_iff.2 (P _ (12 * 1 + sl) false (P w (12 * 0 + sl) false w0 (by omega) (by omega)) (by omega) (by omega))])
    rw [this]; simp only [e01, e240, e241, x24, x25, k24, k25, dropW, sideD, b0, b1, hg, cond_true, cond_false, show (24 : Int) + 0 = 24 from rfl, show (24 : Int) + 1 = 25 from rfl]
    rw [C (w) (12 * 1 + sl) (w0) (by omega)]
    rw [or_no (P (w) (12 * 1 + sl) false (w0) (by omega) (by omega)).1 (P (w) (12 * 1 + sl) false (w0) (by omega) (by omega)).2]
  · have := outV_walk (pdrop_way_9 w sl g) (by
      simp only [e01, e240, e241, hw, s0, s1, b0, b1, hg, n0, n1, n2, n3, Bool.and_self, Bool.true_and, isW_iff.2 (P _ _ _ w0 (show 0 ≤ 12 * 0 + sl by omega) (by omega)), isW_iff.2 (P _ _ _ w0 (show 0 ≤ 12 * 1 + sl by omega) (by omega)), isW_iff.2 (P _ 24 true (P w (12 * 0 + sl) false w0 (by omega) (by omega)) (by omega) (by omega)), isW_iff.2 (P _ (12 * 1 + sl) false (P _ 24 true (P w (12 * 0 + sl) false w0 (by omega) (by omega)) (by omega) (by omega)) (by omega) (by omega)), isW_iff.2 (P _ (12 * 1 + sl) false (P w (12 * 0 + sl) false w0 (by omega) (by omega)) (by omega) (by omega))])
    rw [this]; simp only [e01, e240, e241, x24, x25, k24, k25, dropW, sideD, b0, b1, hg, cond_true, cond_false, show (24 : Int) + 0 = 24 from rfl, show (24 : Int) + 1 = 25 from rfl]
  · have := outV_walk (pdrop_way_9 w sl g) (by
      simp only [e01, e240, e241, hw, s0, s1, b0, b1, hg, n0, n1, n2, n3, Bool.and_self, Bool.true_and, isW_iff.2 (P _ _ _ w0 (show 0 ≤ 12 * 0 + sl by omega) (by omega)), isW_iff.2 (P _ _ _ w0 (show 0 ≤ 12 * 1 + sl by omega) (by omega)), isW_iff.2 (P _ 24 true (P w (12 * 0 + sl) false w0 (by omega) (by omega)) (by omega) (by omega)), isW_iff.2 (P _ (12 * 1 + sl) false (P _ 24 true (P w (12 * 0 + sl) false w0 (by omega) (by omega)) (by omega) (by omega)) (by omega) (by omega)), isW_iff.2 (P _ (12 * 1 + sl) false (P w (12 * 0 + sl) false w0 (by omega) (by omega)) (by omega) (by omega))])
    rw [this]; simp only [e01, e240, e241, x24, x25, k24, k25, dropW, sideD, b0, b1, hg, cond_true, cond_false, show (24 : Int) + 0 = 24 from rfl, show (24 : Int) + 1 = 25 from rfl]
theorem rdropw_way_1 (w sl : Int) (g : Bool) : walkV (ev sumsE2 60 174 [.int .u64 w, .int .i64 sl, .bool g] ⟨.nil, 0⟩) [true, true, true, true, true, true, true, true, true, true, true, true, true, true, false] =
    some ([true, (isW w && sideOk (0 : Int) sl), bitI w ((12 : Int) * (0 : Int) + sl), (sideOk (0 : Int) sl), (isW w && decide ((0 : Int) ≤ (12 : Int) * (0 : Int) + sl ∧ (12 : Int) * (0 : Int) + sl ≤ (40 : Int))), g, (isW (putI w ((12 : Int) * (0 : Int) + sl) false) && decide ((0 : Int) ≤ IntKind.i64.wrap ((24 : Int) + (0 : Int)) ∧ IntKind.i64.wrap ((24 : Int) + (0 : Int)) ≤ (40 : Int)), Value.int IntKind.u64 (putI (putI w ((12 : Int) * (0 : Int) + sl) false) (IntKind.i64.wrap ((24 : Int) + (0 : Int))) true)).fst, true, (isW w && sideOk (IntKind.i64.wrap ((0 : Int) + (1 : Int))) sl, Value.bool (bitI w ((12 : Int) * IntKind.i64.wrap ((0 : Int) + (1 : Int)) + sl))).fst, bitI w ((12 : Int) * IntKind.i64.wrap ((0 : Int) + (1 : Int)) + sl), (sideOk (IntKind.i64.wrap ((0 : Int) + (1 : Int))) sl, Value.int IntKind.i64 ((12 : Int) * IntKind.i64.wrap ((0 : Int) + (1 : Int)) + sl)).fst, (isW (putI (putI w ((12 : Int) * (0 : Int) + sl) false) (IntKind.i64.wrap ((24 : Int) + (0 : Int))) true) && decide ((0 : Int) ≤ (12 : Int) * IntKind.i64.wrap ((0 : Int) + (1 : Int)) + sl ∧ (12 : Int) * IntKind.i64.wrap ((0 : Int) + (1 : Int)) + sl ≤ (40 : Int)), Value.int IntKind.u64 (putI (putI (putI w ((12 : Int) * (0 : Int) + sl) false) (IntKind.i64.wrap ((24 : Int) + (0 : Int))) true) ((12 : Int) * IntKind.i64.wrap ((0 : Int) + (1 : Int)) + sl) false)).fst, g, (isW (putI (putI (putI w ((12 : Int) * (0 : Int) + sl) false) (IntKind.i64.wrap ((24 : Int) + (0 : Int))) true) ((12 : Int) * IntKind.i64.wrap ((0 : Int) + (1 : Int)) + sl) false) && decide ((0 : Int) ≤ IntKind.i64.wrap ((24 : Int) + IntKind.i64.wrap ((0 : Int) + (1 : Int))) ∧ IntKind.i64.wrap ((24 : Int) + IntKind.i64.wrap ((0 : Int) + (1 : Int))) ≤ (40 : Int)), Value.int IntKind.u64 (putI (putI (putI (putI w ((12 : Int) * (0 : Int) + sl) false) (IntKind.i64.wrap ((24 : Int) + (0 : Int))) true) ((12 : Int) * IntKind.i64.wrap ((0 : Int) + (1 : Int)) + sl) false) (IntKind.i64.wrap ((24 : Int) + IntKind.i64.wrap ((0 : Int) + (1 : Int)))) true)).fst, false], .int .u64 (putI (putI (putI (putI w ((12 : Int) * (0 : Int) + sl) false) (IntKind.i64.wrap ((24 : Int) + (0 : Int))) true) ((12 : Int) * IntKind.i64.wrap ((0 : Int) + (1 : Int)) + sl) false) (IntKind.i64.wrap ((24 : Int) + IntKind.i64.wrap ((0 : Int) + (1 : Int)))) true)) := by kernel_rfl
theorem rdropw_way_3 (w sl : Int) (g : Bool) : walkV (ev sumsE2 60 174 [.int .u64 w, .int .i64 sl, .bool g] ⟨.nil, 0⟩) [true, true, true, true, true, true, true, true, true, false, false] =
    some ([true, (isW w && sideOk (0 : Int) sl), bitI w ((12 : Int) * (0 : Int) + sl), (sideOk (0 : Int) sl), (isW w && decide ((0 : Int) ≤ (12 : Int) * (0 : Int) + sl ∧ (12 : Int) * (0 : Int) + sl ≤ (40 : Int))), g, (isW (putI w ((12 : Int) * (0 : Int) + sl) false) && decide ((0 : Int) ≤ IntKind.i64.wrap ((24 : Int) + (0 : Int)) ∧ IntKind.i64.wrap ((24 : Int) + (0 : Int)) ≤ (40 : Int)), Value.int IntKind.u64 (putI (putI w ((12 : Int) * (0 : Int) + sl) false) (IntKind.i64.wrap ((24 : Int) + (0 : Int))) true)).fst, true, (isW w && sideOk (IntKind.i64.wrap ((0 : Int) + (1 : Int))) sl, Value.bool (bitI w ((12 : Int) * IntKind.i64.wrap ((0 : Int) + (1 : Int)) + sl))).fst, bitI w ((12 : Int) * IntKind.i64.wrap ((0 : Int) + (1 : Int)) + sl), false], .int .u64 (putI (putI w ((12 : Int) * (0 : Int) + sl) false) (IntKind.i64.wrap ((24 : Int) + (0 : Int))) true)) := by kernel_rfl
theorem rdropw_way_5 (w sl : Int) (g : Bool) : walkV (ev sumsE2 60 174 [.int .u64 w, .int .i64 sl, .bool g] ⟨.nil, 0⟩) [true, true, true, true, true, false, true, true, true, true, true, false, false] =
    some ([true, (isW w && sideOk (0 : Int) sl), bitI w ((12 : Int) * (0 : Int) + sl), (sideOk (0 : Int) sl), (isW w && decide ((0 : Int) ≤ (12 : Int) * (0 : Int) + sl ∧ (12 : Int) * (0 : Int) + sl ≤ (40 : Int))), g, true, (isW w && sideOk (IntKind.i64.wrap ((0 : Int) + (1 : Int))) sl, Value.bool (bitI w ((12 : Int) * IntKind.i64.wrap ((0 : Int) + (1 : Int)) + sl))).fst, bitI w ((12 : Int) * IntKind.i64.wrap ((0 : Int) + (1 : Int)) + sl), (sideOk (IntKind.i64.wrap ((0 : Int) + (1 : Int))) sl, Value.int IntKind.i64 ((12 : Int) * IntKind.i64.wrap ((0 : Int) + (1 : Int)) + sl)).fst, (isW (putI w ((12 : Int) * (0 : Int) + sl) false) && decide ((0 : Int) ≤ (12 : Int) * IntKind.i64.wrap ((0 : Int) + (1 : Int)) + sl ∧ (12 : Int) * IntKind.i64.wrap ((0 : Int) + (1 : Int)) + sl ≤ (40 : Int)), Value.int IntKind.u64 (putI (putI w ((12 : Int) * (0 : Int) + sl) false) ((12 : Int) * IntKind.i64.wrap ((0 : Int) + (1 : Int)) + sl) false)).fst, g, false], .int .u64 (putI (putI w ((12 : Int) * (0 : Int) + sl) false) ((12 : Int) * IntKind.i64.wrap ((0 : Int) + (1 : Int)) + sl) false)) := by kernel_rfl
theorem rdropw_way_6 (w sl : Int) (g : Bool) : walkV (ev sumsE2 60 174 [.int .u64 w, .int .i64 sl, .bool g] ⟨.nil, 0⟩) [true, true, true, true, true, false, true, true, false, false] =
    some ([true, (isW w && sideOk (0 : Int) sl), bitI w ((12 : Int) * (0 : Int) + sl), (sideOk (0 : Int) sl), (isW w && decide ((0 : Int) ≤ (12 : Int) * (0 : Int) + sl ∧ (12 : Int) * (0 : Int) + sl ≤ (40 : Int))), g, true, (isW w && sideOk (IntKind.i64.wrap ((0 : Int) + (1 : Int))) sl, Value.bool (bitI w ((12 : Int) * IntKind.i64.wrap ((0 : Int) + (1 : Int)) + sl))).fst, bitI w ((12 : Int) * IntKind.i64.wrap ((0 : Int) + (1 : Int)) + sl), false], .int .u64 (putI w ((12 : Int) * (0 : Int) + sl) false)) := by kernel_rfl
theorem rdropw_way_7 (w sl : Int) (g : Bool) : walkV (ev sumsE2 60 174 [.int .u64 w, .int .i64 sl, .bool g] ⟨.nil, 0⟩) [true, true, false, true, true, true, true, true, true, true, false] =
    some ([true, (isW w && sideOk (0 : Int) sl), bitI w ((12 : Int) * (0 : Int) + sl), true, (isW w && sideOk (IntKind.i64.wrap ((0 : Int) + (1 : Int))) sl, Value.bool (bitI w ((12 : Int) * IntKind.i64.wrap ((0 : Int) + (1 : Int)) + sl))).fst, bitI w ((12 : Int) * IntKind.i64.wrap ((0 : Int) + (1 : Int)) + sl), (sideOk (IntKind.i64.wrap ((0 : Int) + (1 : Int))) sl, Value.int IntKind.i64 ((12 : Int) * IntKind.i64.wrap ((0 : Int) + (1 : Int)) + sl)).fst, (isW w && decide ((0 : Int) ≤ (12 : Int) * IntKind.i64.wrap ((0 : Int) + (1 : Int)) + sl ∧ (12 : Int) * IntKind.i64.wrap ((0 : Int) + (1 : Int)) + sl ≤ (40 : Int)), Value.int IntKind.u64 (putI w ((12 : Int) * IntKind.i64.wrap ((0 : Int) + (1 : Int)) + sl) false)).fst, g, (isW (putI w ((12 : Int) * IntKind.i64.wrap ((0 : Int) + (1 : Int)) + sl) false) && decide ((0 : Int) ≤ IntKind.i64.wrap ((24 : Int) + IntKind.i64.wrap ((0 : Int) + (1 : Int))) ∧ IntKind.i64.wrap ((24 : Int) + IntKind.i64.wrap ((0 : Int) + (1 : Int))) ≤ (40 : Int)), Value.int IntKind.u64 (putI (putI w ((12 : Int) * IntKind.i64.wrap ((0 : Int) + (1 : Int)) + sl) false) (IntKind.i64.wrap ((24 : Int) + IntKind.i64.wrap ((0 : Int) + (1 : Int)))) true)).fst, false], .int .u64 (putI (putI w ((12 : Int) * IntKind.i64.wrap ((0 : Int) + (1 : Int)) + sl) false) (IntKind.i64.wrap ((24 : Int) + IntKind.i64.wrap ((0 : Int) + (1 : Int)))) true)) := by kernel_rfl
theorem rdropw_way_8 (w sl : Int) (g : Bool) : walkV (ev sumsE2 60 174 [.int .u64 w, .int .i64 sl, .bool g] ⟨.nil, 0⟩) [true, true, false, true, true, true, true, true, false, false] =
    some ([true, (isW w && sideOk (0 : Int) sl), bitI w ((12 : Int) * (0 : Int) + sl), true, (isW w && sideOk (IntKind.i64.wrap ((0 : Int) + (1 : Int))) sl, Value.bool (bitI w ((12 : Int) * IntKind.i64.wrap ((0 : Int) + (1 : Int)) + sl))).fst, bitI w ((12 : Int) * IntKind.i64.wrap ((0 : Int) + (1 : Int)) + sl), (sideOk (IntKind.i64.wrap ((0 : Int) + (1 : Int))) sl, Value.int IntKind.i64 ((12 : Int) * IntKind.i64.wrap ((0 : Int) + (1 : Int)) + sl)).fst, (isW w && decide ((0 : Int) ≤ (12 : Int) * IntKind.i64.wrap ((0 : Int) + (1 : Int)) + sl ∧ (12 : Int) * IntKind.i64.wrap ((0 : Int) + (1 : Int)) + sl ≤ (40 : Int)), Value.int IntKind.u64 (putI w ((12 : Int) * IntKind.i64.wrap ((0 : Int) + (1 : Int)) + sl) false)).fst, g, false], .int .u64 (putI w ((12 : Int) * IntKind.i64.wrap ((0 : Int) + (1 : Int)) + sl) false)) := by kernel_rfl
theorem rdropw_way_9 (w sl : Int) (g : Bool) : walkV (ev sumsE2 60 174 [.int .u64 w, .int .i64 sl, .bool g] ⟨.nil, 0⟩) [true, true, false, true, true, false, false] =
    some ([true, (isW w && sideOk (0 : Int) sl), bitI w ((12 : Int) * (0 : Int) + sl), true, (isW w && sideOk (IntKind.i64.wrap ((0 : Int) + (1 : Int))) sl, Value.bool (bitI w ((12 : Int) * IntKind.i64.wrap ((0 : Int) + (1 : Int)) + sl))).fst, bitI w ((12 : Int) * IntKind.i64.wrap ((0 : Int) + (1 : Int)) + sl), false], .int .u64 (w)) := by kernel_rfl
theorem rdropw_is {w sl : Int} (g : Bool) (h0 : 0 ≤ w) (h1 : w < 18446744073709551616) (h2 : 0 ≤ sl) (h3 : sl ≤ 11) : outV (ev sumsE2 60 174 [.int .u64 w, .int .i64 sl, .bool g] ⟨.nil, 0⟩) = some (.int .u64 (dropW w sl g)) := by
  have hw : isW w = true := isW_iff.2 ⟨h0, h1⟩
  have s0 : sideOk 0 sl = true := by simp only [sideOk, decide_eq_true_eq]; omega
  have s1 : sideOk 1 sl = true := by simp only [sideOk, decide_eq_true_eq]; omega
  have e01 : IntKind.i64.wrap ((0 : Int) + 1) = 1 := rfl
  have e240 : IntKind.i64.wrap ((24 : Int) + 0) = 24 := rfl
  have e241 : IntKind.i64.wrap ((24 : Int) + 1) = 25 := rfl
  have x24 : IntKind.i64.wrap (24 : Int) = 24 := rfl
  have x25 : IntKind.i64.wrap (25 : Int) = 25 := rfl
  have n0 : decide ((0 : Int) ≤ 12 * 0 + sl ∧ 12 * 0 + sl ≤ 40) = true := decide_eq_true (by omega)
  have n1 : decide ((0 : Int) ≤ 12 * 1 + sl ∧ 12 * 1 + sl ≤ 40) = true := decide_eq_true (by omega)
  have n2 : decide ((0 : Int) ≤ 24 ∧ (24 : Int) ≤ 40) = true := by decide
  have n3 : decide ((0 : Int) ≤ 25 ∧ (25 : Int) ≤ 40) = true := by decide
  have k24 : IntKind.u64.wrap ((1 : Int) * (2 : Int) ^ min (24 : Int).toNat IntKind.u64.bits) = pw 24 := shl_pw (by omega) (by omega)
  have k25 : IntKind.u64.wrap ((1 : Int) * (2 : Int) ^ min (25 : Int).toNat IntKind.u64.bits) = pw 25 := shl_pw (by omega) (by omega)
  have P : ∀ (x n : Int) (b : Bool), 0 ≤ x ∧ x < 18446744073709551616 → 0 ≤ n → n ≤ 40 → 0 ≤ putI x n b ∧ putI x n b < 18446744073709551616 := fun x n b h a c => put_word (n := n) b h.1 h.2 a c
  have C : ∀ (x n : Int), 0 ≤ x ∧ x < 18446744073709551616 → n ≤ 40 → IntKind.u64.wrap (↑(BitVec.ofInt IntKind.u64.bits x &&& ~~~BitVec.ofInt IntKind.u64.bits (pw n)).toNat) = putI x n false := fun x n h c => clrP h.1 h.2 c
  have O : ∀ (x n : Int), 0 ≤ x ∧ x < 18446744073709551616 → n ≤ 40 → IntKind.u64.wrap (↑(BitVec.ofInt IntKind.u64.bits x ||| BitVec.ofInt IntKind.u64.bits (pw n)).toNat) = putI x n true := fun x n h c => orP h.1 h.2 c
  have w0 : 0 ≤ w ∧ w < 18446744073709551616 := ⟨h0, h1⟩
  rcases bool_two (bitI w (12 * 0 + sl)) with b0 | b0 <;> rcases bool_two (bitI w (12 * 1 + sl)) with b1 | b1 <;> rcases bool_two g with hg | hg
  · have := outV_walk (rdropw_way_1 w sl g) (by
      simp only [e01, e240, e241, hw, s0, s1, b0, b1, hg, n0, n1, n2, n3, Bool.and_self, Bool.true_and, isW_iff.2 (P _ _ _ w0 (show 0 ≤ 12 * 0 + sl by omega) (by omega)), isW_iff.2 (P _ _ _ w0 (show 0 ≤ 12 * 1 + sl by omega) (by omega)), isW_iff.2 (P _ 24 true (P w (12 * 0 + sl) false w0 (by omega) (by omega)) (by omega) (by omega)), isW_iff.2 (P _ (12 * 1 + sl) false (P _ 24 true (P w (12 * 0 + sl) false w0 (by omega) (by omega)) (by omega) (by omega)) (by omega) (by omega)), isW_iff.2 (P _ (12 * 1 + sl) false (P w (12 * 0 + sl) false w0 (by omega) (by omega)) (by omega) (by omega))])
    rw [this]; simp only [e01, e240, e241, x24, x25, k24, k25, dropW, sideD, b0, b1, hg, cond_true, cond_false, show (24 : Int) + 0 = 24 from rfl, show (24 : Int) + 1 = 25 from rfl]
  · have := outV_walk (rdropw_way_5 w sl g) (by
      simp only [e01, e240, e241, hw, s0, s1, b0, b1, hg, n0, n1, n2, n3, Bool.and_self, Bool.true_and, isW_iff.2 (P _ _ _ w0 (show 0 ≤ 12 * 0 + sl by omega) (by omega)), isW_iff.2 (P _ _ _ w0 (show 0 ≤ 12 * 1 + sl by omega) (by omega)), isW_iff.2 (P _ 24 true (P w (12 * 0 + sl) false w0 (by omega) (by omega)) (by omega) (by omega)), isW_iff.2 (P _ (12 * 1 + sl) false (P _ 24 true (P w (12 * 0 + sl) false w0 (by omega) (by omega)) (by omega) (by omega)) (by omega) (by omega)), isW_iff.2 (P _ (12 * 1 + sl) false (P w (12 * 0 + sl) false w0 (by omega) (by omega)) (by omega) (by omega))])
    rw [this]; simp only [e01, e240, e241, x24, x25, k24, k25, dropW, sideD, b0, b1, hg, cond_true, cond_false, show (24 : Int) + 0 = 24 from rfl, show (24 : Int) + 1 = 25 from rfl]
  · have := outV_walk (rdropw_way_3 w sl g) (by
      simp only [e01, e240, e241, hw, s0, s1, b0, b1, hg, n0, n1, n2, n3, Bool.and_self, Bool.true_and, isW_iff.2 (P _ _ _ w0 (show 0 ≤ 12 * 0 + sl by omega) (by omega)), isW_iff.2 (P _ _ _ w0 (show 0 ≤ 12 * 1 + sl by omega) (by omega)), isW_iff.2 (P _ 24 true (P w (12 * 0 + sl) false w0 (by omega) (by omega)) (by omega) (by omega)), isW_iff.2 (P _ (12 * 1 + sl) false (P _ 24 true (P w (12 * 0 + sl) false w0 (by omega) (by omega)) (by omega) (by omega)) (by omega) (by omega)), isW_iff.2 (P _ (12 * 1 + sl) false (P w (12 * 0 + sl) false w0 (by omega) (by omega)) (by omega) (by omega))])
    rw [this]; simp only [e01, e240, e241, x24, x25, k24, k25, dropW, sideD, b0, b1, hg, cond_true, cond_false, show (24 : Int) + 0 = 24 from rfl, show (24 : Int) + 1 = 25 from rfl]
  · have := outV_walk (rdropw_way_6 w sl g) (by
      simp only [e01, e240, e241, hw, s0, s1, b0, b1, hg, n0, n1, n2, n3, Bool.and_self, Bool.true_and, isW_iff.2 (P _ _ _ w0 (show 0 ≤ 12 * 0 + sl by omega) (by omega)), isW_iff.2 (P _ _ _ w0 (show 0 ≤ 12 * 1 + sl by omega) (by omega)), isW_iff.2 (P _ 24 true (P w (12 * 0 + sl) false w0 (by omega) (by omega)) (by omega) (by omega)), isW_iff.2 (P _ (12 * 1 + sl) false (P _ 24 true (P w (12 * 0 + sl) false w0 (by omega) (by omega)) (by omega) (by omega)) (by omega) (by omega)), isW_iff.2 (P _ (12 * 1 + sl) false (P w (12 * 0 + sl) false w0 (by omega) (by omega)) (by omega) (by omega))])
    rw [this]; simp only [e01, e240, e241, x24, x25, k24, k25, dropW, sideD, b0, b1, hg, cond_true, cond_false, show (24 : Int) + 0 = 24 from rfl, show (24 : Int) + 1 = 25 from rfl]
  · have := outV_walk (rdropw_way_7 w sl g) (by
      simp only [e01, e240, e241, hw, s0, s1, b0, b1, hg, n0, n1, n2, n3, Bool.and_self, Bool.true_and, isW_iff.2 (P _ _ _ w0 (show 0 ≤ 12 * 0 + sl by omega) (by omega)), isW_iff.2 (P _ _ _ w0 (show 0 ≤ 12 * 1 + sl by omega) (by omega)), isW_iff.2 (P _ 24 true (P w (12 * 0 + sl) false w0 (by omega) (by omega)) (by omega) (by omega)), isW_iff.2 (P _ (12 * 1 + sl) false (P _ 24 true (P w (12 * 0 + sl) false w0 (by omega) (by omega)) (by omega) (by omega)) (by omega) (by omega)), isW_iff.2 (P _ (12 * 1 + sl) false (P w (12 * 0 + sl) false w0 (by omega) (by omega)) (by omega) (by omega))])
    rw [this]; simp only [e01, e240, e241, x24, x25, k24, k25, dropW, sideD, b0, b1, hg, cond_true, cond_false, show (24 : Int) + 0 = 24 from rfl, show (24 : Int) + 1 = 25 from rfl]
  · have := outV_walk (rdropw_way_8 w sl g) (by
      simp only [e01, e240, e241, hw, s0, s1, b0, b1, hg, n0, n1, n2, n3, Bool.and_self, Bool.true_and, isW_iff.2 (P _ _ _ w0 (show 0 ≤ 12 * 0 + sl by omega) (by omega)), isW_iff.2 (P _ _ _ w0 (show 0 ≤ 12 * 1 + sl by omega) (by omega)), isW_iff.2 (P _ 24 true (P w (12 * 0 + sl) false w0 (by omega) (by omega)) (by omega) (by omega)), isW_iff.2 (P _ (12 * 1 + sl) false (P _ 24 true (P w (12 * 0 + sl) false w0 (by omega) (by omega)) (by omega) (by omega)) (by omega) (by omega)), isW_iff.2 (P _ (12 * 1 + sl) false (P w (12 * 0 + sl) false w0 (by omega) (by omega)) (by omega) (by omega))])
    rw [this]; simp only [e01, e240, e241, x24, x25, k24, k25, dropW, sideD, b0, b1, hg, cond_true, cond_false, show (24 : Int) + 0 = 24 from rfl, show (24 : Int) + 1 = 25 from rfl]
  · have := outV_walk (rdropw_way_9 w sl g) (by
      simp only [e01, e240, e241, hw, s0, s1, b0, b1, hg, n0, n1, n2, n3, Bool.and_self, Bool.true_and, isW_iff.2 (P _ _ _ w0 (show 0 ≤ 12 * 0 + sl by omega) (by omega)), isW_iff.2 (P _ _ _ w0 (show 0 ≤ 12 * 1 + sl by omega) (by omega)), isW_iff.2 (P _ 24 true (P w (12 * 0 + sl) false w0 (by omega) (by omega)) (by omega) (by omega)), isW_iff.2 (P _ (12 * 1 + sl) false (P _ 24 true (P w (12 * 0 + sl) false w0 (by omega) (by omega)) (by omega) (by omega)) (by omega) (by omega)), isW_iff.2 (P _ (12 * 1 + sl) false (P w (12 * 0 + sl) false w0 (by omega) (by omega)) (by omega) (by omega))])
    rw [this]; simp only [e01, e240, e241, x24, x25, k24, k25, dropW, sideD, b0, b1, hg, cond_true, cond_false, show (24 : Int) + 0 = 24 from rfl, show (24 : Int) + 1 = 25 from rfl]
  · have := outV_walk (rdropw_way_9 w sl g) (by
      simp only [e01, e240, e241, hw, s0, s1, b0, b1, hg, n0, n1, n2, n3, Bool.and_self, Bool.true_and, isW_iff.2 (P _ _ _ w0 (show 0 ≤ 12 * 0 + sl by omega) (by omega)), isW_iff.2 (P _ _ _ w0 (show 0 ≤ 12 * 1 + sl by omega) (by omega)), isW_iff.2 (P _ 24 true (P w (12 * 0 + sl) false w0 (by omega) (by omega)) (by omega) (by omega)), isW_iff.2 (P _ (12 * 1 + sl) false (P _ 24 true (P w (12 * 0 + sl) false w0 (by omega) (by omega)) (by omega) (by omega)) (by omega) (by omega)), isW_iff.2 (P _ (12 * 1 + sl) false (P w (12 * 0 + sl) false w0 (by omega) (by omega)) (by omega) (by omega))])
    rw [this]; simp only [e01, e240, e241, x24, x25, k24, k25, dropW, sideD, b0, b1, hg, cond_true, cond_false, show (24 : Int) + 0 = 24 from rfl, show (24 : Int) + 1 = 25 from rfl]
def dropWS : List Value → Option (Bool × Value)
  | [.int .u64 w, .int .i64 sl, .bool g] => some (isW w && decide (0 ≤ sl ∧ sl ≤ 11), .int .u64 (dropW w sl g))
  | _ => none
noncomputable def sumsE3 : Sums := withIf (withIf sumsE2 318 dropWS) 174 dropWS
theorem sumsE3_ok : SumsOk sumsE3 := by
  refine withIf_ok (withIf_ok sumsE2_ok sumsE2_ok 60 (by kernel_rfl) fun al v h => ?_) sumsE2_ok 60 (by kernel_rfl) fun al v h => ?_
  all_goals
    unfold dropWS at h
    split at h
    case h_2 => cases h
    rename_i w sl g
    simp only [Option.some.injEq, Prod.mk.injEq, Bool.and_eq_true, isW_iff, decide_eq_true_eq] at h
    obtain ⟨⟨⟨h0, h1⟩, h2, h3⟩, rfl⟩ := h
    refine ⟨rfl, rfl, ?_⟩
  · exact pdrop_is g h0 h1 h2 h3
  · exact rdropw_is g h0 h1 h2 h3
end Go.Proofs.YtifojacfedjedaaGreat.Bound
end
