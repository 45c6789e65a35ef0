/- One dropped from a status word's sides: the program's and the document's tell the same. No condition. -/
import Derived.Test.YtfccbghmagohaaaGreatStatSQ
namespace Go.Proofs.YtfccbghmagohaaaGreat.Bound
open Go.Proofs.YtfccbghmagohaaaGreat.Ev
set_option linter.unusedVariables false
set_option linter.unusedSimpArgs false
theorem or_pow {w n : Int} (h0 : 0 ≤ w) : ((w.toNat ||| 2 ^ n.toNat : Nat) : Int) = putI w n true := by
  have hc := clr_pow (w := w) (n := n) h0
  have e : w.toNat ||| 2 ^ n.toNat = clr w.toNat (2 ^ n.toNat) + 2 ^ n.toNat := by
    rw [← lay_in]
    · apply Nat.eq_of_testBit_eq
      intro j
      rw [Nat.testBit_or, Nat.testBit_or, clr_bit]
      cases w.toNat.testBit j <;> cases (2 ^ n.toNat).testBit j <;> rfl
    · intro j h
      rw [clr_bit] at h
      obtain ⟨h1, h2⟩ := h
      rw [h2] at h1
      simp at h1
  rw [e, Int.natCast_add, hc]
  unfold putI pw
  simp only [cond_true, cond_false]
  omega
theorem pw_nat (n : Int) : (pw n).toNat = 2 ^ n.toNat := by unfold pw; rw [Int.toNat_natCast]
theorem clrP {w n : Int} (h0 : 0 ≤ w) (h1 : w < 18446744073709551616) (h2 : n ≤ 40) : IntKind.u64.wrap (↑(BitVec.ofInt IntKind.u64.bits w &&& ~~~BitVec.ofInt IntKind.u64.bits (pw n)).toNat) = putI w n false := by
  have hl := pw_le h2
  have hp := pw_pos n
  rw [p_clr h0 h1 (by omega) (by omega), pw_nat, clr_pow h0]
theorem orP {w n : Int} (h0 : 0 ≤ w) (h1 : w < 18446744073709551616) (h2 : n ≤ 40) : IntKind.u64.wrap (↑(BitVec.ofInt IntKind.u64.bits w ||| BitVec.ofInt IntKind.u64.bits (pw n)).toNat) = putI w n true := by
  have hl := pw_le h2
  have hp := pw_pos n
  rw [p_or h0 h1 (by omega) (by omega), pw_nat, or_pow h0]
theorem or_no {w k : Int} (h0 : 0 ≤ w) (h1 : w < 18446744073709551616) : IntKind.u64.wrap (↑(BitVec.ofInt IntKind.u64.bits w ||| BitVec.ofInt IntKind.u64.bits (IntKind.u64.wrap ((0 : Int) * k))).toNat) = w := by
  have e : IntKind.u64.wrap ((0 : Int) * k) = 0 := by rw [Int.zero_mul]; rfl
  rw [e, p_or h0 h1 (by omega) (by omega)]
  show ((w.toNat ||| 0 : Nat) : Int) = w
  rw [Nat.or_zero]
  omega
/-- A side without a slot; that it was there, if that is to be known. -/
def sideD (w out sd sl : Int) (g : Bool) : Int := bif bitI w (12 * sd + sl) then (bif g then putI (putI out (12 * sd + sl) false) (24 + sd) true else putI out (12 * sd + sl) false) else out
def dropW (w sl : Int) (g : Bool) : Int := sideD w (sideD w w 0 sl g) 1 sl g
theorem bool_two (b : Bool) : b = true ∨ b = false := by cases b <;> simp
theorem sideD_word {w out sd sl : Int} {g : Bool} (h0 : 0 ≤ out) (h1 : out < 18446744073709551616) (h2 : sideOk sd sl = true) : 0 ≤ sideD w out sd sl g ∧ sideD w out sd sl g < 18446744073709551616 := by
  simp only [sideOk, decide_eq_true_eq] at h2
  obtain ⟨q0, q1⟩ := put_word (n := 12 * sd + sl) false h0 h1 (by omega) (by omega)
  unfold sideD
  cases bitI w (12 * sd + sl) <;> cases g <;> simp only [cond_true, cond_false]
  · exact ⟨h0, h1⟩
  · exact ⟨h0, h1⟩
  · exact ⟨q0, q1⟩
  · exact put_word (n := 24 + sd) true q0 q1 (by omega) (by omega)

theorem pdrop_way_1 (w sl : Int) (g : Bool) : walkV (ev sumsE2 60 179 [.int .u64 w, .int .i64 sl, .bool g] ⟨.nil, 0⟩) [true, true, true, true, true, true, false, true, true, true, true, true, true, false, false] =
    some ([true, true, (isW w && sideOk (0 : Int) sl), bitI w ((12 : Int) * (0 : Int) + sl), (sideOk (0 : Int) sl), g, false, true, true, (isW w && sideOk (1 : Int) sl), bitI w ((12 : Int) * (1 : Int) + sl), (sideOk (1 : Int) sl), g, false, false], .int .u64 (IntKind.u64.wrap (↑(BitVec.ofInt IntKind.u64.bits (IntKind.u64.wrap (↑(BitVec.ofInt IntKind.u64.bits (IntKind.u64.wrap (↑(BitVec.ofInt IntKind.u64.bits (IntKind.u64.wrap (↑(BitVec.ofInt IntKind.u64.bits w &&& ~~~BitVec.ofInt IntKind.u64.bits (pw ((12 : Int) * (0 : Int) + sl))).toNat : Int)) ||| BitVec.ofInt IntKind.u64.bits (IntKind.u64.wrap ((1 : Int) * (2 : Int) ^ min (IntKind.i64.wrap ((24 : Int) + (0 : Int))).toNat IntKind.u64.bits))).toNat : Int)) &&& ~~~BitVec.ofInt IntKind.u64.bits (pw ((12 : Int) * (1 : Int) + sl))).toNat : Int)) ||| BitVec.ofInt IntKind.u64.bits (IntKind.u64.wrap ((1 : Int) * (2 : Int) ^ min (IntKind.i64.wrap ((24 : Int) + (1 : Int))).toNat IntKind.u64.bits))).toNat : Int))) := by kernel_rfl
theorem pdrop_way_3 (w sl : Int) (g : Bool) : walkV (ev sumsE2 60 179 [.int .u64 w, .int .i64 sl, .bool g] ⟨.nil, 0⟩) [true, true, true, true, true, true, false, true, true, true, false, false] =
    some ([true, true, (isW w && sideOk (0 : Int) sl), bitI w ((12 : Int) * (0 : Int) + sl), (sideOk (0 : Int) sl), g, false, true, true, (isW w && sideOk (1 : Int) sl), bitI w ((12 : Int) * (1 : Int) + sl), false], .int .u64 (IntKind.u64.wrap (↑(BitVec.ofInt IntKind.u64.bits (IntKind.u64.wrap (↑(BitVec.ofInt IntKind.u64.bits w &&& ~~~BitVec.ofInt IntKind.u64.bits (pw ((12 : Int) * (0 : Int) + sl))).toNat : Int)) ||| BitVec.ofInt IntKind.u64.bits (IntKind.u64.wrap ((1 : Int) * (2 : Int) ^ min (IntKind.i64.wrap ((24 : Int) + (0 : Int))).toNat IntKind.u64.bits))).toNat : Int))) := by kernel_rfl
theorem pdrop_way_5 (w sl : Int) (g : Bool) : walkV (ev sumsE2 60 179 [.int .u64 w, .int .i64 sl, .bool g] ⟨.nil, 0⟩) [true, true, true, true, true, false, false, true, true, true, true, true, false, false, false] =
    some ([true, true, (isW w && sideOk (0 : Int) sl), bitI w ((12 : Int) * (0 : Int) + sl), (sideOk (0 : Int) sl), g, false, true, true, (isW w && sideOk (1 : Int) sl), bitI w ((12 : Int) * (1 : Int) + sl), (sideOk (1 : Int) sl), g, false, false], .int .u64 (IntKind.u64.wrap (↑(BitVec.ofInt IntKind.u64.bits (IntKind.u64.wrap (↑(BitVec.ofInt IntKind.u64.bits (IntKind.u64.wrap (↑(BitVec.ofInt IntKind.u64.bits (IntKind.u64.wrap (↑(BitVec.ofInt IntKind.u64.bits w &&& ~~~BitVec.ofInt IntKind.u64.bits (pw ((12 : Int) * (0 : Int) + sl))).toNat : Int)) ||| BitVec.ofInt IntKind.u64.bits (IntKind.u64.wrap ((0 : Int) * (2 : Int) ^ min (IntKind.i64.wrap ((24 : Int) + (0 : Int))).toNat IntKind.u64.bits))).toNat : Int)) &&& ~~~BitVec.ofInt IntKind.u64.bits (pw ((12 : Int) * (1 : Int) + sl))).toNat : Int)) ||| BitVec.ofInt IntKind.u64.bits (IntKind.u64.wrap ((0 : Int) * (2 : Int) ^ min (IntKind.i64.wrap ((24 : Int) + (1 : Int))).toNat IntKind.u64.bits))).toNat : Int))) := by kernel_rfl
theorem pdrop_way_6 (w sl : Int) (g : Bool) : walkV (ev sumsE2 60 179 [.int .u64 w, .int .i64 sl, .bool g] ⟨.nil, 0⟩) [true, true, true, true, true, false, false, true, true, true, false, false] =
    some ([true, true, (isW w && sideOk (0 : Int) sl), bitI w ((12 : Int) * (0 : Int) + sl), (sideOk (0 : Int) sl), g, false, true, true, (isW w && sideOk (1 : Int) sl), bitI w ((12 : Int) * (1 : Int) + sl), false], .int .u64 (IntKind.u64.wrap (↑(BitVec.ofInt IntKind.u64.bits (IntKind.u64.wrap (↑(BitVec.ofInt IntKind.u64.bits w &&& ~~~BitVec.ofInt IntKind.u64.bits (pw ((12 : Int) * (0 : Int) + sl))).toNat : Int)) ||| BitVec.ofInt IntKind.u64.bits (IntKind.u64.wrap ((0 : Int) * (2 : Int) ^ min (IntKind.i64.wrap ((24 : Int) + (0 : Int))).toNat IntKind.u64.bits))).toNat : Int))) := by kernel_rfl
theorem pdrop_way_7 (w sl : Int) (g : Bool) : walkV (ev sumsE2 60 179 [.int .u64 w, .int .i64 sl, .bool g] ⟨.nil, 0⟩) [true, true, true, false, true, true, true, true, true, true, false, false] =
    some ([true, true, (isW w && sideOk (0 : Int) sl), bitI w ((12 : Int) * (0 : Int) + sl), true, true, (isW w && sideOk (1 : Int) sl), bitI w ((12 : Int) * (1 : Int) + sl), (sideOk (1 : Int) sl), g, false, false], .int .u64 (IntKind.u64.wrap (↑(BitVec.ofInt IntKind.u64.bits (IntKind.u64.wrap (↑(BitVec.ofInt IntKind.u64.bits w &&& ~~~BitVec.ofInt IntKind.u64.bits (pw ((12 : Int) * (1 : Int) + sl))).toNat : Int)) ||| BitVec.ofInt IntKind.u64.bits (IntKind.u64.wrap ((1 : Int) * (2 : Int) ^ min (IntKind.i64.wrap ((24 : Int) + (1 : Int))).toNat IntKind.u64.bits))).toNat : Int))) := by kernel_rfl
theorem pdrop_way_8 (w sl : Int) (g : Bool) : walkV (ev sumsE2 60 179 [.int .u64 w, .int .i64 sl, .bool g] ⟨.nil, 0⟩) [true, true, true, false, true, true, true, true, true, false, false, false] =
    some ([true, true, (isW w && sideOk (0 : Int) sl), bitI w ((12 : Int) * (0 : Int) + sl), true, true, (isW w && sideOk (1 : Int) sl), bitI w ((12 : Int) * (1 : Int) + sl), (sideOk (1 : Int) sl), g, false, false], .int .u64 (IntKind.u64.wrap (↑(BitVec.ofInt IntKind.u64.bits (IntKind.u64.wrap (↑(BitVec.ofInt IntKind.u64.bits w &&& ~~~BitVec.ofInt IntKind.u64.bits (pw ((12 : Int) * (1 : Int) + sl))).toNat : Int)) ||| BitVec.ofInt IntKind.u64.bits (IntKind.u64.wrap ((0 : Int) * (2 : Int) ^ min (IntKind.i64.wrap ((24 : Int) + (1 : Int))).toNat IntKind.u64.bits))).toNat : Int))) := by kernel_rfl
theorem pdrop_way_9 (w sl : Int) (g : Bool) : walkV (ev sumsE2 60 179 [.int .u64 w, .int .i64 sl, .bool g] ⟨.nil, 0⟩) [true, true, true, false, true, true, true, false, false] =
    some ([true, true, (isW w && sideOk (0 : Int) sl), bitI w ((12 : Int) * (0 : Int) + sl), true, true, (isW w && sideOk (1 : Int) sl), bitI w ((12 : Int) * (1 : Int) + sl), false], .int .u64 (w)) := by kernel_rfl
theorem pdrop_is {w sl : Int} (g : Bool) (h0 : 0 ≤ w) (h1 : w < 18446744073709551616) (h2 : 0 ≤ sl) (h3 : sl ≤ 11) : outV (ev sumsE2 60 179 [.int .u64 w, .int .i64 sl, .bool g] ⟨.nil, 0⟩) = some (.int .u64 (dropW w sl g)) := by
  have hw : isW w = true := isW_iff.2 ⟨h0, h1⟩
  have s0 : sideOk 0 sl = true := by simp only [sideOk, decide_eq_true_eq]; omega
  have s1 : sideOk 1 sl = true := by simp only [sideOk, decide_eq_true_eq]; omega
  have e01 : IntKind.i64.wrap ((0 : Int) + 1) = 1 := rfl
  have e240 : IntKind.i64.wrap ((24 : Int) + 0) = 24 := rfl
  have e241 : IntKind.i64.wrap ((24 : Int) + 1) = 25 := rfl
  have x24 : IntKind.i64.wrap (24 : Int) = 24 := rfl
  have x25 : IntKind.i64.wrap (25 : Int) = 25 := rfl
  have n0 : decide ((0 : Int) ≤ 12 * 0 + sl ∧ 12 * 0 + sl ≤ 40) = true := decide_eq_true (by omega)
  have n1 : decide ((0 : Int) ≤ 12 * 1 + sl ∧ 12 * 1 + sl ≤ 40) = true := decide_eq_true (by omega)
  have n2 : decide ((0 : Int) ≤ 24 ∧ (24 : Int) ≤ 40) = true := by decide
  have n3 : decide ((0 : Int) ≤ 25 ∧ (25 : Int) ≤ 40) = true := by decide
  have k24 : IntKind.u64.wrap ((1 : Int) * (2 : Int) ^ min (24 : Int).toNat IntKind.u64.bits) = pw 24 := shl_pw (by omega) (by omega)
  have k25 : IntKind.u64.wrap ((1 : Int) * (2 : Int) ^ min (25 : Int).toNat IntKind.u64.bits) = pw 25 := shl_pw (by omega) (by omega)
  have P : ∀ (x n : Int) (b : Bool), 0 ≤ x ∧ x < 18446744073709551616 → 0 ≤ n → n ≤ 40 → 0 ≤ putI x n b ∧ putI x n b < 18446744073709551616 := fun x n b h a c => put_word (n := n) b h.1 h.2 a c
  have C : ∀ (x n : Int), 0 ≤ x ∧ x < 18446744073709551616 → n ≤ 40 → IntKind.u64.wrap (↑(BitVec.ofInt IntKind.u64.bits x &&& ~~~BitVec.ofInt IntKind.u64.bits (pw n)).toNat) = putI x n false := fun x n h c => clrP h.1 h.2 c
  have O : ∀ (x n : Int), 0 ≤ x ∧ x < 18446744073709551616 → n ≤ 40 → IntKind.u64.wrap (↑(BitVec.ofInt IntKind.u64.bits x ||| BitVec.ofInt IntKind.u64.bits (pw n)).toNat) = putI x n true := fun x n h c => orP h.1 h.2 c
  have w0 : 0 ≤ w ∧ w < 18446744073709551616 := ⟨h0, h1⟩
  rcases bool_two (bitI w (12 * 0 + sl)) with b0 | b0 <;> rcases bool_two (bitI w (12 * 1 + sl)) with b1 | b1 <;> rcases bool_two g with hg | hg
  · have := outV_walk (pdrop_way_1 w sl g) (by
      simp only [e01, e240, e241, hw, s0, s1, b0, b1, hg, n0, n1, n2, n3, Bool.and_self, Bool.true_and, isW_iff.2 (P _ _ _ w0 (show 0 ≤ 12 * 0 + sl by omega) (by omega)), isW_iff.2 (P _ _ _ w0 (show 0 ≤ 12 * 1 + sl by omega) (by omega)), isW_iff.2 (P _ 24 true (P w (12 * 0 + sl) false w0 (by omega) (by omega)) (by omega) (by omega)), isW_iff.2 (P _ (12 * 1 + sl) false (P _ 24 true (P w (12 * 0 + sl) false w0 (by omega) (by omega)) (by omega) (by omega)) (by omega) (by omega)), isW_iff.2 (P _ (12 * 1 + sl) false (P w (12 * 0 + sl) false w0 (by omega) (by omega)) (by omega) (by omega))])
    rw [this]; simp only [e01, e240, e241, x24, x25, k24, k25, dropW, sideD, b0, b1, hg, cond_true, cond_false, show (24 : Int) + 0 = 24 from rfl, show (24 : Int) + 1 = 25 from rfl]
    rw [C (w) (12 * 0 + sl) (w0) (by omega)]
    rw [O (putI (w) (12 * 0 + sl) false) 24 (P (w) (12 * 0 + sl) false (w0) (by omega) (by omega)) (by omega)]
    rw [C (putI (putI (w) (12 * 0 + sl) false) 24 true) (12 * 1 + sl) (P (putI (w) (12 * 0 + sl) false) 24 true (P (w) (12 * 0 + sl) false (w0) (by omega) (by omega)) (by omega) (by omega)) (by omega)]
    rw [O (putI (putI (putI (w) (12 * 0 + sl) false) 24 true) (12 * 1 + sl) false) 25 (P (putI (putI (w) (12 * 0 + sl) false) 24 true) (12 * 1 + sl) false (P (putI (w) (12 * 0 + sl) false) 24 true (P (w) (12 * 0 + sl) false (w0) (by omega) (by omega)) (by omega) (by omega)) (by omega) (by omega)) (by omega)]
  · have := outV_walk (pdrop_way_5 w sl g) (by
      simp only [e01, e240, e241, hw, s0, s1, b0, b1, hg, n0, n1, n2, n3, Bool.and_self, Bool.true_and, isW_iff.2 (P _ _ _ w0 (show 0 ≤ 12 * 0 + sl by omega) (by omega)), isW_iff.2 (P _ _ _ w0 (show 0 ≤ 12 * 1 + sl by omega) (by omega)), isW_iff.2 (P _ 24 true (P w (12 * 0 + sl) false w0 (by omega) (by omega)) (by omega) (by omega)), isW_iff.2 (P _ (12 * 1 + sl) false (P _ 24 true (P w (12 * 0 + sl) false w0 (by omega) (by omega)) (by omega) (by omega)) (by omega) (by omega)), isW_iff.2 (P _ (12 * 1 + sl) false (P w (12 * 0 + sl) false w0 (by omega) (by omega)) (by omega) (by omega))])
    rw [this]; simp only [e01, e240, e241, x24, x25, k24, k25, dropW, sideD, b0, b1, hg, cond_true, cond_false, show (24 : Int) + 0 = 24 from rfl, show (24 : Int) + 1 = 25 from rfl]
    rw [C (w) (12 * 0 + sl) (w0) (by omega)]
    rw [or_no (P (w) (12 * 0 + sl) false (w0) (by omega) (by omega)).1 (P (w) (12 * 0 + sl) false (w0) (by omega) (by omega)).2]
    rw [C (putI (w) (12 * 0 + sl) false) (12 * 1 + sl) (P (w) (12 * 0 + sl) false (w0) (by omega) (by omega)) (by omega)]
    rw [or_no (P (putI (w) (12 * 0 + sl) false) (12 * 1 + sl) false (P (w) (12 * 0 + sl) false (w0) (by omega) (by omega)) (by omega) (by omega)).1 (P (putI (w) (12 * 0 + sl) false) (12 * 1 + sl) false (P (w) (12 * 0 + sl) false (w0) (by omega) (by omega)) (by omega) (by omega)).2]
  · have := outV_walk (pdrop_way_3 w sl g) (by
      simp only [e01, e240, e241, hw, s0, s1, b0, b1, hg, n0, n1, n2, n3, Bool.and_self, Bool.true_and, isW_iff.2 (P _ _ _ w0 (show 0 ≤ 12 * 0 + sl by omega) (by omega)), isW_iff.2 (P _ _ _ w0 (show 0 ≤ 12 * 1 + sl by omega) (by omega)), isW_iff.2 (P _ 24 true (P w (12 * 0 + sl) false w0 (by omega) (by omega)) (by omega) (by omega)), isW_iff.2 (P _ (12 * 1 + sl) false (P _ 24 true (P w (12 * 0 + sl) false w0 (by omega) (by omega)) (by omega) (by omega)) (by omega) (by omega)), isW_iff.2 (P _ (12 * 1 + sl) false (P w (12 * 0 + sl) false w0 (by omega) (by omega)) (by omega) (by omega))])
    rw [this]; simp only [e01, e240, e241, x24, x25, k24, k25, dropW, sideD, b0, b1, hg, cond_true, cond_false, show (24 : Int) + 0 = 24 from rfl, show (24 : Int) + 1 = 25 from rfl]
    rw [C (w) (12 * 0 + sl) (w0) (by omega)]
    rw [O (putI (w) (12 * 0 + sl) false) 24 (P (w) (12 * 0 + sl) false (w0) (by omega) (by omega)) (by omega)]
  · have := outV_walk (pdrop_way_6 w sl g) (by
      simp only [e01, e240, e241, hw, s0, s1, b0, b1, hg, n0, n1, n2, n3, Bool.and_self, Bool.true_and, isW_iff.2 (P _ _ _ w0 (show 0 ≤ 12 * 0 + sl by omega) (by omega)), isW_iff.2 (P _ _ _ w0 (show 0 ≤ 12 * 1 + sl by omega) (by omega)), isW_iff.2 (P _ 24 true (P w (12 * 0 + sl) false w0 (by omega) (by omega)) (by omega) (by omega)), isW_iff.2 (P _ (12 * 1 + sl) false (P _ 24 true (P w (12 * 0 + sl) false w0 (by omega) (by omega)) (by omega) (by omega)) (by omega) (by omega)), isW_iff.2 (P _ (12 * 1 + sl) false (P w (12 * 0 + sl) false w0 (by omega) (by omega)) (by omega) (by omega))])
    rw [this]; simp only [e01, e240, e241, x24, x25, k24, k25, dropW, sideD, b0, b1, hg, cond_true, cond_false, show (24 : Int) + 0 = 24 from rfl, show (24 : Int) + 1 = 25 from rfl]
    rw [C (w) (12 * 0 + sl) (w0) (by omega)]
    rw [or_no (P (w) (12 * 0 + sl) false (w0) (by omega) (by omega)).1 (P (w) (12 * 0 + sl) false (w0) (by omega) (by omega)).2]
  · have := outV_walk (pdrop_way_7 w sl g) (by
      simp only [e01, e240, e241, hw, s0, s1, b0, b1, hg, n0, n1, n2, n3, Bool.and_self, Bool.true_and, isW_iff.2 (P _ _ _ w0 (show 0 ≤ 12 * 0 + sl by omega) (by omega)), isW_iff.2 (P _ _ _ w0 (show 0 ≤ 12 * 1 + sl by omega) (by omega)), isW_iff.2 (P _ 24 true (P w (12 * 0 + sl) false w0 (by omega) (by omega)) (by omega) (by omega)), isW_iff.2 (P _ (12 * 1 + sl) false (P _ 24 true (P w (12 * 0 + sl) false w0 (by omega) (by omega)) (by omega) (by omega)) (by omega) (by omega)), isW_iff.2 (P _ (12 * 1 + sl) false (P w (12 * 0 + sl) false w0 (by omega) (by omega)) (by omega) (by omega))])
    rw [this]; simp only [e01, e240, e241, x24, x25, k24, k25, dropW, sideD, b0, b1, hg, cond_true, cond_false, show (24 : Int) + 0 = 24 from rfl, show (24 : Int) + 1 = 25 from rfl]
    rw [C (w) (12 * 1 + sl) (w0) (by omega)]
    rw [O (putI (w) (12 * 1 + sl) false) 25 (P (w) (12 * 1 + sl) false (w0) (by omega) (by omega)) (by omega)]
  · have := outV_walk (pdrop_way_8 w sl g) (by
      simp only [e01, e240, e241, hw, s0, s1, b0, b1, hg, n0, n1, n2, n3, Bool.and_self, Bool.true_and, isW_iff.2 (P _ _ _ w0 (show 0 ≤ 12 * 0 + sl by omega) (by omega)), isW_iff.2 (P _ _ _ w0 (show 0 ≤ 12 * 1 + sl by omega) (by omega)), isW_iff.2 (P _ 24 true (P w (12 * 0 + sl) false w0 (by omega) (by omega)) (by omega) (by omega)), isW_iff.2 (P _ (12 * 1 + sl) false (P _ 24 true (P w (12 * 0 + sl) false w0 (by omega) (by omega)) (by omega) (by omega)) (by omega) (by omega)), isW_iff.2 (P _ (12 * 1 + sl) false (P w (12 * 0 + sl) false w0 (by omega) (by omega)) (by omega) (by omega))])
    rw [this]; simp only [e01, e240, e241, x24, x25, k24, k25, dropW, sideD, b0, b1, hg, cond_true, cond_false, show (24 : Int) + 0 = 24 from rfl, show (24 : Int) + 1 = 25 from rfl]
    rw [C (w) (12 * 1 + sl) (w0) (by omega)]
    rw [or_no (P (w) (12 * 1 + sl) false (w0) (by omega) (by omega)).1 (P (w) (12 * 1 + sl) false (w0) (by omega) (by omega)).2]
  · have := outV_walk (pdrop_way_9 w sl g) (by
      simp only [e01, e240, e241, hw, s0, s1, b0, b1, hg, n0, n1, n2, n3, Bool.and_self, Bool.true_and, isW_iff.2 (P _ _ _ w0 (show 0 ≤ 12 * 0 + sl by omega) (by omega)), isW_iff.2 (P _ _ _ w0 (show 0 ≤ 12 * 1 + sl by omega) (by omega)), isW_iff.2 (P _ 24 true (P w (12 * 0 + sl) false w0 (by omega) (by omega)) (by omega) (by omega)), isW_iff.2 (P _ (12 * 1 + sl) false (P _ 24 true (P w (12 * 0 + sl) false w0 (by omega) (by omega)) (by omega) (by omega)) (by omega) (by omega)), isW_iff.2 (P _ (12 * 1 + sl) false (P w (12 * 0 + sl) false w0 (by omega) (by omega)) (by omega) (by omega))])
    rw [this]; simp only [e01, e240, e241, x24, x25, k24, k25, dropW, sideD, b0, b1, hg, cond_true, cond_false, show (24 : Int) + 0 = 24 from rfl, show (24 : Int) + 1 = 25 from rfl]
  · have := outV_walk (pdrop_way_9 w sl g) (by
      simp only [e01, e240, e241, hw, s0, s1, b0, b1, hg, n0, n1, n2, n3, Bool.and_self, Bool.true_and, isW_iff.2 (P _ _ _ w0 (show 0 ≤ 12 * 0 + sl by omega) (by omega)), isW_iff.2 (P _ _ _ w0 (show 0 ≤ 12 * 1 + sl by omega) (by omega)), isW_iff.2 (P _ 24 true (P w (12 * 0 + sl) false w0 (by omega) (by omega)) (by omega) (by omega)), isW_iff.2 (P _ (12 * 1 + sl) false (P _ 24 true (P w (12 * 0 + sl) false w0 (by omega) (by omega)) (by omega) (by omega)) (by omega) (by omega)), isW_iff.2 (P _ (12 * 1 + sl) false (P w (12 * 0 + sl) false w0 (by omega) (by omega)) (by omega) (by omega))])
    rw [this]; simp only [e01, e240, e241, x24, x25, k24, k25, dropW, sideD, b0, b1, hg, cond_true, cond_false, show (24 : Int) + 0 = 24 from rfl, show (24 : Int) + 1 = 25 from rfl]
theorem rdropw_way_1 (w sl : Int) (g : Bool) : walkV (ev sumsE2 60 26 [.int .u64 w, .int .i64 sl, .bool g] ⟨.nil, 0⟩) [true, true, true, true, true, true, true, true, true, true, true, true, true, true, false] =
    some ([true, (isW w && sideOk (0 : Int) sl), bitI w ((12 : Int) * (0 : Int) + sl), (sideOk (0 : Int) sl), (isW w && decide ((0 : Int) ≤ (12 : Int) * (0 : Int) + sl ∧ (12 : Int) * (0 : Int) + sl ≤ (40 : Int))), g, (isW (putI w ((12 : Int) * (0 : Int) + sl) false) && decide ((0 : Int) ≤ IntKind.i64.wrap ((24 : Int) + (0 : Int)) ∧ IntKind.i64.wrap ((24 : Int) + (0 : Int)) ≤ (40 : Int)), Value.int IntKind.u64 (putI (putI w ((12 : Int) * (0 : Int) + sl) false) (IntKind.i64.wrap ((24 : Int) + (0 : Int))) true)).fst, true, (isW w && sideOk (IntKind.i64.wrap ((0 : Int) + (1 : Int))) sl, Value.bool (bitI w ((12 : Int) * IntKind.i64.wrap ((0 : Int) + (1 : Int)) + sl))).fst, bitI w ((12 : Int) * IntKind.i64.wrap ((0 : Int) + (1 : Int)) + sl), (sideOk (IntKind.i64.wrap ((0 : Int) + (1 : Int))) sl, Value.int IntKind.i64 ((12 : Int) * IntKind.i64.wrap ((0 : Int) + (1 : Int)) + sl)).fst, (isW (putI (putI w ((12 : Int) * (0 : Int) + sl) false) (IntKind.i64.wrap ((24 : Int) + (0 : Int))) true) && decide ((0 : Int) ≤ (12 : Int) * IntKind.i64.wrap ((0 : Int) + (1 : Int)) + sl ∧ (12 : Int) * IntKind.i64.wrap ((0 : Int) + (1 : Int)) + sl ≤ (40 : Int)), Value.int IntKind.u64 (putI (putI (putI w ((12 : Int) * (0 : Int) + sl) false) (IntKind.i64.wrap ((24 : Int) + (0 : Int))) true) ((12 : Int) * IntKind.i64.wrap ((0 : Int) + (1 : Int)) + sl) false)).fst, g, (isW (putI (putI (putI w ((12 : Int) * (0 : Int) + sl) false) (IntKind.i64.wrap ((24 : Int) + (0 : Int))) true) ((12 : Int) * IntKind.i64.wrap ((0 : Int) + (1 : Int)) + sl) false) && decide ((0 : Int) ≤ IntKind.i64.wrap ((24 : Int) + IntKind.i64.wrap ((0 : Int) + (1 : Int))) ∧ IntKind.i64.wrap ((24 : Int) + IntKind.i64.wrap ((0 : Int) + (1 : Int))) ≤ (40 : Int)), Value.int IntKind.u64 (putI (putI (putI (putI w ((12 : Int) * (0 : Int) + sl) false) (IntKind.i64.wrap ((24 : Int) + (0 : Int))) true) ((12 : Int) * IntKind.i64.wrap ((0 : Int) + (1 : Int)) + sl) false) (IntKind.i64.wrap ((24 : Int) + IntKind.i64.wrap ((0 : Int) + (1 : Int)))) true)).fst, false], .int .u64 (putI (putI (putI (putI w ((12 : Int) * (0 : Int) + sl) false) (IntKind.i64.wrap ((24 : Int) + (0 : Int))) true) ((12 : Int) * IntKind.i64.wrap ((0 : Int) + (1 : Int)) + sl) false) (IntKind.i64.wrap ((24 : Int) + IntKind.i64.wrap ((0 : Int) + (1 : Int)))) true)) := by kernel_rfl
theorem rdropw_way_3 (w sl : Int) (g : Bool) : walkV (ev sumsE2 60 26 [.int .u64 w, .int .i64 sl, .bool g] ⟨.nil, 0⟩) [true, true, true, true, true, true, true, true, true, false, false] =
    some ([true, (isW w && sideOk (0 : Int) sl), bitI w ((12 : Int) * (0 : Int) + sl), (sideOk (0 : Int) sl), (isW w && decide ((0 : Int) ≤ (12 : Int) * (0 : Int) + sl ∧ (12 : Int) * (0 : Int) + sl ≤ (40 : Int))), g, (isW (putI w ((12 : Int) * (0 : Int) + sl) false) && decide ((0 : Int) ≤ IntKind.i64.wrap ((24 : Int) + (0 : Int)) ∧ IntKind.i64.wrap ((24 : Int) + (0 : Int)) ≤ (40 : Int)), Value.int IntKind.u64 (putI (putI w ((12 : Int) * (0 : Int) + sl) false) (IntKind.i64.wrap ((24 : Int) + (0 : Int))) true)).fst, true, (isW w && sideOk (IntKind.i64.wrap ((0 : Int) + (1 : Int))) sl, Value.bool (bitI w ((12 : Int) * IntKind.i64.wrap ((0 : Int) + (1 : Int)) + sl))).fst, bitI w ((12 : Int) * IntKind.i64.wrap ((0 : Int) + (1 : Int)) + sl), false], .int .u64 (putI (putI w ((12 : Int) * (0 : Int) + sl) false) (IntKind.i64.wrap ((24 : Int) + (0 : Int))) true)) := by kernel_rfl
theorem rdropw_way_5 (w sl : Int) (g : Bool) : walkV (ev sumsE2 60 26 [.int .u64 w, .int .i64 sl, .bool g] ⟨.nil, 0⟩) [true, true, true, true, true, false, true, true, true, true, true, false, false] =
    some ([true, (isW w && sideOk (0 : Int) sl), bitI w ((12 : Int) * (0 : Int) + sl), (sideOk (0 : Int) sl), (isW w && decide ((0 : Int) ≤ (12 : Int) * (0 : Int) + sl ∧ (12 : Int) * (0 : Int) + sl ≤ (40 : Int))), g, true, (isW w && sideOk (IntKind.i64.wrap ((0 : Int) + (1 : Int))) sl, Value.bool (bitI w ((12 : Int) * IntKind.i64.wrap ((0 : Int) + (1 : Int)) + sl))).fst, bitI w ((12 : Int) * IntKind.i64.wrap ((0 : Int) + (1 : Int)) + sl), (sideOk (IntKind.i64.wrap ((0 : Int) + (1 : Int))) sl, Value.int IntKind.i64 ((12 : Int) * IntKind.i64.wrap ((0 : Int) + (1 : Int)) + sl)).fst, (isW (putI w ((12 : Int) * (0 : Int) + sl) false) && decide ((0 : Int) ≤ (12 : Int) * IntKind.i64.wrap ((0 : Int) + (1 : Int)) + sl ∧ (12 : Int) * IntKind.i64.wrap ((0 : Int) + (1 : Int)) + sl ≤ (40 : Int)), Value.int IntKind.u64 (putI (putI w ((12 : Int) * (0 : Int) + sl) false) ((12 : Int) * IntKind.i64.wrap ((0 : Int) + (1 : Int)) + sl) false)).fst, g, false], .int .u64 (putI (putI w ((12 : Int) * (0 : Int) + sl) false) ((12 : Int) * IntKind.i64.wrap ((0 : Int) + (1 : Int)) + sl) false)) := by kernel_rfl
theorem rdropw_way_6 (w sl : Int) (g : Bool) : walkV (ev sumsE2 60 26 [.int .u64 w, .int .i64 sl, .bool g] ⟨.nil, 0⟩) [true, true, true, true, true, false, true, true, false, false] =
    some ([true, (isW w && sideOk (0 : Int) sl), bitI w ((12 : Int) * (0 : Int) + sl), (sideOk (0 : Int) sl), (isW w && decide ((0 : Int) ≤ (12 : Int) * (0 : Int) + sl ∧ (12 : Int) * (0 : Int) + sl ≤ (40 : Int))), g, true, (isW w && sideOk (IntKind.i64.wrap ((0 : Int) + (1 : Int))) sl, Value.bool (bitI w ((12 : Int) * IntKind.i64.wrap ((0 : Int) + (1 : Int)) + sl))).fst, bitI w ((12 : Int) * IntKind.i64.wrap ((0 : Int) + (1 : Int)) + sl), false], .int .u64 (putI w ((12 : Int) * (0 : Int) + sl) false)) := by kernel_rfl
theorem rdropw_way_7 (w sl : Int) (g : Bool) : walkV (ev sumsE2 60 26 [.int .u64 w, .int .i64 sl, .bool g] ⟨.nil, 0⟩) [true, true, false, true, true, true, true, true, true, true, false] =
    some ([true, (isW w && sideOk (0 : Int) sl), bitI w ((12 : Int) * (0 : Int) + sl), true, (isW w && sideOk (IntKind.i64.wrap ((0 : Int) + (1 : Int))) sl, Value.bool (bitI w ((12 : Int) * IntKind.i64.wrap ((0 : Int) + (1 : Int)) + sl))).fst, bitI w ((12 : Int) * IntKind.i64.wrap ((0 : Int) + (1 : Int)) + sl), (sideOk (IntKind.i64.wrap ((0 : Int) + (1 : Int))) sl, Value.int IntKind.i64 ((12 : Int) * IntKind.i64.wrap ((0 : Int) + (1 : Int)) + sl)).fst, (isW w && decide ((0 : Int) ≤ (12 : Int) * IntKind.i64.wrap ((0 : Int) + (1 : Int)) + sl ∧ (12 : Int) * IntKind.i64.wrap ((0 : Int) + (1 : Int)) + sl ≤ (40 : Int)), Value.int IntKind.u64 (putI w ((12 : Int) * IntKind.i64.wrap ((0 : Int) + (1 : Int)) + sl) false)).fst, g, (isW (putI w ((12 : Int) * IntKind.i64.wrap ((0 : Int) + (1 : Int)) + sl) false) && decide ((0 : Int) ≤ IntKind.i64.wrap ((24 : Int) + IntKind.i64.wrap ((0 : Int) + (1 : Int))) ∧ IntKind.i64.wrap ((24 : Int) + IntKind.i64.wrap ((0 : Int) + (1 : Int))) ≤ (40 : Int)), Value.int IntKind.u64 (putI (putI w ((12 : Int) * IntKind.i64.wrap ((0 : Int) + (1 : Int)) + sl) false) (IntKind.i64.wrap ((24 : Int) + IntKind.i64.wrap ((0 : Int) + (1 : Int)))) true)).fst, false], .int .u64 (putI (putI w ((12 : Int) * IntKind.i64.wrap ((0 : Int) + (1 : Int)) + sl) false) (IntKind.i64.wrap ((24 : Int) + IntKind.i64.wrap ((0 : Int) + (1 : Int)))) true)) := by kernel_rfl
theorem rdropw_way_8 (w sl : Int) (g : Bool) : walkV (ev sumsE2 60 26 [.int .u64 w, .int .i64 sl, .bool g] ⟨.nil, 0⟩) [true, true, false, true, true, true, true, true, false, false] =
    some ([true, (isW w && sideOk (0 : Int) sl), bitI w ((12 : Int) * (0 : Int) + sl), true, (isW w && sideOk (IntKind.i64.wrap ((0 : Int) + (1 : Int))) sl, Value.bool (bitI w ((12 : Int) * IntKind.i64.wrap ((0 : Int) + (1 : Int)) + sl))).fst, bitI w ((12 : Int) * IntKind.i64.wrap ((0 : Int) + (1 : Int)) + sl), (sideOk (IntKind.i64.wrap ((0 : Int) + (1 : Int))) sl, Value.int IntKind.i64 ((12 : Int) * IntKind.i64.wrap ((0 : Int) + (1 : Int)) + sl)).fst, (isW w && decide ((0 : Int) ≤ (12 : Int) * IntKind.i64.wrap ((0 : Int) + (1 : Int)) + sl ∧ (12 : Int) * IntKind.i64.wrap ((0 : Int) + (1 : Int)) + sl ≤ (40 : Int)), Value.int IntKind.u64 (putI w ((12 : Int) * IntKind.i64.wrap ((0 : Int) + (1 : Int)) + sl) false)).fst, g, false], .int .u64 (putI w ((12 : Int) * IntKind.i64.wrap ((0 : Int) + (1 : Int)) + sl) false)) := by kernel_rfl
theorem rdropw_way_9 (w sl : Int) (g : Bool) : walkV (ev sumsE2 60 26 [.int .u64 w, .int .i64 sl, .bool g] ⟨.nil, 0⟩) [true, true, false, true, true, false, false] =
    some ([true, (isW w && sideOk (0 : Int) sl), bitI w ((12 : Int) * (0 : Int) + sl), true, (isW w && sideOk (IntKind.i64.wrap ((0 : Int) + (1 : Int))) sl, Value.bool (bitI w ((12 : Int) * IntKind.i64.wrap ((0 : Int) + (1 : Int)) + sl))).fst, bitI w ((12 : Int) * IntKind.i64.wrap ((0 : Int) + (1 : Int)) + sl), false], .int .u64 (w)) := by kernel_rfl
theorem rdropw_is {w sl : Int} (g : Bool) (h0 : 0 ≤ w) (h1 : w < 18446744073709551616) (h2 : 0 ≤ sl) (h3 : sl ≤ 11) : outV (ev sumsE2 60 26 [.int .u64 w, .int .i64 sl, .bool g] ⟨.nil, 0⟩) = some (.int .u64 (dropW w sl g)) := by
  have hw : isW w = true := isW_iff.2 ⟨h0, h1⟩
  have s0 : sideOk 0 sl = true := by simp only [sideOk, decide_eq_true_eq]; omega
  have s1 : sideOk 1 sl = true := by simp only [sideOk, decide_eq_true_eq]; omega
  have e01 : IntKind.i64.wrap ((0 : Int) + 1) = 1 := rfl
  have e240 : IntKind.i64.wrap ((24 : Int) + 0) = 24 := rfl
  have e241 : IntKind.i64.wrap ((24 : Int) + 1) = 25 := rfl
  have x24 : IntKind.i64.wrap (24 : Int) = 24 := rfl
  have x25 : IntKind.i64.wrap (25 : Int) = 25 := rfl
  have n0 : decide ((0 : Int) ≤ 12 * 0 + sl ∧ 12 * 0 + sl ≤ 40) = true := decide_eq_true (by omega)
  have n1 : decide ((0 : Int) ≤ 12 * 1 + sl ∧ 12 * 1 + sl ≤ 40) = true := decide_eq_true (by omega)
  have n2 : decide ((0 : Int) ≤ 24 ∧ (24 : Int) ≤ 40) = true := by decide
  have n3 : decide ((0 : Int) ≤ 25 ∧ (25 : Int) ≤ 40) = true := by decide
  have k24 : IntKind.u64.wrap ((1 : Int) * (2 : Int) ^ min (24 : Int).toNat IntKind.u64.bits) = pw 24 := shl_pw (by omega) (by omega)
  have k25 : IntKind.u64.wrap ((1 : Int) * (2 : Int) ^ min (25 : Int).toNat IntKind.u64.bits) = pw 25 := shl_pw (by omega) (by omega)
  have P : ∀ (x n : Int) (b : Bool), 0 ≤ x ∧ x < 18446744073709551616 → 0 ≤ n → n ≤ 40 → 0 ≤ putI x n b ∧ putI x n b < 18446744073709551616 := fun x n b h a c => put_word (n := n) b h.1 h.2 a c
  have C : ∀ (x n : Int), 0 ≤ x ∧ x < 18446744073709551616 → n ≤ 40 → IntKind.u64.wrap (↑(BitVec.ofInt IntKind.u64.bits x &&& ~~~BitVec.ofInt IntKind.u64.bits (pw n)).toNat) = putI x n false := fun x n h c => clrP h.1 h.2 c
  have O : ∀ (x n : Int), 0 ≤ x ∧ x < 18446744073709551616 → n ≤ 40 → IntKind.u64.wrap (↑(BitVec.ofInt IntKind.u64.bits x ||| BitVec.ofInt IntKind.u64.bits (pw n)).toNat) = putI x n true := fun x n h c => orP h.1 h.2 c
  have w0 : 0 ≤ w ∧ w < 18446744073709551616 := ⟨h0, h1⟩
  rcases bool_two (bitI w (12 * 0 + sl)) with b0 | b0 <;> rcases bool_two (bitI w (12 * 1 + sl)) with b1 | b1 <;> rcases bool_two g with hg | hg
  · have := outV_walk (rdropw_way_1 w sl g) (by
      simp only [e01, e240, e241, hw, s0, s1, b0, b1, hg, n0, n1, n2, n3, Bool.and_self, Bool.true_and, isW_iff.2 (P _ _ _ w0 (show 0 ≤ 12 * 0 + sl by omega) (by omega)), isW_iff.2 (P _ _ _ w0 (show 0 ≤ 12 * 1 + sl by omega) (by omega)), isW_iff.2 (P _ 24 true (P w (12 * 0 + sl) false w0 (by omega) (by omega)) (by omega) (by omega)), isW_iff.2 (P _ (12 * 1 + sl) false (P _ 24 true (P w (12 * 0 + sl) false w0 (by omega) (by omega)) (by omega) (by omega)) (by omega) (by omega)), isW_iff.2 (P _ (12 * 1 + sl) false (P w (12 * 0 + sl) false w0 (by omega) (by omega)) (by omega) (by omega))])
    rw [this]; simp only [e01, e240, e241, x24, x25, k24, k25, dropW, sideD, b0, b1, hg, cond_true, cond_false, show (24 : Int) + 0 = 24 from rfl, show (24 : Int) + 1 = 25 from rfl]
  · have := outV_walk (rdropw_way_5 w sl g) (by
      simp only [e01, e240, e241, hw, s0, s1, b0, b1, hg, n0, n1, n2, n3, Bool.and_self, Bool.true_and, isW_iff.2 (P _ _ _ w0 (show 0 ≤ 12 * 0 + sl by omega) (by omega)), isW_iff.2 (P _ _ _ w0 (show 0 ≤ 12 * 1 + sl by omega) (by omega)), isW_iff.2 (P _ 24 true (P w (12 * 0 + sl) false w0 (by omega) (by omega)) (by omega) (by omega)), isW_iff.2 (P _ (12 * 1 + sl) false (P _ 24 true (P w (12 * 0 + sl) false w0 (by omega) (by omega)) (by omega) (by omega)) (by omega) (by omega)), isW_iff.2 (P _ (12 * 1 + sl) false (P w (12 * 0 + sl) false w0 (by omega) (by omega)) (by omega) (by omega))])
    rw [this]; simp only [e01, e240, e241, x24, x25, k24, k25, dropW, sideD, b0, b1, hg, cond_true, cond_false, show (24 : Int) + 0 = 24 from rfl, show (24 : Int) + 1 = 25 from rfl]
  · have := outV_walk (rdropw_way_3 w sl g) (by
      simp only [e01, e240, e241, hw, s0, s1, b0, b1, hg, n0, n1, n2, n3, Bool.and_self, Bool.true_and, isW_iff.2 (P _ _ _ w0 (show 0 ≤ 12 * 0 + sl by omega) (by omega)), isW_iff.2 (P _ _ _ w0 (show 0 ≤ 12 * 1 + sl by omega) (by omega)), isW_iff.2 (P _ 24 true (P w (12 * 0 + sl) false w0 (by omega) (by omega)) (by omega) (by omega)), isW_iff.2 (P _ (12 * 1 + sl) false (P _ 24 true (P w (12 * 0 + sl) false w0 (by omega) (by omega)) (by omega) (by omega)) (by omega) (by omega)), isW_iff.2 (P _ (12 * 1 + sl) false (P w (12 * 0 + sl) false w0 (by omega) (by omega)) (by omega) (by omega))])
    rw [this]; simp only [e01, e240, e241, x24, x25, k24, k25, dropW, sideD, b0, b1, hg, cond_true, cond_false, show (24 : Int) + 0 = 24 from rfl, show (24 : Int) + 1 = 25 from rfl]
  · have := outV_walk (rdropw_way_6 w sl g) (by
      simp only [e01, e240, e241, hw, s0, s1, b0, b1, hg, n0, n1, n2, n3, Bool.and_self, Bool.true_and, isW_iff.2 (P _ _ _ w0 (show 0 ≤ 12 * 0 + sl by omega) (by omega)), isW_iff.2 (P _ _ _ w0 (show 0 ≤ 12 * 1 + sl by omega) (by omega)), isW_iff.2 (P _ 24 true (P w (12 * 0 + sl) false w0 (by omega) (by omega)) (by omega) (by omega)), isW_iff.2 (P _ (12 * 1 + sl) false (P _ 24 true (P w (12 * 0 + sl) false w0 (by omega) (by omega)) (by omega) (by omega)) (by omega) (by omega)), isW_iff.2 (P _ (12 * 1 + sl) false (P w (12 * 0 + sl) false w0 (by omega) (by omega)) (by omega) (by omega))])
    rw [this]; simp only [e01, e240, e241, x24, x25, k24, k25, dropW, sideD, b0, b1, hg, cond_true, cond_false, show (24 : Int) + 0 = 24 from rfl, show (24 : Int) + 1 = 25 from rfl]
  · have := outV_walk (rdropw_way_7 w sl g) (by
      simp only [e01, e240, e241, hw, s0, s1, b0, b1, hg, n0, n1, n2, n3, Bool.and_self, Bool.true_and, isW_iff.2 (P _ _ _ w0 (show 0 ≤ 12 * 0 + sl by omega) (by omega)), isW_iff.2 (P _ _ _ w0 (show 0 ≤ 12 * 1 + sl by omega) (by omega)), isW_iff.2 (P _ 24 true (P w (12 * 0 + sl) false w0 (by omega) (by omega)) (by omega) (by omega)), isW_iff.2 (P _ (12 * 1 + sl) false (P _ 24 true (P w (12 * 0 + sl) false w0 (by omega) (by omega)) (by omega) (by omega)) (by omega) (by omega)), isW_iff.2 (P _ (12 * 1 + sl) false (P w (12 * 0 + sl) false w0 (by omega) (by omega)) (by omega) (by omega))])
    rw [this]; simp only [e01, e240, e241, x24, x25, k24, k25, dropW, sideD, b0, b1, hg, cond_true, cond_false, show (24 : Int) + 0 = 24 from rfl, show (24 : Int) + 1 = 25 from rfl]
  · have := outV_walk (rdropw_way_8 w sl g) (by
      simp only [e01, e240, e241, hw, s0, s1, b0, b1, hg, n0, n1, n2, n3, Bool.and_self, Bool.true_and, isW_iff.2 (P _ _ _ w0 (show 0 ≤ 12 * 0 + sl by omega) (by omega)), isW_iff.2 (P _ _ _ w0 (show 0 ≤ 12 * 1 + sl by omega) (by omega)), isW_iff.2 (P _ 24 true (P w (12 * 0 + sl) false w0 (by omega) (by omega)) (by omega) (by omega)), isW_iff.2 (P _ (12 * 1 + sl) false (P _ 24 true (P w (12 * 0 + sl) false w0 (by omega) (by omega)) (by omega) (by omega)) (by omega) (by omega)), isW_iff.2 (P _ (12 * 1 + sl) false (P w (12 * 0 + sl) false w0 (by omega) (by omega)) (by omega) (by omega))])
    rw [this]; simp only [e01, e240, e241, x24, x25, k24, k25, dropW, sideD, b0, b1, hg, cond_true, cond_false, show (24 : Int) + 0 = 24 from rfl, show (24 : Int) + 1 = 25 from rfl]
  · have := outV_walk (rdropw_way_9 w sl g) (by
      simp only [e01, e240, e241, hw, s0, s1, b0, b1, hg, n0, n1, n2, n3, Bool.and_self, Bool.true_and, isW_iff.2 (P _ _ _ w0 (show 0 ≤ 12 * 0 + sl by omega) (by omega)), isW_iff.2 (P _ _ _ w0 (show 0 ≤ 12 * 1 + sl by omega) (by omega)), isW_iff.2 (P _ 24 true (P w (12 * 0 + sl) false w0 (by omega) (by omega)) (by omega) (by omega)), isW_iff.2 (P _ (12 * 1 + sl) false (P _ 24 true (P w (12 * 0 + sl) false w0 (by omega) (by omega)) (by omega) (by omega)) (by omega) (by omega)), isW_iff.2 (P _ (12 * 1 + sl) false (P w (12 * 0 + sl) false w0 (by omega) (by omega)) (by omega) (by omega))])
    rw [this]; simp only [e01, e240, e241, x24, x25, k24, k25, dropW, sideD, b0, b1, hg, cond_true, cond_false, show (24 : Int) + 0 = 24 from rfl, show (24 : Int) + 1 = 25 from rfl]
  · have := outV_walk (rdropw_way_9 w sl g) (by
      simp only [e01, e240, e241, hw, s0, s1, b0, b1, hg, n0, n1, n2, n3, Bool.and_self, Bool.true_and, isW_iff.2 (P _ _ _ w0 (show 0 ≤ 12 * 0 + sl by omega) (by omega)), isW_iff.2 (P _ _ _ w0 (show 0 ≤ 12 * 1 + sl by omega) (by omega)), isW_iff.2 (P _ 24 true (P w (12 * 0 + sl) false w0 (by omega) (by omega)) (by omega) (by omega)), isW_iff.2 (P _ (12 * 1 + sl) false (P _ 24 true (P w (12 * 0 + sl) false w0 (by omega) (by omega)) (by omega) (by omega)) (by omega) (by omega)), isW_iff.2 (P _ (12 * 1 + sl) false (P w (12 * 0 + sl) false w0 (by omega) (by omega)) (by omega) (by omega))])
    rw [this]; simp only [e01, e240, e241, x24, x25, k24, k25, dropW, sideD, b0, b1, hg, cond_true, cond_false, show (24 : Int) + 0 = 24 from rfl, show (24 : Int) + 1 = 25 from rfl]
def dropWS : List Value → Option (Bool × Value)
  | [.int .u64 w, .int .i64 sl, .bool g] => some (isW w && decide (0 ≤ sl ∧ sl ≤ 11), .int .u64 (dropW w sl g))
  | _ => none
noncomputable def sumsE3 : Sums := withIf (withIf sumsE2 179 dropWS) 26 dropWS
theorem sumsE3_ok : SumsOk sumsE3 := by
  refine withIf_ok (withIf_ok sumsE2_ok sumsE2_ok 60 (by kernel_rfl) fun al v h => ?_) sumsE2_ok 60 (by kernel_rfl) fun al v h => ?_
  all_goals
    unfold dropWS at h
    split at h
    case h_2 => cases h
    rename_i w sl g
    simp only [Option.some.injEq, Prod.mk.injEq, Bool.and_eq_true, isW_iff, decide_eq_true_eq] at h
    obtain ⟨⟨⟨h0, h1⟩, h2, h3⟩, rfl⟩ := h
    refine ⟨rfl, rfl, ?_⟩
  · exact pdrop_is g h0 h1 h2 h3
  · exact rdropw_is g h0 h1 h2 h3
end Go.Proofs.YtfccbghmagohaaaGreat.Bound
