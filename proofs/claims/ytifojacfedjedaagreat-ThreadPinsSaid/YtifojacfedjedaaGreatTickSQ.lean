/- Tickets: the program's and the document's tell the same. No condition. -/
import Derived.Test.YtifojacfedjedaaGreatBasB
namespace Go.Proofs.YtifojacfedjedaaGreat.Bound
open Go.Proofs.YtifojacfedjedaaGreat.Ev
set_option linter.unusedVariables false
set_option linter.unusedSimpArgs false
def slB (h : Int) : Bool := decide (1 ≤ h % 16 ∧ h % 16 ≤ 12)
def slI (h : Int) : Int := if slB h = true then h % 16 - 1 else 0
def genI (h : Int) : Int := if 1073741823 < h / 16 then 1073741824 else h / 16
theorem and15 {h : Int} (h0 : 0 ≤ h) (h1 : h < 18446744073709551616) : IntKind.u64.wrap (↑(BitVec.ofInt IntKind.u64.bits h &&& BitVec.ofInt IntKind.u64.bits (15 : Int)).toNat : Int) = h % 16 := by
  rw [p_and h0 h1 (by omega) (by omega)]
  have : h.toNat &&& (15 : Int).toNat = h.toNat % 16 := Nat.and_two_pow_sub_one_eq_mod _ 4
  rw [this]
  omega
theorem ps_way_1 (h : Int) : walkV (ev sumsE3 60 138 [.int .u64 h] ⟨.nil, 0⟩) [true, true, false, true, true, true, true, true, true, true] =
    some ([true, true, false, true, true, true, decide (IntKind.i64.wrap (IntKind.i64.wrap (IntKind.u64.wrap (↑(BitVec.ofInt IntKind.u64.bits h &&& BitVec.ofInt IntKind.u64.bits (15 : Int)).toNat : Int)) - (1 : Int)) < (0 : Int)), true, true, true], .tuple #[.int .i64 ((0 : Int)), .bool false]) := by kernel_rfl
theorem ps_way_2 (h : Int) : walkV (ev sumsE3 60 138 [.int .u64 h] ⟨.nil, 0⟩) [true, true, false, true, true, true, false, false, true] =
    some ([true, true, false, true, true, true, decide (IntKind.i64.wrap (IntKind.i64.wrap (IntKind.u64.wrap (↑(BitVec.ofInt IntKind.u64.bits h &&& BitVec.ofInt IntKind.u64.bits (15 : Int)).toNat : Int)) - (1 : Int)) < (0 : Int)), false, bif false then true else decide (IntKind.i64.wrap (IntKind.i64.wrap (IntKind.u64.wrap (↑(BitVec.ofInt IntKind.u64.bits h &&& BitVec.ofInt IntKind.u64.bits (15 : Int)).toNat : Int)) - (1 : Int)) ≥ (12 : Int))], .tuple #[.int .i64 ((0 : Int)), .bool false]) := by kernel_rfl
theorem ps_way_3 (h : Int) : walkV (ev sumsE3 60 138 [.int .u64 h] ⟨.nil, 0⟩) [true, true, false, true, true, true, false, false, false] =
    some ([true, true, false, true, true, true, decide (IntKind.i64.wrap (IntKind.i64.wrap (IntKind.u64.wrap (↑(BitVec.ofInt IntKind.u64.bits h &&& BitVec.ofInt IntKind.u64.bits (15 : Int)).toNat : Int)) - (1 : Int)) < (0 : Int)), false, bif false then true else decide (IntKind.i64.wrap (IntKind.i64.wrap (IntKind.u64.wrap (↑(BitVec.ofInt IntKind.u64.bits h &&& BitVec.ofInt IntKind.u64.bits (15 : Int)).toNat : Int)) - (1 : Int)) ≥ (12 : Int))], .tuple #[.int .i64 (IntKind.i64.wrap (IntKind.i64.wrap (IntKind.u64.wrap (↑(BitVec.ofInt IntKind.u64.bits h &&& BitVec.ofInt IntKind.u64.bits (15 : Int)).toNat : Int)) - (1 : Int))), .bool true]) := by kernel_rfl
theorem rs_way_1 (h : Int) : walkV (ev sumsE3 60 96 [.int .u64 h] ⟨.nil, 0⟩) [false, true, true, true, true, true] =
    some ([false, decide (h.tmod (16 : Int) < (1 : Int)), true, true, true, true], .tuple #[.int .i64 ((0 : Int)), .bool false]) := by kernel_rfl
theorem rs_way_2 (h : Int) : walkV (ev sumsE3 60 96 [.int .u64 h] ⟨.nil, 0⟩) [false, false, false, false, false, true] =
    some ([false, decide (h.tmod (16 : Int) < (1 : Int)), false, false, false, bif false then true else decide (h.tmod (16 : Int) > (12 : Int))], .tuple #[.int .i64 ((0 : Int)), .bool false]) := by kernel_rfl
theorem rs_way_3 (h : Int) : walkV (ev sumsE3 60 96 [.int .u64 h] ⟨.nil, 0⟩) [false, false, false, false, false, false, false] =
    some ([false, decide (h.tmod (16 : Int) < (1 : Int)), false, false, false, bif false then true else decide (h.tmod (16 : Int) > (12 : Int)), false], .tuple #[.int .i64 (IntKind.i64.wrap (IntKind.i64.wrap (h.tmod (16 : Int)) - (1 : Int))), .bool true]) := by kernel_rfl
theorem pg_way_1 (h : Int) : walkV (ev sumsE3 60 139 [.int .u64 h] ⟨.nil, 0⟩) [true, true, false, true, true, true] =
    some ([true, true, false, true, true, true], .int .i64 (IntKind.i64.wrap (if (1073741824 : Int) < h.fdiv ((2 : Int) ^ min (Int.toNat (4 : Int)) IntKind.u64.bits) then (1073741824 : Int) else h.fdiv ((2 : Int) ^ min (Int.toNat (4 : Int)) IntKind.u64.bits)))) := by kernel_rfl
theorem rg_way_1 (h : Int) : walkV (ev sumsE3 60 97 [.int .u64 h] ⟨.nil, 0⟩) [false, true] =
    some ([false, decide (IntKind.u64.wrap (h.tdiv (16 : Int)) > (1073741823 : Int))], .int .i64 ((1073741824 : Int))) := by kernel_rfl
theorem rg_way_2 (h : Int) : walkV (ev sumsE3 60 97 [.int .u64 h] ⟨.nil, 0⟩) [false, false, false] =
    some ([false, decide (IntKind.u64.wrap (h.tdiv (16 : Int)) > (1073741823 : Int)), false], .int .i64 (IntKind.i64.wrap (IntKind.u64.wrap (h.tdiv (16 : Int))))) := by kernel_rfl
theorem slot_p {h : Int} (h0 : 0 ≤ h) (h1 : h < 18446744073709551616) : outV (ev sumsE3 60 138 [.int .u64 h] ⟨.nil, 0⟩) = some (.tuple #[.int .i64 (slI h), .bool (slB h)]) := by
  have e := and15 h0 h1
  have e2 : IntKind.i64.wrap (IntKind.i64.wrap (h % 16) - 1) = h % 16 - 1 := by rw [IntKind.wrap_i64, IntKind.wrap_i64]; omega
  by_cases c1 : h % 16 - 1 < 0
  · have hb : slB h = false := by unfold slB; exact decide_eq_false (by omega)
    rw [outV_walk (ps_way_1 h) (by rw [e, e2, decide_eq_true c1])]
    simp [slI, hb]
  · by_cases c2 : h % 16 - 1 ≥ 12
    · have hb : slB h = false := by unfold slB; exact decide_eq_false (by omega)
      rw [outV_walk (ps_way_2 h) (by rw [e, e2, decide_eq_false c1, decide_eq_true c2]; rfl)]
      simp [slI, hb]
    · have hb : slB h = true := by unfold slB; exact decide_eq_true (by omega)
      rw [outV_walk (ps_way_3 h) (by rw [e, e2, decide_eq_false c1, decide_eq_false c2]; rfl), e, e2]
      simp [slI, hb]
theorem slot_r {h : Int} (h0 : 0 ≤ h) (h1 : h < 18446744073709551616) : outV (ev sumsE3 60 96 [.int .u64 h] ⟨.nil, 0⟩) = some (.tuple #[.int .i64 (slI h), .bool (slB h)]) := by
  have e : h.tmod 16 = h % 16 := Int.tmod_eq_emod_of_nonneg h0
  have e2 : IntKind.i64.wrap (IntKind.i64.wrap (h % 16) - 1) = h % 16 - 1 := by rw [IntKind.wrap_i64, IntKind.wrap_i64]; omega
  by_cases c1 : h % 16 < 1
  · have hb : slB h = false := by unfold slB; exact decide_eq_false (by omega)
    rw [outV_walk (rs_way_1 h) (by rw [e, decide_eq_true c1])]
    simp [slI, hb]
  · by_cases c2 : h % 16 > 12
    · have hb : slB h = false := by unfold slB; exact decide_eq_false (by omega)
      rw [outV_walk (rs_way_2 h) (by rw [e, decide_eq_false c1, decide_eq_true c2]; rfl)]
      simp [slI, hb]
    · have hb : slB h = true := by unfold slB; exact decide_eq_true (by omega)
      rw [outV_walk (rs_way_3 h) (by rw [e, decide_eq_false c1, decide_eq_false c2]; rfl), e, e2]
      simp [slI, hb]
theorem gen_p {h : Int} (h0 : 0 ≤ h) (h1 : h < 18446744073709551616) : outV (ev sumsE3 60 139 [.int .u64 h] ⟨.nil, 0⟩) = some (.int .i64 (genI h)) := by
  have e : h.fdiv ((2 : Int) ^ min (Int.toNat (4 : Int)) IntKind.u64.bits) = h / 16 := by
    have : (2 : Int) ^ min (Int.toNat (4 : Int)) IntKind.u64.bits = 16 := rfl
    rw [this, Int.fdiv_eq_ediv_of_nonneg _ (by omega)]
  rw [outV_walk (pg_way_1 h) rfl, e]
  have : IntKind.i64.wrap (if (1073741824 : Int) < h / 16 then (1073741824 : Int) else h / 16) = genI h := by
    unfold genI
    rw [IntKind.wrap_i64]
    split <;> split <;> omega
  rw [this]
theorem gen_r {h : Int} (h0 : 0 ≤ h) (h1 : h < 18446744073709551616) : outV (ev sumsE3 60 97 [.int .u64 h] ⟨.nil, 0⟩) = some (.int .i64 (genI h)) := by
  have e : IntKind.u64.wrap (h.tdiv 16) = h / 16 := by rw [Int.tdiv_eq_ediv_of_nonneg h0]; exact wrap_id (by omega) (by omega)
  by_cases c : h / 16 > 1073741823
  · rw [outV_walk (rg_way_1 h) (by rw [e, decide_eq_true c])]
    simp [genI, c]
  · rw [outV_walk (rg_way_2 h) (by rw [e, decide_eq_false c]), e]
    have : IntKind.i64.wrap (h / 16) = h / 16 := by rw [IntKind.wrap_i64]; omega
    rw [this]
    simp [genI, c]
def slotS : List Value → Option (Bool × Value)
  | [.int .u64 h] => some (isW h, .tuple #[.int .i64 (slI h), .bool (slB h)])
  | _ => none
def genS : List Value → Option (Bool × Value)
  | [.int .u64 h] => some (isW h, .int .i64 (genI h))
  | _ => none
theorem slotS_ok {sums : Sums} {f : Nat} (hs : SumsOk sums) (hf : (fns f).isSome = true) (h : ∀ h : Int, 0 ≤ h → h < 18446744073709551616 → outV (ev sumsE3 60 f [.int .u64 h] ⟨.nil, 0⟩) = some (.tuple #[.int .i64 (slI h), .bool (slB h)])) : SumsOk (withIf sums f slotS) := withIf_ok hs sumsE3_ok 60 hf fun al v hv => by
  unfold slotS at hv
  split at hv
  · simp only [Option.some.injEq, Prod.mk.injEq, isW_iff] at hv
    obtain ⟨⟨h0, h1⟩, rfl⟩ := hv
    exact ⟨rfl, rfl, h _ h0 h1⟩
  · cases hv
theorem genS_ok {sums : Sums} {f : Nat} (hs : SumsOk sums) (hf : (fns f).isSome = true) (h : ∀ h : Int, 0 ≤ h → h < 18446744073709551616 → outV (ev sumsE3 60 f [.int .u64 h] ⟨.nil, 0⟩) = some (.int .i64 (genI h))) : SumsOk (withIf sums f genS) := withIf_ok hs sumsE3_ok 60 hf fun al v hv => by
  unfold genS at hv
  split at hv
  · simp only [Option.some.injEq, Prod.mk.injEq, isW_iff] at hv
    obtain ⟨⟨h0, h1⟩, rfl⟩ := hv
    exact ⟨rfl, rfl, h _ h0 h1⟩
  · cases hv
noncomputable def sumsF1 : Sums := withIf (withIf (withIf (withIf sumsE3 138 slotS) 96 slotS) 139 genS) 97 genS
theorem sumsF1_ok : SumsOk sumsF1 := genS_ok (genS_ok (slotS_ok (slotS_ok sumsE3_ok (by kernel_rfl) fun h a b => slot_p a b) (by kernel_rfl) fun h a b => slot_r a b) (by kernel_rfl) fun h a b => gen_p a b) (by kernel_rfl) fun h a b => gen_r a b
end Go.Proofs.YtifojacfedjedaaGreat.Bound
