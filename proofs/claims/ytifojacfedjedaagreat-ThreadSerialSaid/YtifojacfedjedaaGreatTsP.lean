/- Tickets: the program's and the document's tell the same. No condition. What a status word tells: the program's and the document's tell the same; tickets' slots and generations, of a world. No condition. The word of a state, and a generation: the program's and the document's tell the same. No condition. -/
import Derived.Test.YtifojacfedjedaaGreatBasB
section
namespace Go.Proofs.YtifojacfedjedaaGreat.Bound
open Go.Proofs.YtifojacfedjedaaGreat.Ev
set_option linter.unusedVariables false
set_option linter.unusedSimpArgs false
def slB (h : Int) : Bool := decide (1 ≤ h % 16 ∧ h % 16 ≤ 12)
def slI (h : Int) : Int := if slB h = true then h % 16 - 1 else 0
def genI (h : Int) : Int := if 1073741823 < h / 16 then 1073741824 else h / 16
theorem and15 {h : Int} (h0 : 0 ≤ h) (h1 : h < 18446744073709551616) : IntKind.u64.wrap (↑(BitVec.ofInt IntKind.u64.bits h &&& BitVec.ofInt IntKind.u64.bits (15 : Int)).toNat : Int) = h % 16 := by
  rw [p_and h0 h1 (by omega) (by omega)]
  have : h.toNat &&& (15 : Int).toNat = h.toNat % 16 := Nat.and_two_pow_sub_one_eq_mod _ 4
  rw [this]
  omega
theorem ps_way_1 (h : Int) : walkV (ev sumsE3 60 138 [.int .u64 h] ⟨.nil, 0⟩) [true, true, false, true, true, true, true, true, true, true] =
    some ([true, true, false, true, true, true, decide (IntKind.i64.wrap (IntKind.i64.wrap (IntKind.u64.wrap (↑(BitVec.ofInt IntKind.u64.bits h &&& BitVec.ofInt IntKind.u64.bits (15 : Int)).toNat : Int)) - (1 : Int)) < (0 : Int)), true, true, true], .tuple #[.int .i64 ((0 : Int)), .bool false]) := by kernel_rfl
theorem ps_way_2 (h : Int) : walkV (ev sumsE3 60 138 [.int .u64 h] ⟨.nil, 0⟩) [true, true, false, true, true, true, false, false, true] =
    some ([true, true, false, true, true, true, decide (IntKind.i64.wrap (IntKind.i64.wrap (IntKind.u64.wrap (↑(BitVec.ofInt IntKind.u64.bits h &&& BitVec.ofInt IntKind.u64.bits (15 : Int)).toNat : Int)) - (1 : Int)) < (0 : Int)), false, bif false then true else decide (IntKind.i64.wrap (IntKind.i64.wrap (IntKind.u64.wrap (↑(BitVec.ofInt IntKind.u64.bits h &&& BitVec.ofInt IntKind.u64.bits (15 : Int)).toNat : Int)) - (1 : Int)) ≥ (12 : Int))], .tuple #[.int .i64 ((0 : Int)), .bool false]) := by kernel_rfl
theorem ps_way_3 (h : Int) : walkV (ev sumsE3 60 138 [.int .u64 h] ⟨.nil, 0⟩) [true, true, false, true, true, true, false, false, false] =
    some ([true, true, false, true, true, true, decide (IntKind.i64.wrap (IntKind.i64.wrap (IntKind.u64.wrap (↑(BitVec.ofInt IntKind.u64.bits h &&& BitVec.ofInt IntKind.u64.bits (15 : Int)).toNat : Int)) - (1 : Int)) < (0 : Int)), false, bif false then true else decide (IntKind.i64.wrap (IntKind.i64.wrap (IntKind.u64.wrap (↑(BitVec.ofInt IntKind.u64.bits h &&& BitVec.ofInt IntKind.u64.bits (15 : Int)).toNat : Int)) - (1 : Int)) ≥ (12 : Int))], .tuple #[.int .i64 (IntKind.i64.wrap (IntKind.i64.wrap (IntKind.u64.wrap (↑(BitVec.ofInt IntKind.u64.bits h &&& BitVec.ofInt IntKind.u64.bits (15 : Int)).toNat : Int)) - (1 : Int))), .bool true]) := by kernel_rfl
theorem rs_way_1 (h : Int) : walkV (ev sumsE3 60 96 [.int .u64 h] ⟨.nil, 0⟩) [false, true, true, true, true, true] =
    some ([false, decide (h.tmod (16 : Int) < (1 : Int)), true, true, true, true], .tuple #[.int .i64 ((0 : Int)), .bool false]) := by kernel_rfl
theorem rs_way_2 (h : Int) : walkV (ev sumsE3 60 96 [.int .u64 h] ⟨.nil, 0⟩) [false, false, false, false, false, true] =
    some ([false, decide (h.tmod (16 : Int) < (1 : Int)), false, false, false, bif false then true else decide (h.tmod (16 : Int) > (12 : Int))], .tuple #[.int .i64 ((0 : Int)), .bool false]) := by kernel_rfl
theorem rs_way_3 (h : Int) : walkV (ev sumsE3 60 96 [.int .u64 h] ⟨.nil, 0⟩) [false, false, false, false, false, false, false] =
    some ([false, decide (h.tmod (16 : Int) < (1 : Int)), false, false, false, bif false then true else decide (h.tmod (16 : Int) > (12 : Int)), false], .tuple #[.int .i64 (IntKind.i64.wrap (IntKind.i64.wrap (h.tmod (16 : Int)) - (1 : Int))), .bool true]) := by kernel_rfl
theorem pg_way_1 (h : Int) : walkV (ev sumsE3 60 139 [.int .u64 h] ⟨.nil, 0⟩) [true, true, false, true, true, true] =
    some ([true, true, false, true, true, true], .int .i64 (IntKind.i64.wrap (if (1073741824 : Int) < h.fdiv ((2 : Int) ^ min (Int.toNat (4 : Int)) IntKind.u64.bits) then (1073741824 : Int) else h.fdiv ((2 : Int) ^ min (Int.toNat (4 : Int)) IntKind.u64.bits)))) := by kernel_rfl
theorem rg_way_1 (h : Int) : walkV (ev sumsE3 60 97 [.int .u64 h] ⟨.nil, 0⟩) [false, true] =
    some ([false, decide (IntKind.u64.wrap (h.tdiv (16 : Int)) > (1073741823 : Int))], .int .i64 ((1073741824 : Int))) := by kernel_rfl
theorem rg_way_2 (h : Int) : walkV (ev sumsE3 60 97 [.int .u64 h] ⟨.nil, 0⟩) [false, false, false] =
    some ([false, decide (IntKind.u64.wrap (h.tdiv (16 : Int)) > (1073741823 : Int)), false], .int .i64 (IntKind.i64.wrap (IntKind.u64.wrap (h.tdiv (16 : Int))))) := by kernel_rfl
theorem slot_p {h : Int} (h0 : 0 ≤ h) (h1 : h < 18446744073709551616) : outV (ev sumsE3 60 138 [.int .u64 h] ⟨.nil, 0⟩) = some (.tuple #[.int .i64 (slI h), .bool (slB h)]) := by
  have e := and15 h0 h1
  have e2 : IntKind.i64.wrap (IntKind.i64.wrap (h % 16) - 1) = h % 16 - 1 := by rw [IntKind.wrap_i64, IntKind.wrap_i64]; omega
  by_cases c1 : h % 16 - 1 < 0
  · have hb : slB h = false := by unfold slB; exact decide_eq_false (by omega)
    rw [outV_walk (ps_way_1 h) (by rw [e, e2, decide_eq_true c1])]
    simp [slI, hb]
  · by_cases c2 : h % 16 - 1 ≥ 12
    · have hb : slB h = false := by unfold slB; exact decide_eq_false (by omega)
      rw [outV_walk (ps_way_2 h) (by rw [e, e2, decide_eq_false c1, decide_eq_true c2]; rfl)]
      simp [slI, hb]
    · have hb : slB h = true := by unfold slB; exact decide_eq_true (by omega)
      rw [outV_walk (ps_way_3 h) (by rw [e, e2, decide_eq_false c1, decide_eq_false c2]; rfl), e, e2]
      simp [slI, hb]
theorem slot_r {h : Int} (h0 : 0 ≤ h) (h1 : h < 18446744073709551616) : outV (ev sumsE3 60 96 [.int .u64 h] ⟨.nil, 0⟩) = some (.tuple #[.int .i64 (slI h), .bool (slB h)]) := by
  have e : h.tmod 16 = h % 16 := Int.tmod_eq_emod_of_nonneg h0
  have e2 : IntKind.i64.wrap (IntKind.i64.wrap (h % 16) - 1) = h % 16 - 1 := by rw [IntKind.wrap_i64, IntKind.wrap_i64]; omega
  by_cases c1 : h % 16 < 1
  · have hb : slB h = false := by unfold slB; exact decide_eq_false (by omega)
    rw [outV_walk (rs_way_1 h) (by rw [e, decide_eq_true c1])]
    simp [slI, hb]
  · by_cases c2 : h % 16 > 12
    · have hb : slB h = false := by unfold slB; exact decide_eq_false (by omega)
      rw [outV_walk (rs_way_2 h) (by rw [e, decide_eq_false c1, decide_eq_true c2]; rfl)]
      simp [slI, hb]
    · have hb : slB h = true := by unfold slB; exact decide_eq_true (by omega)
      rw [outV_walk (rs_way_3 h) (by rw [e, decide_eq_false c1, decide_eq_false c2]; rfl), e, e2]
      simp [slI, hb]
theorem gen_p {h : Int} (h0 : 0 ≤ h) (h1 : h < 18446744073709551616) : outV (ev sumsE3 60 139 [.int .u64 h] ⟨.nil, 0⟩) = some (.int .i64 (genI h)) := by
  have e : h.fdiv ((2 : Int) ^ min (Int.toNat (4 : Int)) IntKind.u64.bits) = h / 16 := by
    have : (2 : Int) ^ min (Int.toNat (4 : Int)) IntKind.u64.bits = 16 := rfl
    rw [this, Int.fdiv_eq_ediv_of_nonneg _ (by omega)]
  rw [outV_walk (pg_way_1 h) rfl, e]
  have : IntKind.i64.wrap (if (1073741824 : Int) < h / 16 then (1073741824 : Int) else h / 16) = genI h := by
    unfold genI
    rw [IntKind.wrap_i64]
    split <;> split <;> omega
  rw [this]
theorem gen_r {h : Int} (h0 : 0 ≤ h) (h1 : h < 18446744073709551616) : outV (ev sumsE3 60 97 [.int .u64 h] ⟨.nil, 0⟩) = some (.int .i64 (genI h)) := by
  have e : IntKind.u64.wrap (h.tdiv 16) = h / 16 := by rw [Int.tdiv_eq_ediv_of_nonneg h0]; exact wrap_id (by omega) (by omega)
  by_cases c : h / 16 > 1073741823
  · rw [outV_walk (rg_way_1 h) (by rw [e, decide_eq_true c])]
    simp [genI, c]
  · rw [outV_walk (rg_way_2 h) (by rw [e, decide_eq_false c]), e]
    have : IntKind.i64.wrap (h / 16) = h / 16 := by rw [IntKind.wrap_i64]; omega
    rw [this]
    simp [genI, c]
def slotS : List Value → Option (Bool × Value)
  | [.int .u64 h] => some (isW h, .tuple #[.int .i64 (slI h), .bool (slB h)])
  | _ => none
def genS : List Value → Option (Bool × Value)
  | [.int .u64 h] => some (isW h, .int .i64 (genI h))
  | _ => none
theorem slotS_ok {sums : Sums} {f : Nat} (hs : SumsOk sums) (hf : (fns f).isSome = true) (h : ∀ h : Int, 0 ≤ h → h < 18446744073709551616 → outV (ev sumsE3 60 f [.int .u64 h] ⟨.nil, 0⟩) = some (.tuple #[.int .i64 (slI h), .bool (slB h)])) : SumsOk (withIf sums f slotS) := withIf_ok hs sumsE3_ok 60 hf fun al v hv => by
  unfold slotS at hv
  split at hv
  · simp only [Option.some.injEq, Prod.mk.injEq, isW_iff] at hv
    obtain ⟨⟨h0, h1⟩, rfl⟩ := hv
    exact ⟨rfl, rfl, h _ h0 h1⟩
  · cases hv
theorem genS_ok {sums : Sums} {f : Nat} (hs : SumsOk sums) (hf : (fns f).isSome = true) (h : ∀ h : Int, 0 ≤ h → h < 18446744073709551616 → outV (ev sumsE3 60 f [.int .u64 h] ⟨.nil, 0⟩) = some (.int .i64 (genI h))) : SumsOk (withIf sums f genS) := withIf_ok hs sumsE3_ok 60 hf fun al v hv => by
  unfold genS at hv
  split at hv
  · simp only [Option.some.injEq, Prod.mk.injEq, isW_iff] at hv
    obtain ⟨⟨h0, h1⟩, rfl⟩ := hv
    exact ⟨rfl, rfl, h _ h0 h1⟩
  · cases hv
noncomputable def sumsF1 : Sums := withIf (withIf (withIf (withIf sumsE3 138 slotS) 96 slotS) 139 genS) 97 genS
theorem sumsF1_ok : SumsOk sumsF1 := genS_ok (genS_ok (slotS_ok (slotS_ok sumsE3_ok (by kernel_rfl) fun h a b => slot_p a b) (by kernel_rfl) fun h a b => slot_r a b) (by kernel_rfl) fun h a b => gen_p a b) (by kernel_rfl) fun h a b => gen_r a b
end Go.Proofs.YtifojacfedjedaaGreat.Bound
end

section
namespace Go.Proofs.YtifojacfedjedaaGreat.Bound
open Go.Proofs.YtifojacfedjedaaGreat.Ev
set_option linter.unusedVariables false
set_option linter.unusedSimpArgs false
def okT (h s : Int) : Bool := slB h && decide (slI h < s) && decide (genI h ≤ 1073741823)
def ofT (h s : Int) : Value := .tuple #[.int .i64 (if okT h s = true then slI h else 0), .int .i64 (if okT h s = true then genI h else 0), .bool (okT h s)]
theorem po_way_1 (h s : Int) : walkV (ev sumsF1 60 83 [.int .u64 h, .int .i64 s] ⟨.nil, 0⟩) [true, true, true, true, true, true, true, true, true, true] =
    some ([(isW h, Value.tuple #[Value.int IntKind.i64 (slI h), Value.bool (slB h)]).fst, (isW h, Value.int IntKind.i64 (genI h)).fst, !slB h, true, true, true, true, true, true, true], .tuple #[.int .i64 ((0 : Int)), .int .i64 ((0 : Int)), .bool false]) := by kernel_rfl
theorem po_way_2 (h s : Int) : walkV (ev sumsF1 60 83 [.int .u64 h, .int .i64 s] ⟨.nil, 0⟩) [true, true, false, false, false, true, true, true, true] =
    some ([(isW h, Value.tuple #[Value.int IntKind.i64 (slI h), Value.bool (slB h)]).fst, (isW h, Value.int IntKind.i64 (genI h)).fst, !slB h, false, false, bif false then true else decide (slI h ≥ s), true, true, true], .tuple #[.int .i64 ((0 : Int)), .int .i64 ((0 : Int)), .bool false]) := by kernel_rfl
theorem po_way_3 (h s : Int) : walkV (ev sumsF1 60 83 [.int .u64 h, .int .i64 s] ⟨.nil, 0⟩) [true, true, false, false, false, false, false, true] =
    some ([(isW h, Value.tuple #[Value.int IntKind.i64 (slI h), Value.bool (slB h)]).fst, (isW h, Value.int IntKind.i64 (genI h)).fst, !slB h, false, false, bif false then true else decide (slI h ≥ s), false, bif false then true else decide (genI h > (1073741823 : Int))], .tuple #[.int .i64 ((0 : Int)), .int .i64 ((0 : Int)), .bool false]) := by kernel_rfl
theorem po_way_4 (h s : Int) : walkV (ev sumsF1 60 83 [.int .u64 h, .int .i64 s] ⟨.nil, 0⟩) [true, true, false, false, false, false, false, false] =
    some ([(isW h, Value.tuple #[Value.int IntKind.i64 (slI h), Value.bool (slB h)]).fst, (isW h, Value.int IntKind.i64 (genI h)).fst, !slB h, false, false, bif false then true else decide (slI h ≥ s), false, bif false then true else decide (genI h > (1073741823 : Int))], .tuple #[.int .i64 (slI h), .int .i64 (genI h), .bool true]) := by kernel_rfl
theorem ro_way_1 (h s : Int) : walkV (ev sumsF1 60 72 [.int .u64 h, .int .i64 s] ⟨.nil, 0⟩) [true, true, true, true, true, true, true, true, true, true] =
    some ([(isW h, Value.tuple #[Value.int IntKind.i64 (slI h), Value.bool (slB h)]).fst, !slB h, true, true, true, true, true, true, true, true], .tuple #[.int .i64 ((0 : Int)), .int .i64 ((0 : Int)), .bool false]) := by kernel_rfl
theorem ro_way_2 (h s : Int) : walkV (ev sumsF1 60 72 [.int .u64 h, .int .i64 s] ⟨.nil, 0⟩) [true, false, false, false, true, true, true, true, true] =
    some ([(isW h, Value.tuple #[Value.int IntKind.i64 (slI h), Value.bool (slB h)]).fst, !slB h, false, false, bif false then true else decide (slI h ≥ s), true, true, true, true], .tuple #[.int .i64 ((0 : Int)), .int .i64 ((0 : Int)), .bool false]) := by kernel_rfl
theorem ro_way_3 (h s : Int) : walkV (ev sumsF1 60 72 [.int .u64 h, .int .i64 s] ⟨.nil, 0⟩) [true, false, false, false, false, false, true, false, true] =
    some ([(isW h, Value.tuple #[Value.int IntKind.i64 (slI h), Value.bool (slB h)]).fst, !slB h, false, false, bif false then true else decide (slI h ≥ s), false, (isW h, Value.int IntKind.i64 (genI h)).fst, false, bif false then true else decide (genI h > (1073741823 : Int))], .tuple #[.int .i64 ((0 : Int)), .int .i64 ((0 : Int)), .bool false]) := by kernel_rfl
theorem ro_way_4 (h s : Int) : walkV (ev sumsF1 60 72 [.int .u64 h, .int .i64 s] ⟨.nil, 0⟩) [true, false, false, false, false, false, true, false, false, true] =
    some ([(isW h, Value.tuple #[Value.int IntKind.i64 (slI h), Value.bool (slB h)]).fst, !slB h, false, false, bif false then true else decide (slI h ≥ s), false, (isW h, Value.int IntKind.i64 (genI h)).fst, false, bif false then true else decide (genI h > (1073741823 : Int)), (isW h, Value.int IntKind.i64 (genI h)).fst], .tuple #[.int .i64 (slI h), .int .i64 (genI h), .bool true]) := by kernel_rfl
theorem po_is {h s : Int} (h0 : 0 ≤ h) (h1 : h < 18446744073709551616) : outV (ev sumsF1 60 83 [.int .u64 h, .int .i64 s] ⟨.nil, 0⟩) = some (ofT h s) := by
  have hw : isW h = true := isW_iff.2 ⟨h0, h1⟩
  rcases bool_two (slB h) with hb | hb
  · by_cases c1 : slI h ≥ s
    · have : okT h s = false := by simp [okT, hb]; omega
      rw [outV_walk (po_way_2 h s) (by simp only [hw, hb, decide_eq_true c1, Bool.not_true, cond_false])]
      simp [ofT, this]
    · by_cases c2 : genI h > 1073741823
      · have : okT h s = false := by simp [okT, hb]; omega
        rw [outV_walk (po_way_3 h s) (by simp only [hw, hb, decide_eq_false c1, decide_eq_true c2, Bool.not_true, cond_false])]
        simp [ofT, this]
      · have : okT h s = true := by simp [okT, hb]; omega
        rw [outV_walk (po_way_4 h s) (by simp only [hw, hb, decide_eq_false c1, decide_eq_false c2, Bool.not_true, cond_false])]
        simp [ofT, this]
  · have : okT h s = false := by simp [okT, hb]
    rw [outV_walk (po_way_1 h s) (by simp only [hw, hb, Bool.not_false])]
    simp [ofT, this]
theorem ro_is {h s : Int} (h0 : 0 ≤ h) (h1 : h < 18446744073709551616) : outV (ev sumsF1 60 72 [.int .u64 h, .int .i64 s] ⟨.nil, 0⟩) = some (ofT h s) := by
  have hw : isW h = true := isW_iff.2 ⟨h0, h1⟩
  rcases bool_two (slB h) with hb | hb
  · by_cases c1 : slI h ≥ s
    · have : okT h s = false := by simp [okT, hb]; omega
      rw [outV_walk (ro_way_2 h s) (by simp only [hw, hb, decide_eq_true c1, Bool.not_true, cond_false])]
      simp [ofT, this]
    · by_cases c2 : genI h > 1073741823
      · have : okT h s = false := by simp [okT, hb]; omega
        rw [outV_walk (ro_way_3 h s) (by simp only [hw, hb, decide_eq_false c1, decide_eq_true c2, Bool.not_true, cond_false])]
        simp [ofT, this]
      · have : okT h s = true := by simp [okT, hb]; omega
        rw [outV_walk (ro_way_4 h s) (by simp only [hw, hb, decide_eq_false c1, decide_eq_false c2, Bool.not_true, cond_false])]
        simp [ofT, this]
  · have : okT h s = false := by simp [okT, hb]
    rw [outV_walk (ro_way_1 h s) (by simp only [hw, hb, Bool.not_false])]
    simp [ofT, this]
def ofTS : List Value → Option (Bool × Value)
  | [.int .u64 h, .int .i64 s] => some (isW h, ofT h s)
  | _ => none
theorem ofTS_ok {sums : Sums} {f : Nat} (hs : SumsOk sums) (hf : (fns f).isSome = true) (h : ∀ h s : Int, 0 ≤ h → h < 18446744073709551616 → outV (ev sumsF1 60 f [.int .u64 h, .int .i64 s] ⟨.nil, 0⟩) = some (ofT h s)) : SumsOk (withIf sums f ofTS) := withIf_ok hs sumsF1_ok 60 hf fun al v hv => by
  unfold ofTS at hv
  split at hv
  · simp only [Option.some.injEq, Prod.mk.injEq, isW_iff] at hv
    obtain ⟨⟨h0, h1⟩, rfl⟩ := hv
    exact ⟨rfl, rfl, h _ _ h0 h1⟩
  · cases hv
/-- A word's state, and generation. -/
def stI (w : Int) : Int := w / 134217728 % 8
def gnI (w : Int) : Int := w / 1073741824 % 4294967296
def statusI (w : Int) : Value := .agg #[.int .i64 (gnI w), .int .i64 (stI w), .bool (bitI w 26), .bool (bitI w 25), .bool (bitI w 24), .int .i64 (w / 4096 % 4096), .int .i64 (w % 4096)]
theorem part_bit {w : Int} (n : Nat) (h0 : 0 ≤ w) (h1 : w < 18446744073709551616) : (partP w n 1 == 1) = bitI w n := by
  rw [partP_is h0 h1 (by omega)]
  unfold bitI pw
  simp
theorem unpack_is {w : Int} (h0 : 0 ≤ w) (h1 : w < 18446744073709551616) : statusP w = statusI w := by
  unfold statusP statusI
  rw [part_bit 26 h0 h1, part_bit 25 h0 h1, part_bit 24 h0 h1, partP_is h0 h1 (by omega), partP_is h0 h1 (by omega), partP_is h0 h1 (by omega), partP_is h0 h1 (by omega)]
  simp [gnI, stI]
theorem gen_way (w : Int) : walkV (ev sumsF1 60 98 [.int .u64 w] ⟨.nil, 0⟩) [true, false, true, false] =
    some ([true, false, true, false], .int .i64 (IntKind.i64.wrap ((IntKind.u64.wrap (w.tdiv (pw (30 : Int)))).tmod (pw (32 : Int))))) := by kernel_rfl
theorem gen_is {w : Int} (h0 : 0 ≤ w) (h1 : w < 18446744073709551616) : IntKind.i64.wrap ((IntKind.u64.wrap (w.tdiv (pw (30 : Int)))).tmod (pw (32 : Int))) = gnI w := by
  have p30 : pw 30 = 1073741824 := rfl
  have p32 : pw 32 = 4294967296 := rfl
  rw [p30, p32, Int.tdiv_eq_ediv_of_nonneg h0, wrap_id (by omega) (by omega), Int.tmod_eq_emod_of_nonneg (by omega), IntKind.wrap_i64]
  unfold gnI
  omega
theorem busy_way (w : Int) : walkV (ev sumsF1 60 162 [.int .u64 w] ⟨.nil, 0⟩) [true] =
    some ([isW w && decide ((0 : Int) ≤ (26 : Int) ∧ (26 : Int) ≤ (40 : Int))], .bool (bitI w (26 : Int))) := by kernel_rfl
def onW (f : Int → Value) : List Value → Option (Bool × Value)
  | [.int .u64 w] => some (isW w, f w)
  | _ => none
theorem onW_ok {sums : Sums} {f : Nat} {g : Int → Value} (hs : SumsOk sums) (hf : (fns f).isSome = true) (hg : ∀ w, plain (g w) = true) (h : ∀ w : Int, 0 ≤ w → w < 18446744073709551616 → outV (ev sumsF1 60 f [.int .u64 w] ⟨.nil, 0⟩) = some (g w)) : SumsOk (withIf sums f (onW g)) := withIf_ok hs sumsF1_ok 60 hf fun al v hv => by
  unfold onW at hv
  split at hv
  · simp only [Option.some.injEq, Prod.mk.injEq, isW_iff] at hv
    obtain ⟨⟨h0, h1⟩, rfl⟩ := hv
    exact ⟨rfl, hg _, h _ h0 h1⟩
  · cases hv
theorem up_ev (w : Int) : outV (ev sumsF1 60 134 [.int .u64 w] ⟨.nil, 0⟩) = some (statusP w) := by kernel_rfl
theorem st_ev (w : Int) : outV (ev sumsF1 60 25 [.int .u64 w] ⟨.nil, 0⟩) = some (.int .i64 (partR w 27 3)) := by kernel_rfl
noncomputable def sumsF2 : Sums := withIf (withIf (withIf (withIf (withIf (withIf sumsF1 83 ofTS) 72 ofTS) 134 (onW statusI)) 25 (onW fun w => .int .i64 (stI w))) 98 (onW fun w => .int .i64 (gnI w))) 162 (onW fun w => .bool (bitI w 26))
theorem sumsF2_ok : SumsOk sumsF2 := by
  refine onW_ok (onW_ok (onW_ok (onW_ok (ofTS_ok (ofTS_ok sumsF1_ok (by kernel_rfl) fun h s a b => po_is a b) (by kernel_rfl) fun h s a b => ro_is a b) (by kernel_rfl) (fun w => rfl) fun w a b => ?_) (by kernel_rfl) (fun w => rfl) fun w a b => ?_) (by kernel_rfl) (fun w => rfl) fun w a b => ?_) (by kernel_rfl) (fun w => rfl) fun w a b => ?_
  · rw [up_ev, unpack_is a b]
  · rw [st_ev, partR_is a b (by omega)]
    simp [stI]
  · rw [outV_walk (gen_way w) rfl, gen_is a b]
  · have hw : isW w = true := isW_iff.2 ⟨a, b⟩
    exact outV_walk (busy_way w) (by rw [hw]; rfl)
end Go.Proofs.YtifojacfedjedaaGreat.Bound
end

section
namespace Go.Proofs.YtifojacfedjedaaGreat.Bound
open Go.Proofs.YtifojacfedjedaaGreat.Ev
set_option linter.unusedVariables false
set_option linter.unusedSimpArgs false
def packW (s g : Int) : Int := IntKind.u64.wrap (↑(BitVec.ofInt IntKind.u64.bits (IntKind.u64.wrap (↑(BitVec.ofInt IntKind.u64.bits (IntKind.u64.wrap (↑(BitVec.ofInt IntKind.u64.bits (IntKind.u64.wrap (↑(BitVec.ofInt IntKind.u64.bits (IntKind.u64.wrap (↑(BitVec.ofInt IntKind.u64.bits (IntKind.u64.wrap (↑(BitVec.ofInt IntKind.u64.bits (IntKind.u64.wrap (0 : Int)) ||| BitVec.ofInt IntKind.u64.bits (IntKind.u64.wrap (IntKind.u64.wrap (0 : Int) * (2 : Int) ^ min (Int.toNat (12 : Int)) IntKind.u64.bits))).toNat : Int)) ||| BitVec.ofInt IntKind.u64.bits (IntKind.u64.wrap ((0 : Int) * (2 : Int) ^ min (Int.toNat (24 : Int)) IntKind.u64.bits))).toNat : Int)) ||| BitVec.ofInt IntKind.u64.bits (IntKind.u64.wrap ((0 : Int) * (2 : Int) ^ min (Int.toNat (25 : Int)) IntKind.u64.bits))).toNat : Int)) ||| BitVec.ofInt IntKind.u64.bits (IntKind.u64.wrap ((0 : Int) * (2 : Int) ^ min (Int.toNat (26 : Int)) IntKind.u64.bits))).toNat : Int)) ||| BitVec.ofInt IntKind.u64.bits (IntKind.u64.wrap (IntKind.u64.wrap s * (2 : Int) ^ min (Int.toNat (27 : Int)) IntKind.u64.bits))).toNat : Int)) ||| BitVec.ofInt IntKind.u64.bits (IntKind.u64.wrap (IntKind.u64.wrap g * (2 : Int) ^ min (Int.toNat (30 : Int)) IntKind.u64.bits))).toNat : Int)
def newR (s g : Int) : Int := IntKind.u64.wrap (IntKind.u64.wrap (IntKind.u64.wrap (IntKind.u64.wrap (0 : Int) + IntKind.u64.wrap ((4096 : Int) * IntKind.u64.wrap (0 : Int))) + IntKind.u64.wrap (pw (27 : Int) * IntKind.u64.wrap s)) + IntKind.u64.wrap (pw (30 : Int) * IntKind.u64.wrap g))
/-- The word of a state, and a generation. -/
def newI (s g : Int) : Int := s * 134217728 + g * 1073741824
theorem newI_word {s g : Int} (s0 : 0 ≤ s) (s1 : s ≤ 7) (g0 : 0 ≤ g) (g1 : g ≤ 1073741824) : 0 ≤ newI s g ∧ newI s g < 18446744073709551616 := by unfold newI; omega
theorem packW_is {s g : Int} (s0 : 0 ≤ s) (s1 : s ≤ 7) (g0 : 0 ≤ g) (g1 : g ≤ 1073741824) : packW s g = newI s g := by
  have e0 : IntKind.u64.wrap (0 : Int) = 0 := rfl
  have es : IntKind.u64.wrap s = s := wrap_id (by omega) (by omega)
  have eg : IntKind.u64.wrap g = g := wrap_id (by omega) (by omega)
  have p27 : (2 : Int) ^ min (Int.toNat (27 : Int)) IntKind.u64.bits = 134217728 := rfl
  have p30 : (2 : Int) ^ min (Int.toNat (30 : Int)) IntKind.u64.bits = 1073741824 := rfl
  have e1 : IntKind.u64.wrap (s * 134217728) = s * 134217728 := wrap_id (by omega) (by omega)
  have e2 : IntKind.u64.wrap (g * 1073741824) = g * 1073741824 := wrap_id (by omega) (by omega)
  have z : ∀ k : Int, IntKind.u64.wrap (↑(BitVec.ofInt IntKind.u64.bits (0 : Int) ||| BitVec.ofInt IntKind.u64.bits (IntKind.u64.wrap ((0 : Int) * k))).toNat) = 0 := fun k => or_no (by omega) (by omega)
  unfold packW newI
  simp only [e0, es, eg, p27, p30, e1, e2, z]
  rw [p_or (x := 0) (y := s * 134217728) (by omega) (by omega) (by omega) (by omega)]
  have a : ((0 : Int).toNat ||| (s * 134217728).toNat) = (s * 134217728).toNat := by show (0 ||| _) = _; rw [Nat.zero_or]
  rw [a, p_or (x := (((s * 134217728).toNat : Nat) : Int)) (y := g * 1073741824) (by omega) (by omega) (by omega) (by omega), Int.toNat_natCast]
  obtain ⟨x, rfl⟩ := Int.eq_ofNat_of_zero_le s0
  obtain ⟨y, rfl⟩ := Int.eq_ofNat_of_zero_le g0
  have b1 : ((x : Int) * 134217728).toNat = x * 134217728 := by omega
  have b2 : ((y : Int) * 1073741824).toNat = y * 1073741824 := by
    have : (y : Int) * 1073741824 = ((y * 1073741824 : Nat) : Int) := (Int.natCast_mul _ _).symm
    rw [this, Int.toNat_natCast]
  have hx : x * 134217728 < 2 ^ 30 := Nat.lt_of_lt_of_eq (show x * 134217728 < 1073741824 by omega) (by decide)
  have hy : y < 2 ^ 31 := Nat.lt_of_lt_of_eq (show y < 2147483648 by omega) (by decide)
  have b3 := set_field (x * 134217728) y 30 31 (fun j h1 h2 => Nat.testBit_lt_two_pow (Nat.lt_of_lt_of_le hx (Nat.pow_le_pow_right (by decide) h1))) hy
  have p3 : (2 : Nat) ^ 30 = 1073741824 := by decide
  rw [p3] at b3
  rw [b1, b2, b3]
  omega
theorem newR_is {s g : Int} (s0 : 0 ≤ s) (s1 : s ≤ 7) (g0 : 0 ≤ g) (g1 : g ≤ 1073741824) : newR s g = newI s g := by
  have p27 : pw 27 = 134217728 := rfl
  have p30 : pw 30 = 1073741824 := rfl
  have e0 : IntKind.u64.wrap (0 : Int) = 0 := rfl
  have es : IntKind.u64.wrap s = s := wrap_id (by omega) (by omega)
  have eg : IntKind.u64.wrap g = g := wrap_id (by omega) (by omega)
  unfold newR newI
  rw [p27, p30, es, eg, wrap_id (x := 134217728 * s) (by omega) (by omega), wrap_id (x := 1073741824 * g) (by omega) (by omega)]
  simp only [e0, Int.mul_zero, Int.add_zero, Int.zero_add]
  rw [wrap_id (x := 134217728 * s) (by omega) (by omega), wrap_id (by omega) (by omega)]
  omega
theorem put_no {w n : Int} (h : w / pw n % 2 = 0) : putI w n false = w := by unfold putI; rw [h]; simp
theorem pk_way_3 (s g : Int) : walkV (ev sumsF1 60 300 [.agg #[.int .i64 g, .int .i64 s, .bool false, .bool false, .bool false, .int .i64 0, .int .i64 0]] ⟨.nil, 0⟩) [false, false, false, false, false, false, false, false, false, false, false, false, false, false] =
    some ([false, false, false, false, false, false, false, false, false, decide (g > (1073741824 : Int)), false, false, false, bif false then true else !(partP (packW s g) (30 : Nat) (32 : Nat) == g && (partP (packW s g) (27 : Nat) (3 : Nat) == s && ((partP (packW s g) (26 : Nat) (1 : Nat) == (1 : Int)) == false && ((partP (packW s g) (25 : Nat) (1 : Nat) == (1 : Int)) == false && ((partP (packW s g) (24 : Nat) (1 : Nat) == (1 : Int)) == false && (partP (packW s g) (12 : Nat) (12 : Nat) == (0 : Int) && (partP (packW s g) (0 : Nat) (12 : Nat) == (0 : Int) && true)))))))], .tuple #[.int .u64 (packW s g), .bool true]) := by kernel_rfl
theorem nw_way_5 (s g : Int) : walkV (ev sumsF2 60 32 [.int .i64 s, .int .i64 g] ⟨.nil, 0⟩) [false, false, false, false, false, false, false, false, false, false, false, false, false, false, false, false, false, false, false, false, false, false, true, true, true, true, true] =
    some ([false, false, false, false, false, false, false, false, false, false, false, false, bif false then true else decide (s < (0 : Int)), false, false, bif false then true else decide (s > (7 : Int)), false, false, bif false then true else decide (g < (0 : Int)), false, false, bif false then true else decide (g > (1073741824 : Int)), true, true, (isW (newR s g) && decide ((0 : Int) ≤ (24 : Int) ∧ (24 : Int) ≤ (40 : Int))), (isW (putI (newR s g) (24 : Int) false) && decide ((0 : Int) ≤ (25 : Int) ∧ (25 : Int) ≤ (40 : Int))), (isW (putI (putI (newR s g) (24 : Int) false) (25 : Int) false) && decide ((0 : Int) ≤ (26 : Int) ∧ (26 : Int) ≤ (40 : Int)))], .int .u64 (putI (putI (putI (newR s g) (24 : Int) false) (25 : Int) false) (26 : Int) false)) := by kernel_rfl
theorem pack_is {s g : Int} (s0 : 0 ≤ s) (s1 : s ≤ 7) (g0 : 0 ≤ g) (g1 : g ≤ 1073741824) : outV (ev sumsF1 60 300 [.agg #[.int .i64 g, .int .i64 s, .bool false, .bool false, .bool false, .int .i64 0, .int .i64 0]] ⟨.nil, 0⟩) = some (.tuple #[.int .u64 (newI s g), .bool true]) := by
  obtain ⟨w0, w1⟩ := newI_word s0 s1 g0 g1
  have c : decide (g > 1073741824) = false := decide_eq_false (by omega)
  have d : ∀ f m : Nat, m < 63 → partP (newI s g) f m = newI s g / 2 ^ f % 2 ^ m := fun f m h => partP_is w0 w1 h
  have e := packW_is s0 s1 g0 g1
  rw [outV_walk (pk_way_3 s g) (by
    rw [e, d 30 32 (by omega), d 27 3 (by omega), d 26 1 (by omega), d 25 1 (by omega), d 24 1 (by omega), d 12 12 (by omega), d 0 12 (by omega)]
    have f1 : newI s g / 2 ^ 30 % 2 ^ 32 = g := by unfold newI; omega
    have f2 : newI s g / 2 ^ 27 % 2 ^ 3 = s := by unfold newI; omega
    have f3 : newI s g / 2 ^ 26 % 2 ^ 1 = 0 := by unfold newI; omega
    have f4 : newI s g / 2 ^ 25 % 2 ^ 1 = 0 := by unfold newI; omega
    have f5 : newI s g / 2 ^ 24 % 2 ^ 1 = 0 := by unfold newI; omega
    have f6 : newI s g / 2 ^ 12 % 2 ^ 12 = 0 := by unfold newI; omega
    have f7 : newI s g / 2 ^ 0 % 2 ^ 12 = 0 := by unfold newI; omega
    rw [c, f1, f2, f3, f4, f5, f6, f7]
    simp only [beq_self_eq_true, Bool.true_and, cond_false, Bool.and_true, Bool.not_true]
    rfl), e]
theorem new_is {s g : Int} (s0 : 0 ≤ s) (s1 : s ≤ 7) (g0 : 0 ≤ g) (g1 : g ≤ 1073741824) : outV (ev sumsF2 60 32 [.int .i64 s, .int .i64 g] ⟨.nil, 0⟩) = some (.int .u64 (newI s g)) := by
  obtain ⟨w0, w1⟩ := newI_word s0 s1 g0 g1
  have e := newR_is s0 s1 g0 g1
  have q24 : newI s g / pw 24 % 2 = 0 := by have : pw 24 = 16777216 := rfl; rw [this]; unfold newI; omega
  have q25 : newI s g / pw 25 % 2 = 0 := by have : pw 25 = 33554432 := rfl; rw [this]; unfold newI; omega
  have q26 : newI s g / pw 26 % 2 = 0 := by have : pw 26 = 67108864 := rfl; rw [this]; unfold newI; omega
  have hw : isW (newI s g) = true := isW_iff.2 ⟨w0, w1⟩
  have c1 : decide (s < 0) = false := decide_eq_false (by omega)
  have c2 : decide (s > 7) = false := decide_eq_false (by omega)
  have c3 : decide (g < 0) = false := decide_eq_false (by omega)
  have c4 : decide (g > 1073741824) = false := decide_eq_false (by omega)
  rw [outV_walk (nw_way_5 s g) (by
    rw [e, put_no q24, put_no q25, hw, c1, c2, c3, c4]
    rfl), e, put_no q24, put_no q25, put_no q26]
def packS : List Value → Option (Bool × Value)
  | [.agg ⟨[.int .i64 g, .int .i64 s, .bool false, .bool false, .bool false, .int .i64 0, .int .i64 0]⟩] => some (decide (0 ≤ s ∧ s ≤ 7 ∧ 0 ≤ g ∧ g ≤ 1073741824), .tuple #[.int .u64 (newI s g), .bool true])
  | _ => none
def newS : List Value → Option (Bool × Value)
  | [.int .i64 s, .int .i64 g] => some (decide (0 ≤ s ∧ s ≤ 7 ∧ 0 ≤ g ∧ g ≤ 1073741824), .int .u64 (newI s g))
  | _ => none
noncomputable def sumsF3 : Sums := withIf (withIf sumsF2 300 packS) 32 newS
theorem sumsF3_ok : SumsOk sumsF3 := by
  refine withIf_ok (withIf_ok sumsF2_ok sumsF1_ok 60 (by kernel_rfl) fun al v h => ?_) sumsF2_ok 60 (by kernel_rfl) fun al v h => ?_
  · unfold packS at h
    split at h
    · simp only [Option.some.injEq, Prod.mk.injEq, decide_eq_true_eq] at h
      obtain ⟨⟨a, b, c, d⟩, rfl⟩ := h
      exact ⟨rfl, rfl, pack_is a b c d⟩
    · cases h
  · unfold newS at h
    split at h
    · simp only [Option.some.injEq, Prod.mk.injEq, decide_eq_true_eq] at h
      obtain ⟨⟨a, b, c, d⟩, rfl⟩ := h
      exact ⟨rfl, rfl, new_is a b c d⟩
    · cases h
end Go.Proofs.YtifojacfedjedaaGreat.Bound
end
