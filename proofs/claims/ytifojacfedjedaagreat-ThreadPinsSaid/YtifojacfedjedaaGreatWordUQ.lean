/- What a status word tells: the program's and the document's tell the same; tickets' slots and generations, of a world. No condition. -/
import Derived.Test.YtifojacfedjedaaGreatTickSQ
namespace Go.Proofs.YtifojacfedjedaaGreat.Bound
open Go.Proofs.YtifojacfedjedaaGreat.Ev
set_option linter.unusedVariables false
set_option linter.unusedSimpArgs false
def okT (h s : Int) : Bool := slB h && decide (slI h < s) && decide (genI h ≤ 1073741823)
def ofT (h s : Int) : Value := .tuple #[.int .i64 (if okT h s = true then slI h else 0), .int .i64 (if okT h s = true then genI h else 0), .bool (okT h s)]
theorem po_way_1 (h s : Int) : walkV (ev sumsF1 60 83 [.int .u64 h, .int .i64 s] ⟨.nil, 0⟩) [true, true, true, true, true, true, true, true, true, true] =
    some ([(isW h, Value.tuple #[Value.int IntKind.i64 (slI h), Value.bool (slB h)]).fst, (isW h, Value.int IntKind.i64 (genI h)).fst, !slB h, true, true, true, true, true, true, true], .tuple #[.int .i64 ((0 : Int)), .int .i64 ((0 : Int)), .bool false]) := by kernel_rfl
theorem po_way_2 (h s : Int) : walkV (ev sumsF1 60 83 [.int .u64 h, .int .i64 s] ⟨.nil, 0⟩) [true, true, false, false, false, true, true, true, true] =
    some ([(isW h, Value.tuple #[Value.int IntKind.i64 (slI h), Value.bool (slB h)]).fst, (isW h, Value.int IntKind.i64 (genI h)).fst, !slB h, false, false, bif false then true else decide (slI h ≥ s), true, true, true], .tuple #[.int .i64 ((0 : Int)), .int .i64 ((0 : Int)), .bool false]) := by kernel_rfl
theorem po_way_3 (h s : Int) : walkV (ev sumsF1 60 83 [.int .u64 h, .int .i64 s] ⟨.nil, 0⟩) [true, true, false, false, false, false, false, true] =
    some ([(isW h, Value.tuple #[Value.int IntKind.i64 (slI h), Value.bool (slB h)]).fst, (isW h, Value.int IntKind.i64 (genI h)).fst, !slB h, false, false, bif false then true else decide (slI h ≥ s), false, bif false then true else decide (genI h > (1073741823 : Int))], .tuple #[.int .i64 ((0 : Int)), .int .i64 ((0 : Int)), .bool false]) := by kernel_rfl
theorem po_way_4 (h s : Int) : walkV (ev sumsF1 60 83 [.int .u64 h, .int .i64 s] ⟨.nil, 0⟩) [true, true, false, false, false, false, false, false] =
    some ([(isW h, Value.tuple #[Value.int IntKind.i64 (slI h), Value.bool (slB h)]).fst, (isW h, Value.int IntKind.i64 (genI h)).fst, !slB h, false, false, bif false then true else decide (slI h ≥ s), false, bif false then true else decide (genI h > (1073741823 : Int))], .tuple #[.int .i64 (slI h), .int .i64 (genI h), .bool true]) := by kernel_rfl
theorem ro_way_1 (h s : Int) : walkV (ev sumsF1 60 72 [.int .u64 h, .int .i64 s] ⟨.nil, 0⟩) [true, true, true, true, true, true, true, true, true, true] =
    some ([(isW h, Value.tuple #[Value.int IntKind.i64 (slI h), Value.bool (slB h)]).fst, !slB h, true, true, true, true, true, true, true, true], .tuple #[.int .i64 ((0 : Int)), .int .i64 ((0 : Int)), .bool false]) := by kernel_rfl
theorem ro_way_2 (h s : Int) : walkV (ev sumsF1 60 72 [.int .u64 h, .int .i64 s] ⟨.nil, 0⟩) [true, false, false, false, true, true, true, true, true] =
    some ([(isW h, Value.tuple #[Value.int IntKind.i64 (slI h), Value.bool (slB h)]).fst, !slB h, false, false, bif false then true else decide (slI h ≥ s), true, true, true, true], .tuple #[.int .i64 ((0 : Int)), .int .i64 ((0 : Int)), .bool false]) := by kernel_rfl
theorem ro_way_3 (h s : Int) : walkV (ev sumsF1 60 72 [.int .u64 h, .int .i64 s] ⟨.nil, 0⟩) [true, false, false, false, false, false, true, false, true] =
    some ([(isW h, Value.tuple #[Value.int IntKind.i64 (slI h), Value.bool (slB h)]).fst, !slB h, false, false, bif false then true else decide (slI h ≥ s), false, (isW h, Value.int IntKind.i64 (genI h)).fst, false, bif false then true else decide (genI h > (1073741823 : Int))], .tuple #[.int .i64 ((0 : Int)), .int .i64 ((0 : Int)), .bool false]) := by kernel_rfl
theorem ro_way_4 (h s : Int) : walkV (ev sumsF1 60 72 [.int .u64 h, .int .i64 s] ⟨.nil, 0⟩) [true, false, false, false, false, false, true, false, false, true] =
    some ([(isW h, Value.tuple #[Value.int IntKind.i64 (slI h), Value.bool (slB h)]).fst, !slB h, false, false, bif false then true else decide (slI h ≥ s), false, (isW h, Value.int IntKind.i64 (genI h)).fst, false, bif false then true else decide (genI h > (1073741823 : Int)), (isW h, Value.int IntKind.i64 (genI h)).fst], .tuple #[.int .i64 (slI h), .int .i64 (genI h), .bool true]) := by kernel_rfl
theorem po_is {h s : Int} (h0 : 0 ≤ h) (h1 : h < 18446744073709551616) : outV (ev sumsF1 60 83 [.int .u64 h, .int .i64 s] ⟨.nil, 0⟩) = some (ofT h s) := by
  have hw : isW h = true := isW_iff.2 ⟨h0, h1⟩
  rcases bool_two (slB h) with hb | hb
  · by_cases c1 : slI h ≥ s
    · have : okT h s = false := by simp [okT, hb]; omega
      rw [outV_walk (po_way_2 h s) (by simp only [hw, hb, decide_eq_true c1, Bool.not_true, cond_false])]
      simp [ofT, this]
    · by_cases c2 : genI h > 1073741823
      · have : okT h s = false := by simp [okT, hb]; omega
        rw [outV_walk (po_way_3 h s) (by simp only [hw, hb, decide_eq_false c1, decide_eq_true c2, Bool.not_true, cond_false])]
        simp [ofT, this]
      · have : okT h s = true := by simp [okT, hb]; omega
        rw [outV_walk (po_way_4 h s) (by simp only [hw, hb, decide_eq_false c1, decide_eq_false c2, Bool.not_true, cond_false])]
        simp [ofT, this]
  · have : okT h s = false := by simp [okT, hb]
    rw [outV_walk (po_way_1 h s) (by simp only [hw, hb, Bool.not_false])]
    simp [ofT, this]
theorem ro_is {h s : Int} (h0 : 0 ≤ h) (h1 : h < 18446744073709551616) : outV (ev sumsF1 60 72 [.int .u64 h, .int .i64 s] ⟨.nil, 0⟩) = some (ofT h s) := by
  have hw : isW h = true := isW_iff.2 ⟨h0, h1⟩
  rcases bool_two (slB h) with hb | hb
  · by_cases c1 : slI h ≥ s
    · have : okT h s = false := by simp [okT, hb]; omega
      rw [outV_walk (ro_way_2 h s) (by simp only [hw, hb, decide_eq_true c1, Bool.not_true, cond_false])]
      simp [ofT, this]
    · by_cases c2 : genI h > 1073741823
      · have : okT h s = false := by simp [okT, hb]; omega
        rw [outV_walk (ro_way_3 h s) (by simp only [hw, hb, decide_eq_false c1, decide_eq_true c2, Bool.not_true, cond_false])]
        simp [ofT, this]
      · have : okT h s = true := by simp [okT, hb]; omega
        rw [outV_walk (ro_way_4 h s) (by simp only [hw, hb, decide_eq_false c1, decide_eq_false c2, Bool.not_true, cond_false])]
        simp [ofT, this]
  · have : okT h s = false := by simp [okT, hb]
    rw [outV_walk (ro_way_1 h s) (by simp only [hw, hb, Bool.not_false])]
    simp [ofT, this]
def ofTS : List Value → Option (Bool × Value)
  | [.int .u64 h, .int .i64 s] => some (isW h, ofT h s)
  | _ => none
theorem ofTS_ok {sums : Sums} {f : Nat} (hs : SumsOk sums) (hf : (fns f).isSome = true) (h : ∀ h s : Int, 0 ≤ h → h < 18446744073709551616 → outV (ev sumsF1 60 f [.int .u64 h, .int .i64 s] ⟨.nil, 0⟩) = some (ofT h s)) : SumsOk (withIf sums f ofTS) := withIf_ok hs sumsF1_ok 60 hf fun al v hv => by
  unfold ofTS at hv
  split at hv
  · simp only [Option.some.injEq, Prod.mk.injEq, isW_iff] at hv
    obtain ⟨⟨h0, h1⟩, rfl⟩ := hv
    exact ⟨rfl, rfl, h _ _ h0 h1⟩
  · cases hv
/-- A word's state, and generation. -/
def stI (w : Int) : Int := w / 134217728 % 8
def gnI (w : Int) : Int := w / 1073741824 % 4294967296
def statusI (w : Int) : Value := .agg #[.int .i64 (gnI w), .int .i64 (stI w), .bool (bitI w 26), .bool (bitI w 25), .bool (bitI w 24), .int .i64 (w / 4096 % 4096), .int .i64 (w % 4096)]
theorem part_bit {w : Int} (n : Nat) (h0 : 0 ≤ w) (h1 : w < 18446744073709551616) : (partP w n 1 == 1) = bitI w n := by
  rw [partP_is h0 h1 (by omega)]
  unfold bitI pw
  simp
theorem unpack_is {w : Int} (h0 : 0 ≤ w) (h1 : w < 18446744073709551616) : statusP w = statusI w := by
  unfold statusP statusI
  rw [part_bit 26 h0 h1, part_bit 25 h0 h1, part_bit 24 h0 h1, partP_is h0 h1 (by omega), partP_is h0 h1 (by omega), partP_is h0 h1 (by omega), partP_is h0 h1 (by omega)]
  simp [gnI, stI]
theorem gen_way (w : Int) : walkV (ev sumsF1 60 98 [.int .u64 w] ⟨.nil, 0⟩) [true, false, true, false] =
    some ([true, false, true, false], .int .i64 (IntKind.i64.wrap ((IntKind.u64.wrap (w.tdiv (pw (30 : Int)))).tmod (pw (32 : Int))))) := by kernel_rfl
theorem gen_is {w : Int} (h0 : 0 ≤ w) (h1 : w < 18446744073709551616) : IntKind.i64.wrap ((IntKind.u64.wrap (w.tdiv (pw (30 : Int)))).tmod (pw (32 : Int))) = gnI w := by
  have p30 : pw 30 = 1073741824 := rfl
  have p32 : pw 32 = 4294967296 := rfl
  rw [p30, p32, Int.tdiv_eq_ediv_of_nonneg h0, wrap_id (by omega) (by omega), Int.tmod_eq_emod_of_nonneg (by omega), IntKind.wrap_i64]
  unfold gnI
  omega
theorem busy_way (w : Int) : walkV (ev sumsF1 60 162 [.int .u64 w] ⟨.nil, 0⟩) [true] =
    some ([isW w && decide ((0 : Int) ≤ (26 : Int) ∧ (26 : Int) ≤ (40 : Int))], .bool (bitI w (26 : Int))) := by kernel_rfl
def onW (f : Int → Value) : List Value → Option (Bool × Value)
  | [.int .u64 w] => some (isW w, f w)
  | _ => none
theorem onW_ok {sums : Sums} {f : Nat} {g : Int → Value} (hs : SumsOk sums) (hf : (fns f).isSome = true) (hg : ∀ w, plain (g w) = true) (h : ∀ w : Int, 0 ≤ w → w < 18446744073709551616 → outV (ev sumsF1 60 f [.int .u64 w] ⟨.nil, 0⟩) = some (g w)) : SumsOk (withIf sums f (onW g)) := withIf_ok hs sumsF1_ok 60 hf fun al v hv => by
  unfold onW at hv
  split at hv
  · simp only [Option.some.injEq, Prod.mk.injEq, isW_iff] at hv
    obtain ⟨⟨h0, h1⟩, rfl⟩ := hv
    exact ⟨rfl, hg _, h _ h0 h1⟩
  · cases hv
theorem up_ev (w : Int) : outV (ev sumsF1 60 134 [.int .u64 w] ⟨.nil, 0⟩) = some (statusP w) := by kernel_rfl
theorem st_ev (w : Int) : outV (ev sumsF1 60 25 [.int .u64 w] ⟨.nil, 0⟩) = some (.int .i64 (partR w 27 3)) := by kernel_rfl
noncomputable def sumsF2 : Sums := withIf (withIf (withIf (withIf (withIf (withIf sumsF1 83 ofTS) 72 ofTS) 134 (onW statusI)) 25 (onW fun w => .int .i64 (stI w))) 98 (onW fun w => .int .i64 (gnI w))) 162 (onW fun w => .bool (bitI w 26))
theorem sumsF2_ok : SumsOk sumsF2 := by
  refine onW_ok (onW_ok (onW_ok (onW_ok (ofTS_ok (ofTS_ok sumsF1_ok (by kernel_rfl) fun h s a b => po_is a b) (by kernel_rfl) fun h s a b => ro_is a b) (by kernel_rfl) (fun w => rfl) fun w a b => ?_) (by kernel_rfl) (fun w => rfl) fun w a b => ?_) (by kernel_rfl) (fun w => rfl) fun w a b => ?_) (by kernel_rfl) (fun w => rfl) fun w a b => ?_
  · rw [up_ev, unpack_is a b]
  · rw [st_ev, partR_is a b (by omega)]
    simp [stI]
  · rw [outV_walk (gen_way w) rfl, gen_is a b]
  · have hw : isW w = true := isW_iff.2 ⟨a, b⟩
    exact outV_walk (busy_way w) (by rw [hw]; rfl)
end Go.Proofs.YtifojacfedjedaaGreat.Bound
