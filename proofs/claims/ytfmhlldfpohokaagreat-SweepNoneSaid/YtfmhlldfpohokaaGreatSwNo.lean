/- Tallies, and making a ticket, as sums. No condition. A step of one that begins, by the program: forms by kinds. No condition. A step of one that begins, by the program: trees by kinds, and the sum. No condition. Those that had a conflict with one that was let go of. No condition. The law SweepNone: whether a key is marked; an Open that goes on alone. No condition. The law SweepNone: the loop of an Open that goes on alone. No condition. -/
import Derived.Test.YtfmhlldfpohokaaGreatSwPB
import Derived.Test.YtfmhlldfpohokaaGreatSwLB2
section
namespace Go.Proofs.YtfmhlldfpohokaaGreat.Bound
open Go.Proofs.YtfmhlldfpohokaaGreat.Ev Go.Proofs.YtfmhlldfpohokaaGreat.ChartMath
set_option linter.unusedVariables false
set_option linter.unusedSimpArgs false
theorem div16 {h : Int} (h0 : 0 ≤ h) : h.fdiv ((2 : Int) ^ min (Int.toNat 4) IntKind.u64.bits) = h / 16 := by
  have : (2 : Int) ^ min (Int.toNat 4) IntKind.u64.bits = 16 := rfl
  rw [this, Int.fdiv_eq_ediv_of_nonneg _ (by omega)]
def unpS (w : Int) : Value := .agg #[.int .u64 (w / 16), .int .i64 (w % 16 - 1)]
theorem unp_is {w : Int} (h0 : 0 ≤ w) (h1 : w < 18446744073709551616) : outV (ev sumsF3 60 154 [.int .u64 w] ⟨.nil, 0⟩) = some (unpS w) := by
  have e : outV (ev sumsF3 60 154 [.int .u64 w] ⟨.nil, 0⟩) = some (.agg #[.int .u64 (w.fdiv ((2 : Int) ^ min (Int.toNat (4 : Int)) IntKind.u64.bits)), .int .i64 (IntKind.i64.wrap (IntKind.i64.wrap (IntKind.u64.wrap (↑(BitVec.ofInt IntKind.u64.bits w &&& BitVec.ofInt IntKind.u64.bits (15 : Int)).toNat : Int)) - (1 : Int)))]) := by kernel_rfl
  have hm : 0 ≤ w % 16 ∧ w % 16 < 16 := by omega
  rw [e, div16 h0, and15 h0 h1]
  have w1 : IntKind.i64.wrap (w % 16) = w % 16 := by rw [IntKind.wrap_i64]; omega
  have w2 : IntKind.i64.wrap (w % 16 - 1) = w % 16 - 1 := by rw [IntKind.wrap_i64]; omega
  rw [w1, w2]
  rfl
def setI (w : Int) : Int := w / 16 * 16
theorem set_is {w : Int} (h0 : 0 ≤ w) (h1 : w < 18446744073709551616) : outV (ev sumsF3 60 200 [.int .u64 w] ⟨.nil, 0⟩) = some (.int .u64 (setI w)) := by
  have e : outV (ev sumsF3 60 200 [.int .u64 w] ⟨.nil, 0⟩) = some (.int .u64 (IntKind.u64.wrap (w.fdiv ((2 : Int) ^ min (Int.toNat (4 : Int)) IntKind.u64.bits) * (2 : Int) ^ min (Int.toNat (4 : Int)) IntKind.u64.bits))) := by kernel_rfl
  have : (2 : Int) ^ min (Int.toNat 4) IntKind.u64.bits = 16 := rfl
  rw [e, div16 h0, this, wrap_id (by omega) (by omega)]
  rfl
/-- A ticket. -/
def mkI (sl g : Int) : Int := 16 * g + sl + 1
def pt_mk (sl g : Int) : PT Value := .cs 2 (.b (!((if (if 11 < sl then 11 else sl) > 0 then if 11 < sl then 11 else sl else 0) == sl && ((if (if 1073741823 < g then 1073741823 else g) > 0 then if 1073741823 < g then 1073741823 else g else 0) == g && true))) .bad (.cs 3 (.leaf (.tuple #[.int .u64 (IntKind.u64.wrap (↑(BitVec.ofInt IntKind.u64.bits (IntKind.u64.wrap (IntKind.i64.wrap (sl + (1 : Int)))) ||| BitVec.ofInt IntKind.u64.bits (IntKind.u64.wrap (IntKind.u64.wrap g * (2 : Int) ^ min (Int.toNat (4 : Int)) IntKind.u64.bits))).toNat : Int)), .bool true]))))
theorem ct_mk (sl g : Int) : cutP (pt_mk sl g) (valT (ev sumsF3 60 189 [.int .i64 sl, .int .i64 g] ⟨.nil, 0⟩)) = den (pt_mk sl g) := by kernel_rfl
theorem mk_is {sl g : Int} (s0 : 0 ≤ sl) (s1 : sl ≤ 11) (g0 : 0 ≤ g) (g1 : g ≤ 1073741823) : outV (ev sumsF3 60 189 [.int .i64 sl, .int .i64 g] ⟨.nil, 0⟩) = some (.tuple #[.int .u64 (mkI sl g), .bool true]) := by
  refine valT_out (cut_get (ct_mk sl g) ?_)
  have a1 : (if (if 11 < sl then 11 else sl) > 0 then if 11 < sl then 11 else sl else 0) = sl := by repeat' split
                                                                                                    all_goals omega
  have a2 : (if (if 1073741823 < g then 1073741823 else g) > 0 then if 1073741823 < g then 1073741823 else g else 0) = g := by repeat' split
                                                                                                                               all_goals omega
  have e4 : (2 : Int) ^ min (Int.toNat 4) IntKind.u64.bits = 16 := rfl
  have w1 : IntKind.i64.wrap (sl + 1) = sl + 1 := by rw [IntKind.wrap_i64]; omega
  have w2 : IntKind.u64.wrap (sl + 1) = sl + 1 := wrap_id (by omega) (by omega)
  have w3 : IntKind.u64.wrap g = g := wrap_id (by omega) (by omega)
  have w4 : IntKind.u64.wrap (g * 16) = g * 16 := wrap_id (by omega) (by omega)
  simp only [pt_mk, den, Tree.get_br, Tree.get_leaf, a1, a2, beq_self_eq_true, Bool.and_self, Bool.not_true, Bool.false_eq_true, if_false, e4, w1, w2, w3, w4]
  rw [p_or (by omega) (by omega) (by omega) (by omega)]
  have hor : (sl + 1).toNat ||| (g * 16).toNat = (sl + 1).toNat + (g * 16).toNat := by
    have := lay_in (sl + 1).toNat (g.toNat * 2 ^ 4) fun j hj => by
      obtain ⟨x1, x2⟩ := hj
      have := Nat.testBit_lt_two_pow (x := (sl + 1).toNat) (i := j)
      rw [Nat.testBit_mul_two_pow] at x2
      simp only [Bool.and_eq_true, decide_eq_true_eq] at x2
      have h16 : (sl + 1).toNat < 2 ^ j := Nat.lt_of_lt_of_le (show (sl + 1).toNat < 2 ^ 4 by omega) (Nat.pow_le_pow_right (by omega) x2.1)
      rw [Nat.testBit_lt_two_pow h16] at x1
      cases x1
    rw [show (g * 16).toNat = g.toNat * 2 ^ 4 by omega]
    exact this
  rw [hor]
  unfold mkI
  congr 5
  omega
def mkS : List Value → Option (Bool × Value)
  | [.int .i64 sl, .int .i64 g] => some (decide (0 ≤ sl ∧ sl ≤ 11 ∧ 0 ≤ g ∧ g ≤ 1073741823), .tuple #[.int .u64 (mkI sl g), .bool true])
  | _ => none
noncomputable def withTal (sums : Sums) : Sums := withIf (withIf (withIf sums 154 (onW unpS)) 200 (onW fun w => .int .u64 (setI w))) 189 mkS
theorem withTal_ok {sums : Sums} (hs : SumsOk sums) : SumsOk (withTal sums) := by
  refine withIf_ok (withIf_ok (withIf_ok hs sumsF3_ok 60 (by kernel_rfl) fun al v h => ?_) sumsF3_ok 60 (by kernel_rfl) fun al v h => ?_) sumsF3_ok 60 (by kernel_rfl) fun al v h => ?_
  · unfold onW at h
    split at h
    · simp only [Option.some.injEq, Prod.mk.injEq, isW_iff] at h
      obtain ⟨⟨h0, h1⟩, rfl⟩ := h
      exact ⟨rfl, rfl, unp_is h0 h1⟩
    · cases h
  · unfold onW at h
    split at h
    · simp only [Option.some.injEq, Prod.mk.injEq, isW_iff] at h
      obtain ⟨⟨h0, h1⟩, rfl⟩ := h
      exact ⟨rfl, rfl, set_is h0 h1⟩
    · cases h
  · unfold mkS at h
    split at h
    · simp only [Option.some.injEq, Prod.mk.injEq, decide_eq_true_eq] at h
      obtain ⟨⟨h0, h1, h2, h3⟩, rfl⟩ := h
      exact ⟨rfl, rfl, mk_is h0 h1 h2 h3⟩
    · cases h
noncomputable def sumsF4 : Sums := withTal sumsF3
theorem sumsF4_ok : SumsOk sumsF4 := withTal_ok sumsF3_ok
end Go.Proofs.YtfmhlldfpohokaaGreat.Bound
end

section
namespace Go.Proofs.YtfmhlldfpohokaaGreat.Bound
open Go.Proofs.YtfmhlldfpohokaaGreat.Ev Go.Proofs.YtfmhlldfpohokaaGreat.ChartMath
set_option linter.unusedVariables false
set_option linter.unusedSimpArgs false
/-- The kinds of an Open's state: 0 look, 1 take, 2 tally, 3 help (number), 4 help (look), 5 help (lay), 6 help (settle), 7 note, 8 start, 9 done. -/
def opFn : List FuncId := [71, 110, 136, 157, 157, 157, 157, 155, 177]
def heFn : List FuncId := [0, 0, 0, 178, 191, 197, 196]
def opSub (k b : Nat) : List (Nat × TypeId × CPat) := cond (Nat.blt k 2) [(b, 3, .vals [i6])] (cond (Nat.blt 2 k && Nat.blt k 7) [(b, 207, .vals [.func (nthD 0 heFn k) [] [], u6, u6, u6, i6])] [])
def opKnown (k sw b : Nat) : List (Nat × Pat) := [(0, cond (Nat.beq k 9) .nilFunc (.func (nthD 0 opFn k) [.ptr sw 0 none] [])), (6, i6), (7, u6), (8, u6)] ++ cond (Nat.beq k 9) [] [(2, i6)] ++ cond (Nat.blt k 2) [(1, .func 106 [] [.ptr b 0 none])] [] ++ cond (Nat.beq k 0 || Nat.beq k 9) [] [(3, u6)] ++ cond (Nat.beq k 7 || Nat.beq k 8) [(4, u6)] [] ++ cond (Nat.blt 2 k && Nat.blt k 7) [(5, .ptr b 0 none)] []
def opC (k sw b : Nat) : Nat × TypeId × CPat := (sw, 136, partC 9 (opKnown k sw b))
def opOut (m k : Nat) : SPat := ⟨[(0, .tuple [])], 1, opC k 0 (m + 2) :: opSub k (m + 2) ++ [(m, 116, memK (m + 1)), (m + 1, 22, .ints .u64)], m + 2 + (opSub k 0).length, upTo (m + 2) []⟩
def opIn (k : Nat) : FForm :=
  let m := (opSub k 1).length + 1
  ⟨[.ptr 0 0 none, .ptr m 0 none], opC k 0 1 :: opSub k 1 ++ [(m, 116, memK (m + 1)), (m + 1, 22, .ints .u64)], (upTo 10 []).map (opOut m)⟩
end Go.Proofs.YtfmhlldfpohokaaGreat.Bound
end

section
namespace Go.Proofs.YtfmhlldfpohokaaGreat.Bound
open Go.Proofs.YtfmhlldfpohokaaGreat.Ev Go.Proofs.YtfmhlldfpohokaaGreat.ChartMath
set_option linter.unusedVariables false
set_option linter.unusedSimpArgs false
def pt_op0 (sl : Int) (T S K G Q : Int) (l c : Nat) (s : MS) : PT (Nat × List Atom) := .cs 1 (.b (rowB T S K G Q l s) (.b (isW (mat T S K s 4 sl)) (.b (stI (mat T S K s 4 sl) != 0) (.cs 7 (.b (decide (IntKind.i64.wrap (sl + 1) ≥ S)) (.leaf (9, ([.i 6, .i 0, .i 0] ++ mA T S K G Q l c (mload T S K s 4 sl)))) (.leaf (0, ([.i (IntKind.i64.wrap (sl + 1)), .i 0, .i 0, .i 0, .i (IntKind.i64.wrap (sl + 1))] ++ mA T S K G Q l c (mload T S K s 4 sl)))))) (.cs 5 (.b (decide (gnI (mat T S K s 4 sl) > G)) (.b (decide (IntKind.i64.wrap (sl + 1) ≥ S)) (.leaf (9, ([.i 6, .i 0, .i 0] ++ mA T S K G Q l c (mload T S K s 4 sl)))) (.leaf (0, ([.i (IntKind.i64.wrap (sl + 1)), .i 0, .i 0, .i 0, .i (IntKind.i64.wrap (sl + 1))] ++ mA T S K G Q l c (mload T S K s 4 sl))))) (.leaf (1, ([.i (sl), .i (mat T S K s 4 sl), .i 0, .i 0, .i 0, .i (sl)] ++ mA T S K G Q l c (mload T S K s 4 sl))))))) .bad) .bad)
theorem ct_op0 (sl : Int) (T S K G Q : Int) (l c : Nat) (s : MS) : cutP (pt_op0 sl T S K G Q l c s) (endF (ev sumsF4 60 29) (opIn 0) [.i sl, .i 0, .i 0, .i 0, .i sl, .i T, .i S, .i K, .i G, .i Q, .n l, .n c, .i s.tk, .i s.ts, .i s.to, .i s.told, .i s.tnew, .b s.td, .i s.many, .ws s.ws]) = den (pt_op0 sl T S K G Q l c s) := by kernel_rfl
def opO0 : List Atom → Tree (Nat × List Atom)
  | .i sl :: .i x1 :: .i x2 :: .i x3 :: .i x4 :: .i T :: .i S :: .i K :: .i G :: .i Q :: .n l :: .n c :: .i tk :: .i ts :: .i to :: .i told :: .i tnew :: .b td :: .i many :: .ws ws :: [] => .br (decide (0 = x1 ∧ 0 = x2 ∧ 0 = x3 ∧ sl = x4)) (den (pt_op0 sl T S K G Q l c ⟨ws, many, tk, ts, to, told, tnew, td⟩)) .bad
  | _ => .bad
theorem opO0_st (x : List Atom) (r : Nat × List Atom) (h : (opO0 x).get = some r) : (endF (ev sumsF4 60 29) (opIn 0) x).get = some r := by
  unfold opO0 at h
  split at h
  · rename_i sl x1 x2 x3 x4 T S K G Q l c tk ts to told tnew td many ws
    obtain ⟨hg, h2⟩ := get_br h
    obtain ⟨rfl, rfl, rfl, rfl⟩ := of_decide_eq_true hg
    exact cut_get (ct_op0 sl T S K G Q l c ⟨ws, many, tk, ts, to, told, tnew, td⟩) h2
  · cases h
def pt_op1 (sl w : Int) (T S K G Q : Int) (l c : Nat) (s : MS) : PT (Nat × List Atom) := .cs 1 (.b (isW w) (.b (rowB T S K G Q l s) (.b (!mok T S K s 4 sl w) (.b (decide (IntKind.i64.wrap (sl + 1) ≥ S)) (.leaf (9, ([.i 6, .i 0, .i 0] ++ mA T S K G Q l c (mswap T S K s 4 sl w (moveI w 1 false))))) (.leaf (0, ([.i (IntKind.i64.wrap (sl + 1)), .i 0, .i 0, .i 0, .i (IntKind.i64.wrap (sl + 1))] ++ mA T S K G Q l c (mswap T S K s 4 sl w (moveI w 1 false)))))) (.leaf (2, ([.i (sl), .i (w), .i 0, .i 0, .i 0] ++ mA T S K G Q l c (mswap T S K s 4 sl w (moveI w 1 false)))))) .bad) .bad)
theorem ct_op1 (sl w : Int) (T S K G Q : Int) (l c : Nat) (s : MS) : cutP (pt_op1 sl w T S K G Q l c s) (endF (ev sumsF4 60 29) (opIn 1) [.i sl, .i w, .i 0, .i 0, .i 0, .i sl, .i T, .i S, .i K, .i G, .i Q, .n l, .n c, .i s.tk, .i s.ts, .i s.to, .i s.told, .i s.tnew, .b s.td, .i s.many, .ws s.ws]) = den (pt_op1 sl w T S K G Q l c s) := by kernel_rfl
def opO1 : List Atom → Tree (Nat × List Atom)
  | .i sl :: .i w :: .i x2 :: .i x3 :: .i x4 :: .i x5 :: .i T :: .i S :: .i K :: .i G :: .i Q :: .n l :: .n c :: .i tk :: .i ts :: .i to :: .i told :: .i tnew :: .b td :: .i many :: .ws ws :: [] => .br (decide (0 = x2 ∧ 0 = x3 ∧ 0 = x4 ∧ sl = x5)) (den (pt_op1 sl w T S K G Q l c ⟨ws, many, tk, ts, to, told, tnew, td⟩)) .bad
  | _ => .bad
theorem opO1_st (x : List Atom) (r : Nat × List Atom) (h : (opO1 x).get = some r) : (endF (ev sumsF4 60 29) (opIn 1) x).get = some r := by
  unfold opO1 at h
  split at h
  · rename_i sl w x2 x3 x4 x5 T S K G Q l c tk ts to told tnew td many ws
    obtain ⟨hg, h2⟩ := get_br h
    obtain ⟨rfl, rfl, rfl, rfl⟩ := of_decide_eq_true hg
    exact cut_get (ct_op1 sl w T S K G Q l c ⟨ws, many, tk, ts, to, told, tnew, td⟩) h2
  · cases h
def pt_op2 (sl w : Int) (T S K G Q : Int) (l c : Nat) (s : MS) : PT (Nat × List Atom) := .cs 1 (.b (rowB T S K G Q l s) (.b (isW (mat T S K s 1 0)) (.b (decide (mat T S K s 1 0 % 16 - 1 ≥ 0)) (.b (isW (mat T S K s 1 0)) (.b (decide (mat T S K s 1 0 % 16 - 1 ≥ 0)) (.leaf (3, ([.i (sl), .i (w), .i 0, .i 0, .i 0, .i (mat T S K s 1 0), .i 0, .i (mat T S K s 1 0 / 16), .i (mat T S K s 1 0 % 16 - 1)] ++ mA T S K G Q l c (mload T S K s 1 0)))) .bad) .bad) (.leaf (7, ([.i (sl), .i (w), .i (mat T S K s 1 0 / 16), .i 0, .i 0, .i 0] ++ mA T S K G Q l c (mload T S K s 1 0))))) .bad) .bad)
theorem ct_op2 (sl w : Int) (T S K G Q : Int) (l c : Nat) (s : MS) : cutP (pt_op2 sl w T S K G Q l c s) (endF (ev sumsF4 60 29) (opIn 2) [.i sl, .i w, .i 0, .i 0, .i 0, .i T, .i S, .i K, .i G, .i Q, .n l, .n c, .i s.tk, .i s.ts, .i s.to, .i s.told, .i s.tnew, .b s.td, .i s.many, .ws s.ws]) = den (pt_op2 sl w T S K G Q l c s) := by kernel_rfl
def opO2 : List Atom → Tree (Nat × List Atom)
  | .i sl :: .i w :: .i x2 :: .i x3 :: .i x4 :: .i T :: .i S :: .i K :: .i G :: .i Q :: .n l :: .n c :: .i tk :: .i ts :: .i to :: .i told :: .i tnew :: .b td :: .i many :: .ws ws :: [] => .br (decide (0 = x2 ∧ 0 = x3 ∧ 0 = x4)) (den (pt_op2 sl w T S K G Q l c ⟨ws, many, tk, ts, to, told, tnew, td⟩)) .bad
  | _ => .bad
theorem opO2_st (x : List Atom) (r : Nat × List Atom) (h : (opO2 x).get = some r) : (endF (ev sumsF4 60 29) (opIn 2) x).get = some r := by
  unfold opO2 at h
  split at h
  · rename_i sl w x2 x3 x4 T S K G Q l c tk ts to told tnew td many ws
    obtain ⟨hg, h2⟩ := get_br h
    obtain ⟨rfl, rfl, rfl⟩ := of_decide_eq_true hg
    exact cut_get (ct_op2 sl w T S K G Q l c ⟨ws, many, tk, ts, to, told, tnew, td⟩) h2
  · cases h
def pt_op3 (sl w hw hs hq hp : Int) (T S K G Q : Int) (l c : Nat) (s : MS) : PT (Nat × List Atom) := .cs 2 (.b (rowB T S K G Q l s) (.cs 1 (.leaf (4, ([.i (sl), .i (w), .i 0, .i 0, .i 0, .i (hw), .i (hs), .i (hq), .i (hp)] ++ mA T S K G Q l c (mswap T S K s 6 hp 0 hq))))) .bad)
theorem ct_op3 (sl w hw hs hq hp : Int) (T S K G Q : Int) (l c : Nat) (s : MS) : cutP (pt_op3 sl w hw hs hq hp T S K G Q l c s) (endF (ev sumsF4 60 29) (opIn 3) [.i sl, .i w, .i 0, .i 0, .i 0, .i hw, .i hs, .i hq, .i hp, .i T, .i S, .i K, .i G, .i Q, .n l, .n c, .i s.tk, .i s.ts, .i s.to, .i s.told, .i s.tnew, .b s.td, .i s.many, .ws s.ws]) = den (pt_op3 sl w hw hs hq hp T S K G Q l c s) := by kernel_rfl
def opO3 : List Atom → Tree (Nat × List Atom)
  | .i sl :: .i w :: .i x2 :: .i x3 :: .i x4 :: .i hw :: .i hs :: .i hq :: .i hp :: .i T :: .i S :: .i K :: .i G :: .i Q :: .n l :: .n c :: .i tk :: .i ts :: .i to :: .i told :: .i tnew :: .b td :: .i many :: .ws ws :: [] => .br (decide (0 = x2 ∧ 0 = x3 ∧ 0 = x4)) (den (pt_op3 sl w hw hs hq hp T S K G Q l c ⟨ws, many, tk, ts, to, told, tnew, td⟩)) .bad
  | _ => .bad
theorem opO3_st (x : List Atom) (r : Nat × List Atom) (h : (opO3 x).get = some r) : (endF (ev sumsF4 60 29) (opIn 3) x).get = some r := by
  unfold opO3 at h
  split at h
  · rename_i sl w x2 x3 x4 hw hs hq hp T S K G Q l c tk ts to told tnew td many ws
    obtain ⟨hg, h2⟩ := get_br h
    obtain ⟨rfl, rfl, rfl⟩ := of_decide_eq_true hg
    exact cut_get (ct_op3 sl w hw hs hq hp T S K G Q l c ⟨ws, many, tk, ts, to, told, tnew, td⟩) h2
  · cases h
def pt_op4 (sl w hw hs hq hp : Int) (T S K G Q : Int) (l c : Nat) (s : MS) : PT (Nat × List Atom) := .cs 2 (.b (rowB T S K G Q l s) (.b (isW (mat T S K s 4 hp)) (.b (stI (mat T S K s 4 hp) == 3) (.cs 1 (.leaf (5, ([.i (sl), .i (w), .i 0, .i 0, .i 0, .i (hw), .i (mat T S K s 4 hp), .i (hq), .i (hp)] ++ mA T S K G Q l c (mload T S K s 4 hp))))) (.cs 1 (.leaf (6, ([.i (sl), .i (w), .i 0, .i 0, .i 0, .i (hw), .i (mat T S K s 4 hp), .i (hq), .i (hp)] ++ mA T S K G Q l c (mload T S K s 4 hp)))))) .bad) .bad)
theorem ct_op4 (sl w hw hs hq hp : Int) (T S K G Q : Int) (l c : Nat) (s : MS) : cutP (pt_op4 sl w hw hs hq hp T S K G Q l c s) (endF (ev sumsF4 60 29) (opIn 4) [.i sl, .i w, .i 0, .i 0, .i 0, .i hw, .i hs, .i hq, .i hp, .i T, .i S, .i K, .i G, .i Q, .n l, .n c, .i s.tk, .i s.ts, .i s.to, .i s.told, .i s.tnew, .b s.td, .i s.many, .ws s.ws]) = den (pt_op4 sl w hw hs hq hp T S K G Q l c s) := by kernel_rfl
def opO4 : List Atom → Tree (Nat × List Atom)
  | .i sl :: .i w :: .i x2 :: .i x3 :: .i x4 :: .i hw :: .i hs :: .i hq :: .i hp :: .i T :: .i S :: .i K :: .i G :: .i Q :: .n l :: .n c :: .i tk :: .i ts :: .i to :: .i told :: .i tnew :: .b td :: .i many :: .ws ws :: [] => .br (decide (0 = x2 ∧ 0 = x3 ∧ 0 = x4)) (den (pt_op4 sl w hw hs hq hp T S K G Q l c ⟨ws, many, tk, ts, to, told, tnew, td⟩)) .bad
  | _ => .bad
theorem opO4_st (x : List Atom) (r : Nat × List Atom) (h : (opO4 x).get = some r) : (endF (ev sumsF4 60 29) (opIn 4) x).get = some r := by
  unfold opO4 at h
  split at h
  · rename_i sl w x2 x3 x4 hw hs hq hp T S K G Q l c tk ts to told tnew td many ws
    obtain ⟨hg, h2⟩ := get_br h
    obtain ⟨rfl, rfl, rfl⟩ := of_decide_eq_true hg
    exact cut_get (ct_op4 sl w hw hs hq hp T S K G Q l c ⟨ws, many, tk, ts, to, told, tnew, td⟩) h2
  · cases h
def pt_op5 (sl w hw hs hq hp : Int) (T S K G Q : Int) (l c : Nat) (s : MS) : PT (Nat × List Atom) := .cs 2 (.b (isW hs) (.b (isW hs) (.b (rowB T S K G Q l s) (.b (mok T S K s 4 hp hs) (.cs 1 (.leaf (6, ([.i (sl), .i (w), .i 0, .i 0, .i 0, .i (hw), .i (hs), .i (hq), .i (hp)] ++ mA T S K G Q l c (mswap T S K s 4 hp hs (moveI hs 4 (bitI hs 26))))))) (.cs 1 (.leaf (4, ([.i (sl), .i (w), .i 0, .i 0, .i 0, .i (hw), .i (hs), .i (hq), .i (hp)] ++ mA T S K G Q l c (mswap T S K s 4 hp hs (moveI hs 4 (bitI hs 26)))))))) .bad) .bad) .bad)
theorem ct_op5 (sl w hw hs hq hp : Int) (T S K G Q : Int) (l c : Nat) (s : MS) : cutP (pt_op5 sl w hw hs hq hp T S K G Q l c s) (endF (ev sumsF4 60 29) (opIn 5) [.i sl, .i w, .i 0, .i 0, .i 0, .i hw, .i hs, .i hq, .i hp, .i T, .i S, .i K, .i G, .i Q, .n l, .n c, .i s.tk, .i s.ts, .i s.to, .i s.told, .i s.tnew, .b s.td, .i s.many, .ws s.ws]) = den (pt_op5 sl w hw hs hq hp T S K G Q l c s) := by kernel_rfl
def opO5 : List Atom → Tree (Nat × List Atom)
  | .i sl :: .i w :: .i x2 :: .i x3 :: .i x4 :: .i hw :: .i hs :: .i hq :: .i hp :: .i T :: .i S :: .i K :: .i G :: .i Q :: .n l :: .n c :: .i tk :: .i ts :: .i to :: .i told :: .i tnew :: .b td :: .i many :: .ws ws :: [] => .br (decide (0 = x2 ∧ 0 = x3 ∧ 0 = x4)) (den (pt_op5 sl w hw hs hq hp T S K G Q l c ⟨ws, many, tk, ts, to, told, tnew, td⟩)) .bad
  | _ => .bad
theorem opO5_st (x : List Atom) (r : Nat × List Atom) (h : (opO5 x).get = some r) : (endF (ev sumsF4 60 29) (opIn 5) x).get = some r := by
  unfold opO5 at h
  split at h
  · rename_i sl w x2 x3 x4 hw hs hq hp T S K G Q l c tk ts to told tnew td many ws
    obtain ⟨hg, h2⟩ := get_br h
    obtain ⟨rfl, rfl, rfl⟩ := of_decide_eq_true hg
    exact cut_get (ct_op5 sl w hw hs hq hp T S K G Q l c ⟨ws, many, tk, ts, to, told, tnew, td⟩) h2
  · cases h
def pt_op6 (sl w hw hs hq hp : Int) (T S K G Q : Int) (l c : Nat) (s : MS) : PT (Nat × List Atom) := .cs 2 (.b (isW hw) (.b (rowB T S K G Q l s) (.cs 1 (.leaf (2, ([.i (sl), .i (w), .i 0, .i 0, .i 0] ++ mA T S K G Q l c (mswap T S K s 1 0 hw (setI hw)))))) .bad) .bad)
theorem ct_op6 (sl w hw hs hq hp : Int) (T S K G Q : Int) (l c : Nat) (s : MS) : cutP (pt_op6 sl w hw hs hq hp T S K G Q l c s) (endF (ev sumsF4 60 29) (opIn 6) [.i sl, .i w, .i 0, .i 0, .i 0, .i hw, .i hs, .i hq, .i hp, .i T, .i S, .i K, .i G, .i Q, .n l, .n c, .i s.tk, .i s.ts, .i s.to, .i s.told, .i s.tnew, .b s.td, .i s.many, .ws s.ws]) = den (pt_op6 sl w hw hs hq hp T S K G Q l c s) := by kernel_rfl
def opO6 : List Atom → Tree (Nat × List Atom)
  | .i sl :: .i w :: .i x2 :: .i x3 :: .i x4 :: .i hw :: .i hs :: .i hq :: .i hp :: .i T :: .i S :: .i K :: .i G :: .i Q :: .n l :: .n c :: .i tk :: .i ts :: .i to :: .i told :: .i tnew :: .b td :: .i many :: .ws ws :: [] => .br (decide (0 = x2 ∧ 0 = x3 ∧ 0 = x4)) (den (pt_op6 sl w hw hs hq hp T S K G Q l c ⟨ws, many, tk, ts, to, told, tnew, td⟩)) .bad
  | _ => .bad
theorem opO6_st (x : List Atom) (r : Nat × List Atom) (h : (opO6 x).get = some r) : (endF (ev sumsF4 60 29) (opIn 6) x).get = some r := by
  unfold opO6 at h
  split at h
  · rename_i sl w x2 x3 x4 hw hs hq hp T S K G Q l c tk ts to told tnew td many ws
    obtain ⟨hg, h2⟩ := get_br h
    obtain ⟨rfl, rfl, rfl⟩ := of_decide_eq_true hg
    exact cut_get (ct_op6 sl w hw hs hq hp T S K G Q l c ⟨ws, many, tk, ts, to, told, tnew, td⟩) h2
  · cases h
def pt_op7 (sl w q : Int) (T S K G Q : Int) (l c : Nat) (s : MS) : PT (Nat × List Atom) := .cs 1 (.b (rowB T S K G Q l s) (.leaf (8, ([.i (sl), .i (w), .i (q), .i 0, .i 0, .i 0] ++ mA T S K G Q l c (mstore T S K s 5 sl q)))) .bad)
theorem ct_op7 (sl w q : Int) (T S K G Q : Int) (l c : Nat) (s : MS) : cutP (pt_op7 sl w q T S K G Q l c s) (endF (ev sumsF4 60 29) (opIn 7) [.i sl, .i w, .i q, .i 0, .i 0, .i 0, .i T, .i S, .i K, .i G, .i Q, .n l, .n c, .i s.tk, .i s.ts, .i s.to, .i s.told, .i s.tnew, .b s.td, .i s.many, .ws s.ws]) = den (pt_op7 sl w q T S K G Q l c s) := by kernel_rfl
def opO7 : List Atom → Tree (Nat × List Atom)
  | .i sl :: .i w :: .i q :: .i x3 :: .i x4 :: .i x5 :: .i T :: .i S :: .i K :: .i G :: .i Q :: .n l :: .n c :: .i tk :: .i ts :: .i to :: .i told :: .i tnew :: .b td :: .i many :: .ws ws :: [] => .br (decide (0 = x3 ∧ 0 = x4 ∧ 0 = x5)) (den (pt_op7 sl w q T S K G Q l c ⟨ws, many, tk, ts, to, told, tnew, td⟩)) .bad
  | _ => .bad
theorem opO7_st (x : List Atom) (r : Nat × List Atom) (h : (opO7 x).get = some r) : (endF (ev sumsF4 60 29) (opIn 7) x).get = some r := by
  unfold opO7 at h
  split at h
  · rename_i sl w q x3 x4 x5 T S K G Q l c tk ts to told tnew td many ws
    obtain ⟨hg, h2⟩ := get_br h
    obtain ⟨rfl, rfl, rfl⟩ := of_decide_eq_true hg
    exact cut_get (ct_op7 sl w q T S K G Q l c ⟨ws, many, tk, ts, to, told, tnew, td⟩) h2
  · cases h
def pt_op8 (sl w q : Int) (T S K G Q : Int) (l c : Nat) (s : MS) : PT (Nat × List Atom) := .cs 1 (.b (isW w) (.b (rowB T S K G Q l s) (.b (isW w) (.b (decide (0 ≤ sl ∧ sl ≤ 11 ∧ 0 ≤ gnI w ∧ gnI w ≤ 1073741823)) (.leaf (9, ([.i 0, .i (mkI sl (gnI w)), .i (q)] ++ mA T S K G Q l c (mstore T S K s 4 sl (moveI w 2 false))))) .bad) .bad) .bad) .bad)
theorem ct_op8 (sl w q : Int) (T S K G Q : Int) (l c : Nat) (s : MS) : cutP (pt_op8 sl w q T S K G Q l c s) (endF (ev sumsF4 60 29) (opIn 8) [.i sl, .i w, .i q, .i 0, .i 0, .i 0, .i T, .i S, .i K, .i G, .i Q, .n l, .n c, .i s.tk, .i s.ts, .i s.to, .i s.told, .i s.tnew, .b s.td, .i s.many, .ws s.ws]) = den (pt_op8 sl w q T S K G Q l c s) := by kernel_rfl
def opO8 : List Atom → Tree (Nat × List Atom)
  | .i sl :: .i w :: .i q :: .i x3 :: .i x4 :: .i x5 :: .i T :: .i S :: .i K :: .i G :: .i Q :: .n l :: .n c :: .i tk :: .i ts :: .i to :: .i told :: .i tnew :: .b td :: .i many :: .ws ws :: [] => .br (decide (0 = x3 ∧ 0 = x4 ∧ 0 = x5)) (den (pt_op8 sl w q T S K G Q l c ⟨ws, many, tk, ts, to, told, tnew, td⟩)) .bad
  | _ => .bad
theorem opO8_st (x : List Atom) (r : Nat × List Atom) (h : (opO8 x).get = some r) : (endF (ev sumsF4 60 29) (opIn 8) x).get = some r := by
  unfold opO8 at h
  split at h
  · rename_i sl w q x3 x4 x5 T S K G Q l c tk ts to told tnew td many ws
    obtain ⟨hg, h2⟩ := get_br h
    obtain ⟨rfl, rfl, rfl⟩ := of_decide_eq_true hg
    exact cut_get (ct_op8 sl w q T S K G Q l c ⟨ws, many, tk, ts, to, told, tnew, td⟩) h2
  · cases h
def pt_op9 (ae ah an : Int) (T S K G Q : Int) (l c : Nat) (s : MS) : PT (Nat × List Atom) := .cs 1 (.leaf (9, ([.i (ae), .i (ah), .i (an)] ++ mA T S K G Q l c (s))))
theorem ct_op9 (ae ah an : Int) (T S K G Q : Int) (l c : Nat) (s : MS) : cutP (pt_op9 ae ah an T S K G Q l c s) (endF (ev sumsF4 60 29) (opIn 9) [.i ae, .i ah, .i an, .i T, .i S, .i K, .i G, .i Q, .n l, .n c, .i s.tk, .i s.ts, .i s.to, .i s.told, .i s.tnew, .b s.td, .i s.many, .ws s.ws]) = den (pt_op9 ae ah an T S K G Q l c s) := by kernel_rfl
def opO9 : List Atom → Tree (Nat × List Atom)
  | .i ae :: .i ah :: .i an :: .i T :: .i S :: .i K :: .i G :: .i Q :: .n l :: .n c :: .i tk :: .i ts :: .i to :: .i told :: .i tnew :: .b td :: .i many :: .ws ws :: [] => den (pt_op9 ae ah an T S K G Q l c ⟨ws, many, tk, ts, to, told, tnew, td⟩)
  | _ => .bad
theorem opO9_st (x : List Atom) (r : Nat × List Atom) (h : (opO9 x).get = some r) : (endF (ev sumsF4 60 29) (opIn 9) x).get = some r := by
  unfold opO9 at h
  split at h
  · rename_i ae ah an T S K G Q l c tk ts to told tnew td many ws
    exact cut_get (ct_op9 ae ah an T S K G Q l c ⟨ws, many, tk, ts, to, told, tnew, td⟩) h
  · cases h
def opOs : List (List Atom → Tree (Nat × List Atom)) := [opO0, opO1, opO2, opO3, opO4, opO5, opO6, opO7, opO8, opO9]
noncomputable def opL : List (FForm × (List Atom → Tree (Nat × List Atom))) := [(opIn 0, opO0), (opIn 1, opO1), (opIn 2, opO2), (opIn 3, opO3), (opIn 4, opO4), (opIn 5, opO5), (opIn 6, opO6), (opIn 7, opO7), (opIn 8, opO8), (opIn 9, opO9)]
noncomputable def with_op (sums : Sums) : Sums := withT sums 29 opL
theorem with_op_ok {sums : Sums} (h : SumsOk sums) : SumsOk (with_op sums) := withT_ok h sumsF4_ok 60 (by kernel_rfl) fun a ha => by
  simp only [opL, List.mem_cons, List.not_mem_nil, or_false] at ha
  rcases ha with rfl | rfl | rfl | rfl | rfl | rfl | rfl | rfl | rfl | rfl
  · exact opO0_st
  · exact opO1_st
  · exact opO2_st
  · exact opO3_st
  · exact opO4_st
  · exact opO5_st
  · exact opO6_st
  · exact opO7_st
  · exact opO8_st
  · exact opO9_st
end Go.Proofs.YtfmhlldfpohokaaGreat.Bound
end

section
namespace Go.Proofs.YtfmhlldfpohokaaGreat.Bound
open Go.Proofs.YtfmhlldfpohokaaGreat.Ev Go.Proofs.YtfmhlldfpohokaaGreat.ChartMath
set_option linter.unusedVariables false
set_option linter.unusedSimpArgs false
/-- Whether a side has any. -/
def anyI (w sd : Int) : Bool := decide (0 < w / pw (12 * sd) % 4096) || bitI w (24 + sd)
theorem bit_nat {w n : Int} (h : 0 ≤ w) : bitI w n = w.toNat.testBit n.toNat := by
  rw [Nat.testBit_eq_decide_div_mod_eq]
  unfold bitI pw
  have e : w = ((w.toNat : Nat) : Int) := by omega
  rw [Bool.eq_iff_iff, beq_iff_eq, decide_eq_true_eq]
  conv => lhs; rw [e]
  rw [← Int.natCast_ediv]
  constructor
  · intro h2; omega
  · intro h2; omega
theorem put_bit {w n m : Int} (b : Bool) (h : 0 ≤ w) (hn : 0 ≤ n) (hm : 0 ≤ m) (h1 : w < 18446744073709551616) (h2 : n ≤ 40) : bitI (putI w n b) m = if m = n then b else bitI w m := by
  have hp := put_word b h h1 hn h2
  rw [bit_nat hp.1, bit_nat h]
  have t : ∀ j : Nat, (2 ^ n.toNat).testBit j = decide (n.toNat = j) := fun j => Nat.testBit_two_pow
  cases b with
  | false =>
    rw [← clr_pow h, Int.toNat_natCast, clr_bit, t]
    by_cases e : m = n
    · subst e; simp
    · rw [if_neg e, decide_eq_false (by omega)]; simp
  | true =>
    rw [← or_pow h, Int.toNat_natCast, Nat.testBit_or, t]
    by_cases e : m = n
    · subst e; simp
    · rw [if_neg e, decide_eq_false (by omega)]; simp
theorem any_iff {w sd : Int} (h : 0 ≤ w) (h0 : 0 ≤ sd) : anyI w sd = true ↔ (∃ j : Int, 0 ≤ j ∧ j < 12 ∧ bitI w (12 * sd + j) = true) ∨ bitI w (24 + sd) = true := by
  unfold anyI
  rw [Bool.or_eq_true, decide_eq_true_eq]
  refine or_congr ?_ Iff.rfl
  have e : w / pw (12 * sd) % 4096 = ((w.toNat / 2 ^ (12 * sd).toNat % 2 ^ 12 : Nat) : Int) := by
    unfold pw
    conv => lhs; rw [show w = ((w.toNat : Nat) : Int) by omega]
    rw [← Int.natCast_ediv]
    omega
  rw [e]
  have tb : ∀ j : Nat, (w.toNat / 2 ^ (12 * sd).toNat % 2 ^ 12).testBit j = (decide (j < 12) && w.toNat.testBit ((12 * sd).toNat + j)) := fun j => by
    rw [Nat.testBit_mod_two_pow, Nat.testBit_div_two_pow, Nat.add_comm]
  constructor
  · intro hx
    obtain ⟨j, hj⟩ := Nat.exists_testBit_of_ne_zero (x := w.toNat / 2 ^ (12 * sd).toNat % 2 ^ 12) (by omega)
    rw [tb, Bool.and_eq_true, decide_eq_true_eq] at hj
    refine ⟨j, by omega, by omega, ?_⟩
    rw [bit_nat h, show (12 * sd + (j : Int)).toNat = (12 * sd).toNat + j by omega]
    exact hj.2
  · rintro ⟨j, j0, j1, hj⟩
    rw [bit_nat h, show (12 * sd + j).toNat = (12 * sd).toNat + j.toNat by omega] at hj
    have hb : (w.toNat / 2 ^ (12 * sd).toNat % 2 ^ 12).testBit j.toNat = true := by rw [tb, hj, decide_eq_true (by omega)]; rfl
    have hne : w.toNat / 2 ^ (12 * sd).toNat % 2 ^ 12 ≠ 0 := by
      intro hz
      rw [hz, Nat.zero_testBit] at hb
      cases hb
    omega
/-- One that is committed is remembered by the side's past. -/
theorem any_drop {w sl sd : Int} (h : 0 ≤ w ∧ w < 18446744073709551616) (hs : 0 ≤ sl ∧ sl ≤ 11) (hd : sd = 0 ∨ sd = 1) : anyI (dropW w sl true) sd = anyI w sd := by
  have hw := dropW_word true h hs
  have w0 : 0 ≤ sideD w w 0 sl true ∧ sideD w w 0 sl true < 18446744073709551616 := sideD_word (w := w) (out := w) (sd := 0) (sl := sl) (g := true) h.1 h.2 (by simp only [sideOk, decide_eq_true_eq]; omega)
  have b0 : ∀ m : Int, 0 ≤ m → bitI (sideD w w 0 sl true) m = if bitI w sl = true then (if m = 24 then true else if m = sl then false else bitI w m) else bitI w m := by
    intro m hm
    unfold sideD
    rw [show 12 * (0 : Int) + sl = sl by omega, show (24 : Int) + 0 = 24 by omega]
    cases hb : bitI w sl with
    | false => simp
    | true =>
      have p0 := put_word (n := sl) false h.1 h.2 (by omega) (by omega)
      simp only [cond_true, if_true]
      rw [put_bit true p0.1 (by omega) hm p0.2 (by omega), put_bit false h.1 (by omega) hm h.2 (by omega)]
  have b1 : ∀ m : Int, 0 ≤ m → bitI (dropW w sl true) m = if bitI w (12 + sl) = true then (if m = 25 then true else if m = 12 + sl then false else bitI (sideD w w 0 sl true) m) else bitI (sideD w w 0 sl true) m := by
    intro m hm
    show bitI (sideD w (sideD w w 0 sl true) 1 sl true) m = _
    clear b0
    generalize sideD w w 0 sl true = o at w0 ⊢
    unfold sideD
    rw [show 12 * (1 : Int) + sl = 12 + sl by omega, show (24 : Int) + 1 = 25 by omega]
    cases hb : bitI w (12 + sl) with
    | false => simp
    | true =>
      have p0 := put_word (n := 12 + sl) false w0.1 w0.2 (by omega) (by omega)
      simp only [cond_true, if_true]
      rw [put_bit true p0.1 (by omega) hm p0.2 (by omega), put_bit false w0.1 (by omega) hm w0.2 (by omega)]
  rw [Bool.eq_iff_iff, any_iff hw.1 (by omega), any_iff h.1 (by omega)]
  rcases hd with rfl | rfl
  · by_cases hb : bitI w sl = true
    · refine ⟨fun _ => .inl ⟨sl, by omega, by omega, by simpa using hb⟩, fun _ => .inr ?_⟩
      rw [b1 _ (by omega), b0 _ (by omega), if_pos hb, if_pos (show (24 : Int) + 0 = 24 by omega)]
      split
      · rw [if_neg (by omega), if_neg (by omega)]
      · rfl
    · have e : ∀ m : Int, 0 ≤ m → m < 12 ∨ m = 24 → bitI (dropW w sl true) m = bitI w m := fun m h0 h1 => by
        rw [b1 m h0, b0 m h0, if_neg hb]
        split
        · rw [if_neg (by omega), if_neg (by omega)]
        · rfl
      refine or_congr ⟨fun ⟨j, j0, j1, hj⟩ => ⟨j, j0, j1, by rw [← e _ (by omega) (by omega)]; exact hj⟩, fun ⟨j, j0, j1, hj⟩ => ⟨j, j0, j1, by rw [e _ (by omega) (by omega)]; exact hj⟩⟩ ?_
      rw [e _ (by omega) (by omega)]
  · by_cases hb : bitI w (12 + sl) = true
    · refine ⟨fun _ => .inl ⟨sl, by omega, by omega, hb⟩, fun _ => .inr ?_⟩
      rw [b1 _ (by omega), if_pos hb]
      simp
    · have e : ∀ m : Int, 12 ≤ m → m < 24 ∨ m = 25 → bitI (dropW w sl true) m = bitI w m := fun m h0 h1 => by
        rw [b1 m (by omega), if_neg hb, b0 m (by omega)]
        split
        · rw [if_neg (by omega), if_neg (by omega)]
        · rfl
      refine or_congr ⟨fun ⟨j, j0, j1, hj⟩ => ⟨j, j0, j1, by rw [← e _ (by omega) (by omega)]; exact hj⟩, fun ⟨j, j0, j1, hj⟩ => ⟨j, j0, j1, by rw [e _ (by omega) (by omega)]; exact hj⟩⟩ ?_
      rw [e _ (by omega) (by omega)]
section
variable {p : Pm} (hp : p.Ok)
include hp
theorem drop_other {ws : List Int} (h : p.good ws) {k : Int} (h0 : 0 ≤ k) (h1 : k < p.S) (hk : k ≠ p.sl) : p.at (dropW2 p ws) 4 k = dropW (p.at ws 4 k) p.sl (p.at ws 6 p.sl != 0) := by
  have hc := h.cfg
  have hcell := cell_st (T := p.T) (K := p.K) (k := 4) (by omega) (by omega) h0 h1
  have hs0 := hp.s0
  have hlen := h.cell 4 k
  have c0 : 0 ≤ cellOf p.T p.S p.K 4 k := by omega
  have kg : (keysF p p.K.toNat 0 ws)[(cellOf p.T p.S p.K 4 k).toNat]? = ws[(cellOf p.T p.S p.K 4 k).toNat]? := by
    rw [keysF_get p (by omega) (by omega) _ _ _ _ (by omega) (by omega), if_neg (by omega)]
  unfold Pm.at lat
  rw [if_pos c0, if_pos c0, List.getD_eq_getElem?_getD, List.getD_eq_getElem?_getD (l := ws) (i := (cellOf p.T p.S p.K 4 k).toNat)]
  unfold dropW2
  rw [othersF_get p _ hc.1 _ _ _ _ (by omega) (by omega), keysF_len, if_pos (by omega), List.getD_eq_getElem?_getD, kg]
  rfl
/-- One that was let go of, and had not been clear: other slots' words. -/
theorem swept_other {ws : List Int} (h : p.good ws) (e0 : (sweptI p ws).1 = 0) (h7 : stI (p.at ws 4 p.sl) ≠ 7) {k : Int} (k0 : 0 ≤ k) (k1 : k < p.S) (hk : k ≠ p.sl) : p.at (sweptI p ws).2 4 k = dropW (p.at ws 4 k) p.sl (p.at ws 6 p.sl != 0) := by
  have n4 := ne_slot hp (j := 4) (by omega) k0 k1 (.inr hk)
  have n6 := ne_slot hp (j := 6) (by omega) hp.s0 hp.s1 (.inl (by omega))
  have c4 := cell_st (T := p.T) (K := p.K) (k := 4) (by omega) (by omega) k0 k1
  have c6 := c_num hp
  have c7 := c_ret hp
  have hs0 := hp.s0
  have hc := h.cfg
  have ce : cellOf p.T p.S p.K 2 0 = 1 := cell_ep
  have re : ∀ {vs : List Int}, p.good vs → ∀ st, p.at (retireW p vs st) 4 k = p.at vs 4 k ∧ p.at (retireW p vs st) 6 p.sl = p.at vs 6 p.sl := by
    intro vs hv st
    unfold retireW noteW
    exact ⟨by rw [at_ne (by omega), at_ne (by omega), at_off hp hv n4], by rw [at_ne (by omega), at_ne (by omega), at_off hp hv n6]⟩
  have fin : ∀ {vs : List Int}, p.good vs → p.at (finalW p vs) 4 k = p.at vs 4 k := by
    intro vs hv
    unfold finalW
    rw [at_off hp (hv.lset (by omega) _ _) n4, at_ne (by omega)]
  have eB : ∀ {vs : List Int} (r : Int), p.good vs → (endB p vs r).1 = 0 → p.at (endB p vs r).2 4 k = dropW (p.at vs 4 k) p.sl (p.at vs 6 p.sl != 0) := by
    intro vs r hv he
    have hd := drop_good hp hv
    unfold endB at he ⊢
    by_cases e : heldI p vs r = true
    · rw [if_pos e] at he; cases he
    · rw [if_neg e] at he ⊢
      rcases endT_cases hp (retireW p (dropW2 p vs) 7) (p.at (dropW2 p vs) 2 0) with ⟨e2, _⟩ | e2
      · rw [e2] at he; cases he
      · rw [e2, fin (retire_good hp hd 7), (re hd 7).1, drop_other hp hv k0 k1 hk]
  unfold sweptI at e0 ⊢
  by_cases q1 : gnI (p.at ws 4 p.sl) ≠ p.gn ∨ stI (p.at ws 4 p.sl) = 0 ∨ stI (p.at ws 4 p.sl) = 1
  · rw [if_pos q1] at e0; cases e0
  rw [if_neg q1] at e0 ⊢
  by_cases q2 : bitI (p.at ws 4 p.sl) 26 = true
  · rw [if_pos q2] at e0; cases e0
  rw [if_neg q2] at e0 ⊢
  by_cases q3 : stI (p.at ws 4 p.sl) = 2 ∨ stI (p.at ws 4 p.sl) = 3
  · rw [if_pos q3] at e0; cases e0
  rw [if_neg q3] at e0 ⊢
  by_cases q4 : stI (p.at ws 4 p.sl) = 4 ∧ laterF p ws p.sl (p.at ws 6 p.sl) p.S.toNat 0 = true
  · rw [if_pos q4] at e0; cases e0
  rw [if_neg q4, if_neg h7] at e0 ⊢
  by_cases q6 : stI (p.at ws 4 p.sl) = 6
  · rw [if_pos q6] at e0 ⊢
    exact eB _ h e0
  · rw [if_neg q6] at e0 ⊢
    rw [eB _ (retire_good hp h 6) e0, (re h 6).1, (re h 6).2]
end
end Go.Proofs.YtfmhlldfpohokaaGreat.Bound
end

section
namespace Go.Proofs.YtfmhlldfpohokaaGreat.Bound
open Go.Proofs.YtfmhlldfpohokaaGreat.Ev Go.Proofs.YtfmhlldfpohokaaGreat.ChartMath
set_option linter.unusedVariables false
set_option linter.unusedSimpArgs false
def pt_mh (w sl j : Int) (n : Nat) : PT Value := .cs n (.b (decide (sl < 0)) .bad (.cs 1 (.b (decide (sl ≥ 12)) .bad (.b (decide (sl < 0)) .bad (.cs 1 (.leaf (.bool (decide (IntKind.u64.wrap (↑(BitVec.ofInt IntKind.u64.bits w &&& BitVec.ofInt IntKind.u64.bits (IntKind.u64.wrap (IntKind.u64.wrap ((1 : Int) * (2 : Int) ^ min sl.toNat IntKind.u64.bits) * (2 : Int) ^ min (IntKind.i64.wrap (j * (12 : Int))).toNat IntKind.u64.bits))).toNat : Int) > (0 : Int))))))))))
theorem ct_mh0 (w sl : Int) : cutP (pt_mh w sl 0 5) (valT (ev sumsF4 60 24 [.int .u64 w, .int .i64 0, .int .i64 sl] ⟨.nil, 0⟩)) = den (pt_mh w sl 0 5) := by kernel_rfl
theorem ct_mh1 (w sl : Int) : cutP (pt_mh w sl 1 4) (valT (ev sumsF4 60 24 [.int .u64 w, .int .i64 1, .int .i64 sl] ⟨.nil, 0⟩)) = den (pt_mh w sl 1 4) := by kernel_rfl
theorem gt_bit {w n : Int} (h0 : 0 ≤ w) (h1 : w < 18446744073709551616) (h2 : n ≤ 40) : decide (IntKind.u64.wrap (↑(BitVec.ofInt IntKind.u64.bits w &&& BitVec.ofInt IntKind.u64.bits (pw n)).toNat : Int) > 0) = bitI w n := by
  have e := and_bit h0 h1 h2
  have r := u64_range (↑(BitVec.ofInt IntKind.u64.bits w &&& BitVec.ofInt IntKind.u64.bits (pw n)).toNat : Int)
  rw [← e, Bool.eq_iff_iff, decide_eq_true_eq, bne_iff_ne]
  omega
theorem mh_is {w sl kd : Int} (h0 : 0 ≤ w) (h1 : w < 18446744073709551616) (s0 : 0 ≤ sl) (s1 : sl ≤ 11) (hk : kd = 0 ∨ kd = 1) : outV (ev sumsF4 60 24 [.int .u64 w, .int .i64 kd, .int .i64 sl] ⟨.nil, 0⟩) = some (.bool (bitI w (12 * kd + sl))) := by
  have n0 : ¬ sl < 0 := by omega
  have n1 : ¬ sl ≥ 12 := by omega
  rcases hk with rfl | rfl
  · refine valT_out (cut_get (ct_mh0 w sl) ?_)
    simp only [pt_mh, den, Tree.get_br, Tree.get_leaf, decide_eq_false n0, decide_eq_false n1, Bool.false_eq_true, if_false]
    rw [bit_a s0 s1, show (((2 ^ sl.toNat : Nat) : Int)) = pw sl from rfl, gt_bit h0 h1 (by omega), show 12 * (0 : Int) + sl = sl by omega]
  · refine valT_out (cut_get (ct_mh1 w sl) ?_)
    simp only [pt_mh, den, Tree.get_br, Tree.get_leaf, decide_eq_false n0, decide_eq_false n1, Bool.false_eq_true, if_false]
    rw [bit_b s0 s1, show (((2 ^ (12 + sl).toNat : Nat) : Int)) = pw (12 + sl) from rfl, gt_bit h0 h1 (by omega), show 12 * (1 : Int) + sl = 12 + sl by omega]
def mhS : List Value → Option (Bool × Value)
  | [.int .u64 w, .int .i64 kd, .int .i64 sl] => some (isW w && decide (0 ≤ kd ∧ kd ≤ 1 ∧ 0 ≤ sl ∧ sl ≤ 11), .bool (bitI w (12 * kd + sl)))
  | _ => none
theorem mhS_ok {sums : Sums} (hs : SumsOk sums) : SumsOk (withIf sums 24 mhS) := withIf_ok hs sumsF4_ok 60 (by kernel_rfl) fun al v h => by
  unfold mhS at h
  split at h
  · simp only [Option.some.injEq, Prod.mk.injEq, Bool.and_eq_true, decide_eq_true_eq, isW_iff] at h
    obtain ⟨⟨⟨h0, h1⟩, h2, h3, h4, h5⟩, rfl⟩ := h
    exact ⟨rfl, rfl, mh_is h0 h1 h4 h5 (by omega)⟩
  · cases h
noncomputable def sumsN0 : Sums := withPure (with_op (withEnds (withAt (withIf sumsF4 24 mhS)))) 8 aliveS
theorem sumsN0_ok : SumsOk sumsN0 := aliveS_ok (with_op_ok (withEnds_ok (withAt_ok (mhS_ok sumsF4_ok))))
/-! An Open that goes on, a hundred steps. -/
def knB2 : List (Nat × TypeId × CPat) := [(0, winT, .ints .u64), (1, winT, .recs pokeR), (2, 24, cfB1), (3, 28, .part [true, true, true, false] [i6, u6, i6, .nilIface])]
def OM : MForm := ⟨(upTo 10 []).map fun k => ([3, 5, 7, 11, 12, 17, 140], ⟨[(3, .ptr 2 0 none), (5, .ptr 3 0 none), (7, .ptr 4 0 none), (11, i6), (12, i6), (17, .ptr 6 0 none), (140, i6)], 190, knB2 ++ opC k 6 7 :: opSub k 7 ++ [(4, 116, memK 5), (5, 22, .ints .u64)], 7 + (opSub k 0).length, []⟩), [(2, [([3, 5, 11, 12, 17], ⟨[(3, .ptr 2 0 none), (5, .ptr 3 0 none), (11, i6), (12, i6), (17, .ptr 4 0 none)], 190, knB2 ++ [opC 9 4 5], 5, []⟩)])], []⟩
def omB (sl gn i : Int) (ws : List Int) (rs : List (List Int)) (cT cS cK cG cQ pt ph st : Int) (x : List Atom) : List Atom := .i sl :: .i gn :: .i i :: .ws ws :: .rs rs :: .i cT :: .i cS :: .i cK :: .i cG :: .i cQ :: .i pt :: .i ph :: .i st :: x
def omA (k : Nat) (sl gn i : Int) (ws : List Int) (rs : List (List Int)) (cT cS cK cG cQ pt ph st : Int) (x : List Atom) : List Atom := .n k :: omB sl gn i ws rs cT cS cK cG cQ pt ph st x
noncomputable def rdO (x : List Atom) : Tree (Ex × List Atom) := roundM sumsN0 60 5 22 2 OM x
end Go.Proofs.YtfmhlldfpohokaaGreat.Bound
end

section
namespace Go.Proofs.YtfmhlldfpohokaaGreat.Bound
open Go.Proofs.YtfmhlldfpohokaaGreat.Ev Go.Proofs.YtfmhlldfpohokaaGreat.ChartMath
set_option linter.unusedVariables false
set_option linter.unusedSimpArgs false
def stepO (st : Nat × List Atom) : Option (Nat × List Atom) := (nthD (fun _ => .bad) opOs st.1 st.2).get
def iterO : Nat → Nat × List Atom → Option (Nat × List Atom)
  | 0, st => some st
  | f + 1, st => match stepO st with
    | some r => iterO f r
    | none => none
def omE (sl gn : Int) (ws : List Int) (rs : List (List Int)) (cT cS cK cG cQ pt ph st ae ah an : Int) : Ex × List Atom := (.exit 2, [.n 0, .i sl, .i gn, .ws ws, .rs rs, .i cT, .i cS, .i cK, .i cG, .i cQ, .i pt, .i ph, .i st, .i ae, .i ah, .i an])
theorem ro_0 (sl gn i : Int) (ws : List Int) (rs : List (List Int)) (cT cS cK cG cQ pt ph st : Int) (sl_ a0 a1 a2 a3 : Int) (T S K G Q : Int) (l c : Nat) (tk ts to told tnew : Int) (td : Bool) (many : Int) (vs : List Int) : (rdO (omA 0 sl gn i ws rs cT cS cK cG cQ pt ph st (.i sl_ :: .i a0 :: .i a1 :: .i a2 :: .i a3 :: .i T :: .i S :: .i K :: .i G :: .i Q :: .n l :: .n c :: .i tk :: .i ts :: .i to :: .i told :: .i tnew :: .b td :: .i many :: .ws vs :: []))).get = (Tree.br (decide (i < 100)) ((opO0 (.i sl_ :: .i a0 :: .i a1 :: .i a2 :: .i a3 :: .i T :: .i S :: .i K :: .i G :: .i Q :: .n l :: .n c :: .i tk :: .i ts :: .i to :: .i told :: .i tnew :: .b td :: .i many :: .ws vs :: [])).bind fun r => .leaf (.normal, omA r.1 sl gn (IntKind.i64.wrap (i + 1)) ws rs cT cS cK cG cQ pt ph st r.2)) (.bad)).get := by kernel_rfl
theorem so_op0 (sl gn i : Int) (ws : List Int) (rs : List (List Int)) (cT cS cK cG cQ pt ph st : Int) (x : List Atom) (r : Nat × List Atom) (h : (opO0 x).get = some r) (hi : i < 100) : (rdO (omA 0 sl gn i ws rs cT cS cK cG cQ pt ph st x)).get = some (.normal, omA r.1 sl gn (IntKind.i64.wrap (i + 1)) ws rs cT cS cK cG cQ pt ph st r.2) := by
  have h' := h
  unfold opO0 at h
  split at h
  · rw [ro_0, Tree.get_br, if_pos (decide_eq_true hi), Tree.get_bind, h']; rfl
  · cases h
theorem ro_1 (sl gn i : Int) (ws : List Int) (rs : List (List Int)) (cT cS cK cG cQ pt ph st : Int) (sl_ w a0 a1 a2 a3 : Int) (T S K G Q : Int) (l c : Nat) (tk ts to told tnew : Int) (td : Bool) (many : Int) (vs : List Int) : (rdO (omA 1 sl gn i ws rs cT cS cK cG cQ pt ph st (.i sl_ :: .i w :: .i a0 :: .i a1 :: .i a2 :: .i a3 :: .i T :: .i S :: .i K :: .i G :: .i Q :: .n l :: .n c :: .i tk :: .i ts :: .i to :: .i told :: .i tnew :: .b td :: .i many :: .ws vs :: []))).get = (Tree.br (decide (i < 100)) ((opO1 (.i sl_ :: .i w :: .i a0 :: .i a1 :: .i a2 :: .i a3 :: .i T :: .i S :: .i K :: .i G :: .i Q :: .n l :: .n c :: .i tk :: .i ts :: .i to :: .i told :: .i tnew :: .b td :: .i many :: .ws vs :: [])).bind fun r => .leaf (.normal, omA r.1 sl gn (IntKind.i64.wrap (i + 1)) ws rs cT cS cK cG cQ pt ph st r.2)) (.bad)).get := by kernel_rfl
theorem so_op1 (sl gn i : Int) (ws : List Int) (rs : List (List Int)) (cT cS cK cG cQ pt ph st : Int) (x : List Atom) (r : Nat × List Atom) (h : (opO1 x).get = some r) (hi : i < 100) : (rdO (omA 1 sl gn i ws rs cT cS cK cG cQ pt ph st x)).get = some (.normal, omA r.1 sl gn (IntKind.i64.wrap (i + 1)) ws rs cT cS cK cG cQ pt ph st r.2) := by
  have h' := h
  unfold opO1 at h
  split at h
  · rw [ro_1, Tree.get_br, if_pos (decide_eq_true hi), Tree.get_bind, h']; rfl
  · cases h
theorem ro_2 (sl gn i : Int) (ws : List Int) (rs : List (List Int)) (cT cS cK cG cQ pt ph st : Int) (sl_ w a0 a1 a2 : Int) (T S K G Q : Int) (l c : Nat) (tk ts to told tnew : Int) (td : Bool) (many : Int) (vs : List Int) : (rdO (omA 2 sl gn i ws rs cT cS cK cG cQ pt ph st (.i sl_ :: .i w :: .i a0 :: .i a1 :: .i a2 :: .i T :: .i S :: .i K :: .i G :: .i Q :: .n l :: .n c :: .i tk :: .i ts :: .i to :: .i told :: .i tnew :: .b td :: .i many :: .ws vs :: []))).get = (Tree.br (decide (i < 100)) ((opO2 (.i sl_ :: .i w :: .i a0 :: .i a1 :: .i a2 :: .i T :: .i S :: .i K :: .i G :: .i Q :: .n l :: .n c :: .i tk :: .i ts :: .i to :: .i told :: .i tnew :: .b td :: .i many :: .ws vs :: [])).bind fun r => .leaf (.normal, omA r.1 sl gn (IntKind.i64.wrap (i + 1)) ws rs cT cS cK cG cQ pt ph st r.2)) (.bad)).get := by kernel_rfl
theorem so_op2 (sl gn i : Int) (ws : List Int) (rs : List (List Int)) (cT cS cK cG cQ pt ph st : Int) (x : List Atom) (r : Nat × List Atom) (h : (opO2 x).get = some r) (hi : i < 100) : (rdO (omA 2 sl gn i ws rs cT cS cK cG cQ pt ph st x)).get = some (.normal, omA r.1 sl gn (IntKind.i64.wrap (i + 1)) ws rs cT cS cK cG cQ pt ph st r.2) := by
  have h' := h
  unfold opO2 at h
  split at h
  · rw [ro_2, Tree.get_br, if_pos (decide_eq_true hi), Tree.get_bind, h']; rfl
  · cases h
theorem ro_3 (sl gn i : Int) (ws : List Int) (rs : List (List Int)) (cT cS cK cG cQ pt ph st : Int) (sl_ w a0 a1 a2 hw hs hq hp : Int) (T S K G Q : Int) (l c : Nat) (tk ts to told tnew : Int) (td : Bool) (many : Int) (vs : List Int) : (rdO (omA 3 sl gn i ws rs cT cS cK cG cQ pt ph st (.i sl_ :: .i w :: .i a0 :: .i a1 :: .i a2 :: .i hw :: .i hs :: .i hq :: .i hp :: .i T :: .i S :: .i K :: .i G :: .i Q :: .n l :: .n c :: .i tk :: .i ts :: .i to :: .i told :: .i tnew :: .b td :: .i many :: .ws vs :: []))).get = (Tree.br (decide (i < 100)) ((opO3 (.i sl_ :: .i w :: .i a0 :: .i a1 :: .i a2 :: .i hw :: .i hs :: .i hq :: .i hp :: .i T :: .i S :: .i K :: .i G :: .i Q :: .n l :: .n c :: .i tk :: .i ts :: .i to :: .i told :: .i tnew :: .b td :: .i many :: .ws vs :: [])).bind fun r => .leaf (.normal, omA r.1 sl gn (IntKind.i64.wrap (i + 1)) ws rs cT cS cK cG cQ pt ph st r.2)) (.bad)).get := by kernel_rfl
theorem so_op3 (sl gn i : Int) (ws : List Int) (rs : List (List Int)) (cT cS cK cG cQ pt ph st : Int) (x : List Atom) (r : Nat × List Atom) (h : (opO3 x).get = some r) (hi : i < 100) : (rdO (omA 3 sl gn i ws rs cT cS cK cG cQ pt ph st x)).get = some (.normal, omA r.1 sl gn (IntKind.i64.wrap (i + 1)) ws rs cT cS cK cG cQ pt ph st r.2) := by
  have h' := h
  unfold opO3 at h
  split at h
  · rw [ro_3, Tree.get_br, if_pos (decide_eq_true hi), Tree.get_bind, h']; rfl
  · cases h
theorem ro_4 (sl gn i : Int) (ws : List Int) (rs : List (List Int)) (cT cS cK cG cQ pt ph st : Int) (sl_ w a0 a1 a2 hw hs hq hp : Int) (T S K G Q : Int) (l c : Nat) (tk ts to told tnew : Int) (td : Bool) (many : Int) (vs : List Int) : (rdO (omA 4 sl gn i ws rs cT cS cK cG cQ pt ph st (.i sl_ :: .i w :: .i a0 :: .i a1 :: .i a2 :: .i hw :: .i hs :: .i hq :: .i hp :: .i T :: .i S :: .i K :: .i G :: .i Q :: .n l :: .n c :: .i tk :: .i ts :: .i to :: .i told :: .i tnew :: .b td :: .i many :: .ws vs :: []))).get = (Tree.br (decide (i < 100)) ((opO4 (.i sl_ :: .i w :: .i a0 :: .i a1 :: .i a2 :: .i hw :: .i hs :: .i hq :: .i hp :: .i T :: .i S :: .i K :: .i G :: .i Q :: .n l :: .n c :: .i tk :: .i ts :: .i to :: .i told :: .i tnew :: .b td :: .i many :: .ws vs :: [])).bind fun r => .leaf (.normal, omA r.1 sl gn (IntKind.i64.wrap (i + 1)) ws rs cT cS cK cG cQ pt ph st r.2)) (.bad)).get := by kernel_rfl
theorem so_op4 (sl gn i : Int) (ws : List Int) (rs : List (List Int)) (cT cS cK cG cQ pt ph st : Int) (x : List Atom) (r : Nat × List Atom) (h : (opO4 x).get = some r) (hi : i < 100) : (rdO (omA 4 sl gn i ws rs cT cS cK cG cQ pt ph st x)).get = some (.normal, omA r.1 sl gn (IntKind.i64.wrap (i + 1)) ws rs cT cS cK cG cQ pt ph st r.2) := by
  have h' := h
  unfold opO4 at h
  split at h
  · rw [ro_4, Tree.get_br, if_pos (decide_eq_true hi), Tree.get_bind, h']; rfl
  · cases h
theorem ro_5 (sl gn i : Int) (ws : List Int) (rs : List (List Int)) (cT cS cK cG cQ pt ph st : Int) (sl_ w a0 a1 a2 hw hs hq hp : Int) (T S K G Q : Int) (l c : Nat) (tk ts to told tnew : Int) (td : Bool) (many : Int) (vs : List Int) : (rdO (omA 5 sl gn i ws rs cT cS cK cG cQ pt ph st (.i sl_ :: .i w :: .i a0 :: .i a1 :: .i a2 :: .i hw :: .i hs :: .i hq :: .i hp :: .i T :: .i S :: .i K :: .i G :: .i Q :: .n l :: .n c :: .i tk :: .i ts :: .i to :: .i told :: .i tnew :: .b td :: .i many :: .ws vs :: []))).get = (Tree.br (decide (i < 100)) ((opO5 (.i sl_ :: .i w :: .i a0 :: .i a1 :: .i a2 :: .i hw :: .i hs :: .i hq :: .i hp :: .i T :: .i S :: .i K :: .i G :: .i Q :: .n l :: .n c :: .i tk :: .i ts :: .i to :: .i told :: .i tnew :: .b td :: .i many :: .ws vs :: [])).bind fun r => .leaf (.normal, omA r.1 sl gn (IntKind.i64.wrap (i + 1)) ws rs cT cS cK cG cQ pt ph st r.2)) (.bad)).get := by kernel_rfl
theorem so_op5 (sl gn i : Int) (ws : List Int) (rs : List (List Int)) (cT cS cK cG cQ pt ph st : Int) (x : List Atom) (r : Nat × List Atom) (h : (opO5 x).get = some r) (hi : i < 100) : (rdO (omA 5 sl gn i ws rs cT cS cK cG cQ pt ph st x)).get = some (.normal, omA r.1 sl gn (IntKind.i64.wrap (i + 1)) ws rs cT cS cK cG cQ pt ph st r.2) := by
  have h' := h
  unfold opO5 at h
  split at h
  · rw [ro_5, Tree.get_br, if_pos (decide_eq_true hi), Tree.get_bind, h']; rfl
  · cases h
theorem ro_6 (sl gn i : Int) (ws : List Int) (rs : List (List Int)) (cT cS cK cG cQ pt ph st : Int) (sl_ w a0 a1 a2 hw hs hq hp : Int) (T S K G Q : Int) (l c : Nat) (tk ts to told tnew : Int) (td : Bool) (many : Int) (vs : List Int) : (rdO (omA 6 sl gn i ws rs cT cS cK cG cQ pt ph st (.i sl_ :: .i w :: .i a0 :: .i a1 :: .i a2 :: .i hw :: .i hs :: .i hq :: .i hp :: .i T :: .i S :: .i K :: .i G :: .i Q :: .n l :: .n c :: .i tk :: .i ts :: .i to :: .i told :: .i tnew :: .b td :: .i many :: .ws vs :: []))).get = (Tree.br (decide (i < 100)) ((opO6 (.i sl_ :: .i w :: .i a0 :: .i a1 :: .i a2 :: .i hw :: .i hs :: .i hq :: .i hp :: .i T :: .i S :: .i K :: .i G :: .i Q :: .n l :: .n c :: .i tk :: .i ts :: .i to :: .i told :: .i tnew :: .b td :: .i many :: .ws vs :: [])).bind fun r => .leaf (.normal, omA r.1 sl gn (IntKind.i64.wrap (i + 1)) ws rs cT cS cK cG cQ pt ph st r.2)) (.bad)).get := by kernel_rfl
theorem so_op6 (sl gn i : Int) (ws : List Int) (rs : List (List Int)) (cT cS cK cG cQ pt ph st : Int) (x : List Atom) (r : Nat × List Atom) (h : (opO6 x).get = some r) (hi : i < 100) : (rdO (omA 6 sl gn i ws rs cT cS cK cG cQ pt ph st x)).get = some (.normal, omA r.1 sl gn (IntKind.i64.wrap (i + 1)) ws rs cT cS cK cG cQ pt ph st r.2) := by
  have h' := h
  unfold opO6 at h
  split at h
  · rw [ro_6, Tree.get_br, if_pos (decide_eq_true hi), Tree.get_bind, h']; rfl
  · cases h
theorem ro_7 (sl gn i : Int) (ws : List Int) (rs : List (List Int)) (cT cS cK cG cQ pt ph st : Int) (sl_ w q a0 a1 a2 : Int) (T S K G Q : Int) (l c : Nat) (tk ts to told tnew : Int) (td : Bool) (many : Int) (vs : List Int) : (rdO (omA 7 sl gn i ws rs cT cS cK cG cQ pt ph st (.i sl_ :: .i w :: .i q :: .i a0 :: .i a1 :: .i a2 :: .i T :: .i S :: .i K :: .i G :: .i Q :: .n l :: .n c :: .i tk :: .i ts :: .i to :: .i told :: .i tnew :: .b td :: .i many :: .ws vs :: []))).get = (Tree.br (decide (i < 100)) ((opO7 (.i sl_ :: .i w :: .i q :: .i a0 :: .i a1 :: .i a2 :: .i T :: .i S :: .i K :: .i G :: .i Q :: .n l :: .n c :: .i tk :: .i ts :: .i to :: .i told :: .i tnew :: .b td :: .i many :: .ws vs :: [])).bind fun r => .leaf (.normal, omA r.1 sl gn (IntKind.i64.wrap (i + 1)) ws rs cT cS cK cG cQ pt ph st r.2)) (.bad)).get := by kernel_rfl
theorem so_op7 (sl gn i : Int) (ws : List Int) (rs : List (List Int)) (cT cS cK cG cQ pt ph st : Int) (x : List Atom) (r : Nat × List Atom) (h : (opO7 x).get = some r) (hi : i < 100) : (rdO (omA 7 sl gn i ws rs cT cS cK cG cQ pt ph st x)).get = some (.normal, omA r.1 sl gn (IntKind.i64.wrap (i + 1)) ws rs cT cS cK cG cQ pt ph st r.2) := by
  have h' := h
  unfold opO7 at h
  split at h
  · rw [ro_7, Tree.get_br, if_pos (decide_eq_true hi), Tree.get_bind, h']; rfl
  · cases h
theorem ro_8 (sl gn i : Int) (ws : List Int) (rs : List (List Int)) (cT cS cK cG cQ pt ph st : Int) (sl_ w q a0 a1 a2 : Int) (T S K G Q : Int) (l c : Nat) (tk ts to told tnew : Int) (td : Bool) (many : Int) (vs : List Int) : (rdO (omA 8 sl gn i ws rs cT cS cK cG cQ pt ph st (.i sl_ :: .i w :: .i q :: .i a0 :: .i a1 :: .i a2 :: .i T :: .i S :: .i K :: .i G :: .i Q :: .n l :: .n c :: .i tk :: .i ts :: .i to :: .i told :: .i tnew :: .b td :: .i many :: .ws vs :: []))).get = (Tree.br (decide (i < 100)) ((opO8 (.i sl_ :: .i w :: .i q :: .i a0 :: .i a1 :: .i a2 :: .i T :: .i S :: .i K :: .i G :: .i Q :: .n l :: .n c :: .i tk :: .i ts :: .i to :: .i told :: .i tnew :: .b td :: .i many :: .ws vs :: [])).bind fun r => .leaf (.normal, omA r.1 sl gn (IntKind.i64.wrap (i + 1)) ws rs cT cS cK cG cQ pt ph st r.2)) (.bad)).get := by kernel_rfl
theorem so_op8 (sl gn i : Int) (ws : List Int) (rs : List (List Int)) (cT cS cK cG cQ pt ph st : Int) (x : List Atom) (r : Nat × List Atom) (h : (opO8 x).get = some r) (hi : i < 100) : (rdO (omA 8 sl gn i ws rs cT cS cK cG cQ pt ph st x)).get = some (.normal, omA r.1 sl gn (IntKind.i64.wrap (i + 1)) ws rs cT cS cK cG cQ pt ph st r.2) := by
  have h' := h
  unfold opO8 at h
  split at h
  · rw [ro_8, Tree.get_br, if_pos (decide_eq_true hi), Tree.get_bind, h']; rfl
  · cases h
theorem ro_9 (sl gn i : Int) (ws : List Int) (rs : List (List Int)) (cT cS cK cG cQ pt ph st : Int) (ae ah an : Int) (T S K G Q : Int) (l c : Nat) (tk ts to told tnew : Int) (td : Bool) (many : Int) (vs : List Int) : (rdO (omA 9 sl gn i ws rs cT cS cK cG cQ pt ph st (.i ae :: .i ah :: .i an :: .i T :: .i S :: .i K :: .i G :: .i Q :: .n l :: .n c :: .i tk :: .i ts :: .i to :: .i told :: .i tnew :: .b td :: .i many :: .ws vs :: []))).get = (Tree.br (decide (i < 100)) ((opO9 (.i ae :: .i ah :: .i an :: .i T :: .i S :: .i K :: .i G :: .i Q :: .n l :: .n c :: .i tk :: .i ts :: .i to :: .i told :: .i tnew :: .b td :: .i many :: .ws vs :: [])).bind fun r => .leaf (.normal, omA r.1 sl gn (IntKind.i64.wrap (i + 1)) ws rs cT cS cK cG cQ pt ph st r.2)) (.leaf (omE sl gn ws rs cT cS cK cG cQ pt ph st ae ah an))).get := by kernel_rfl
theorem so_op9 (sl gn i : Int) (ws : List Int) (rs : List (List Int)) (cT cS cK cG cQ pt ph st : Int) (x : List Atom) (r : Nat × List Atom) (h : (opO9 x).get = some r) (hi : i < 100) : (rdO (omA 9 sl gn i ws rs cT cS cK cG cQ pt ph st x)).get = some (.normal, omA r.1 sl gn (IntKind.i64.wrap (i + 1)) ws rs cT cS cK cG cQ pt ph st r.2) := by
  have h' := h
  unfold opO9 at h
  split at h
  · rw [ro_9, Tree.get_br, if_pos (decide_eq_true hi), Tree.get_bind, h']; rfl
  · cases h
theorem so_op (sl gn i : Int) (ws : List Int) (rs : List (List Int)) (cT cS cK cG cQ pt ph st : Int) {k : Nat} {x : List Atom} {r : Nat × List Atom} (h : stepO (k, x) = some r) (hi : i < 100) : (rdO (omA k sl gn i ws rs cT cS cK cG cQ pt ph st x)).get = some (.normal, omA r.1 sl gn (IntKind.i64.wrap (i + 1)) ws rs cT cS cK cG cQ pt ph st r.2) := by
  unfold stepO at h
  match k, h with
  | 0, h => exact so_op0 sl gn i ws rs cT cS cK cG cQ pt ph st x r h hi
  | 1, h => exact so_op1 sl gn i ws rs cT cS cK cG cQ pt ph st x r h hi
  | 2, h => exact so_op2 sl gn i ws rs cT cS cK cG cQ pt ph st x r h hi
  | 3, h => exact so_op3 sl gn i ws rs cT cS cK cG cQ pt ph st x r h hi
  | 4, h => exact so_op4 sl gn i ws rs cT cS cK cG cQ pt ph st x r h hi
  | 5, h => exact so_op5 sl gn i ws rs cT cS cK cG cQ pt ph st x r h hi
  | 6, h => exact so_op6 sl gn i ws rs cT cS cK cG cQ pt ph st x r h hi
  | 7, h => exact so_op7 sl gn i ws rs cT cS cK cG cQ pt ph st x r h hi
  | 8, h => exact so_op8 sl gn i ws rs cT cS cK cG cQ pt ph st x r h hi
  | 9, h => exact so_op9 sl gn i ws rs cT cS cK cG cQ pt ph st x r h hi
  | n + 10, h => simp [opOs, nthD] at h
def asO : Option (Nat × List Atom) → Option (Int × Int × Int)
  | some (9, [.i ae, .i ah, .i an, .i T, .i S, .i K, .i G, .i Q, .n l, .n c, .i tk, .i ts, .i to, .i told, .i tnew, .b td, .i many, .ws vs]) => some (ae, ah, an)
  | _ => none
noncomputable def runO (f k : Nat) (x : List Atom) : Option (Int × Int × Int) := (lockP (asO (iterO f (k, x)))).1
theorem runO_is (f k : Nat) (x : List Atom) : runO f k x = asO (iterO f (k, x)) := (lockP _).2
noncomputable def no_t : List Atom → Tree (Ex × List Atom)
  | .n k :: .i sl :: .i gn :: .i i :: .ws ws :: .rs rs :: .i cT :: .i cS :: .i cK :: .i cG :: .i cQ :: .i pt :: .i ph :: .i st :: x => .br (decide (0 ≤ i ∧ i ≤ 100)) (.br (runO (100 - i).toNat k x).isSome (.leaf (omE sl gn ws rs cT cS cK cG cQ pt ph st ((runO (100 - i).toNat k x).getD (0, 0, 0)).1 ((runO (100 - i).toNat k x).getD (0, 0, 0)).2.1 ((runO (100 - i).toNat k x).getD (0, 0, 0)).2.2)) .bad) .bad
  | _ => .bad
theorem no_iter (sl gn : Int) (ws : List Int) (rs : List (List Int)) (cT cS cK cG cQ pt ph st : Int) {z : Int × Int × Int} : ∀ (f k : Nat) (i : Int) (x : List Atom), (100 - i).toNat = f → 0 ≤ i → i ≤ 100 → asO (iterO f (k, x)) = some z → ∃ j, iterR rdO j (omA k sl gn i ws rs cT cS cK cG cQ pt ph st x) = some (omE sl gn ws rs cT cS cK cG cQ pt ph st z.1 z.2.1 z.2.2)
  | 0, k, i, x, hf, h0, h1, h => by
    refine ⟨1, ?_⟩
    unfold iterO asO at h
    split at h
    · rename_i heq
      cases h
      cases heq
      simp only [iterR, ro_9, Tree.get_br, decide_eq_false (show ¬ i < 100 by omega), Bool.false_eq_true, if_false, Tree.get_leaf]
      rfl
    · cases h
  | f + 1, k, i, x, hf, h0, h1, h => by
    unfold iterO at h
    cases hs : stepO (k, x) with
    | none => rw [hs] at h; cases h
    | some r =>
      rw [hs] at h
      have hw : IntKind.i64.wrap (i + 1) = i + 1 := wr_s (by omega) (by omega)
      obtain ⟨j, hj⟩ := no_iter sl gn ws rs cT cS cK cG cQ pt ph st f r.1 (i + 1) r.2 (by omega) (by omega) (by omega) h
      refine ⟨j + 1, ?_⟩
      simp only [iterR, so_op sl gn i ws rs cT cS cK cG cQ pt ph st hs (by omega)]
      rw [hw]
      exact hj
theorem no_step (x : List Atom) (r : Ex × List Atom) (h : (no_t x).get = some r) : ∃ n, iterR rdO n x = some r := by
  unfold no_t at h
  split at h
  · rename_i k sl gn i ws rs cT cS cK cG cQ pt ph st x
    obtain ⟨hg, g2⟩ := get_br h
    obtain ⟨h0, h1⟩ := of_decide_eq_true hg
    obtain ⟨hs, g3⟩ := get_br g2
    simp only [runO_is] at hs g3
    cases hv : asO (iterO (100 - i).toNat (k, x)) with
    | none => rw [hv] at hs; cases hs
    | some z =>
      obtain ⟨j, hj⟩ := no_iter sl gn ws rs cT cS cK cG cQ pt ph st _ k i x rfl h0 h1 hv
      rw [hv] at g3
      simp only [Option.getD_some, Tree.get_leaf, Option.some.injEq] at g3
      exact ⟨j, hj.trans (by rw [← g3])⟩
  · cases h
theorem bodyNo_is : bodyOf 5 = some ((bodyOf 5).getD .skip) := by kernel_rfl
theorem keysNo_is : keysOk (loopsIn ((bodyOf 5).getD .skip)) = true := by kernel_rfl
theorem OM_heads : headsOk 2 OM.heads = true := by kernel_rfl
noncomputable def sumsN1 : Sums := withLoop sumsN0 5 22 (tmsum 2 OM no_t)
theorem sumsN1_ok : SumsOk sumsN1 := loop_tmsum (fuel := 60) (F := OM) (out := no_t) sumsN0_ok bodyNo_is keysNo_is OM_heads no_step
end Go.Proofs.YtfmhlldfpohokaaGreat.Bound
end
