/- A step of one that begins, by the program: trees by kinds, and the sum. No condition. -/
import Derived.Test.YtifojacfedjedaaGreatOpFQ
namespace Go.Proofs.YtifojacfedjedaaGreat.Bound
open Go.Proofs.YtifojacfedjedaaGreat.Ev Go.Proofs.YtifojacfedjedaaGreat.ChartMath
set_option linter.unusedVariables false
set_option linter.unusedSimpArgs false
def pt_op0 (sl : Int) (T S K G Q : Int) (l c : Nat) (s : MS) : PT (Nat × List Atom) := .cs 1 (.b (rowB T S K G Q l s) (.b (isW (mat T S K s 4 sl)) (.b (stI (mat T S K s 4 sl) != 0) (.cs 7 (.b (decide (IntKind.i64.wrap (sl + 1) ≥ S)) (.leaf (9, ([.i 6, .i 0, .i 0] ++ mA T S K G Q l c (mload T S K s 4 sl)))) (.leaf (0, ([.i (IntKind.i64.wrap (sl + 1)), .i 0, .i 0, .i 0, .i (IntKind.i64.wrap (sl + 1))] ++ mA T S K G Q l c (mload T S K s 4 sl)))))) (.cs 5 (.b (decide (gnI (mat T S K s 4 sl) > G)) (.b (decide (IntKind.i64.wrap (sl + 1) ≥ S)) (.leaf (9, ([.i 6, .i 0, .i 0] ++ mA T S K G Q l c (mload T S K s 4 sl)))) (.leaf (0, ([.i (IntKind.i64.wrap (sl + 1)), .i 0, .i 0, .i 0, .i (IntKind.i64.wrap (sl + 1))] ++ mA T S K G Q l c (mload T S K s 4 sl))))) (.leaf (1, ([.i (sl), .i (mat T S K s 4 sl), .i 0, .i 0, .i 0, .i (sl)] ++ mA T S K G Q l c (mload T S K s 4 sl))))))) .bad) .bad)
theorem ct_op0 (sl : Int) (T S K G Q : Int) (l c : Nat) (s : MS) : cutP (pt_op0 sl T S K G Q l c s) (endF (ev sumsF4 60 339) (opIn 0) [.i sl, .i 0, .i 0, .i 0, .i sl, .i T, .i S, .i K, .i G, .i Q, .n l, .n c, .i s.tk, .i s.ts, .i s.to, .i s.told, .i s.tnew, .b s.td, .i s.many, .ws s.ws]) = den (pt_op0 sl T S K G Q l c s) := by kernel_rfl
def opO0 : List Atom → Tree (Nat × List Atom)
  | .i sl :: .i x1 :: .i x2 :: .i x3 :: .i x4 :: .i T :: .i S :: .i K :: .i G :: .i Q :: .n l :: .n c :: .i tk :: .i ts :: .i to :: .i told :: .i tnew :: .b td :: .i many :: .ws ws :: [] => .br (decide (0 = x1 ∧ 0 = x2 ∧ 0 = x3 ∧ sl = x4)) (den (pt_op0 sl T S K G Q l c ⟨ws, many, tk, ts, to, told, tnew, td⟩)) .bad
  | _ => .bad
theorem opO0_st (x : List Atom) (r : Nat × List Atom) (h : (opO0 x).get = some r) : (endF (ev sumsF4 60 339) (opIn 0) x).get = some r := by
  unfold opO0 at h
  split at h
  · rename_i sl x1 x2 x3 x4 T S K G Q l c tk ts to told tnew td many ws
    obtain ⟨hg, h2⟩ := get_br h
    obtain ⟨rfl, rfl, rfl, rfl⟩ := of_decide_eq_true hg
    exact cut_get (ct_op0 sl T S K G Q l c ⟨ws, many, tk, ts, to, told, tnew, td⟩) h2
  · cases h
def pt_op1 (sl w : Int) (T S K G Q : Int) (l c : Nat) (s : MS) : PT (Nat × List Atom) := .cs 1 (.b (isW w) (.b (rowB T S K G Q l s) (.b (!mok T S K s 4 sl w) (.b (decide (IntKind.i64.wrap (sl + 1) ≥ S)) (.leaf (9, ([.i 6, .i 0, .i 0] ++ mA T S K G Q l c (mswap T S K s 4 sl w (moveI w 1 false))))) (.leaf (0, ([.i (IntKind.i64.wrap (sl + 1)), .i 0, .i 0, .i 0, .i (IntKind.i64.wrap (sl + 1))] ++ mA T S K G Q l c (mswap T S K s 4 sl w (moveI w 1 false)))))) (.leaf (2, ([.i (sl), .i (w), .i 0, .i 0, .i 0] ++ mA T S K G Q l c (mswap T S K s 4 sl w (moveI w 1 false)))))) .bad) .bad)
theorem ct_op1 (sl w : Int) (T S K G Q : Int) (l c : Nat) (s : MS) : cutP (pt_op1 sl w T S K G Q l c s) (endF (ev sumsF4 60 339) (opIn 1) [.i sl, .i w, .i 0, .i 0, .i 0, .i sl, .i T, .i S, .i K, .i G, .i Q, .n l, .n c, .i s.tk, .i s.ts, .i s.to, .i s.told, .i s.tnew, .b s.td, .i s.many, .ws s.ws]) = den (pt_op1 sl w T S K G Q l c s) := by kernel_rfl
def opO1 : List Atom → Tree (Nat × List Atom)
  | .i sl :: .i w :: .i x2 :: .i x3 :: .i x4 :: .i x5 :: .i T :: .i S :: .i K :: .i G :: .i Q :: .n l :: .n c :: .i tk :: .i ts :: .i to :: .i told :: .i tnew :: .b td :: .i many :: .ws ws :: [] => .br (decide (0 = x2 ∧ 0 = x3 ∧ 0 = x4 ∧ sl = x5)) (den (pt_op1 sl w T S K G Q l c ⟨ws, many, tk, ts, to, told, tnew, td⟩)) .bad
  | _ => .bad
theorem opO1_st (x : List Atom) (r : Nat × List Atom) (h : (opO1 x).get = some r) : (endF (ev sumsF4 60 339) (opIn 1) x).get = some r := by
  unfold opO1 at h
  split at h
  · rename_i sl w x2 x3 x4 x5 T S K G Q l c tk ts to told tnew td many ws
    obtain ⟨hg, h2⟩ := get_br h
    obtain ⟨rfl, rfl, rfl, rfl⟩ := of_decide_eq_true hg
    exact cut_get (ct_op1 sl w T S K G Q l c ⟨ws, many, tk, ts, to, told, tnew, td⟩) h2
  · cases h
def pt_op2 (sl w : Int) (T S K G Q : Int) (l c : Nat) (s : MS) : PT (Nat × List Atom) := .cs 1 (.b (rowB T S K G Q l s) (.b (isW (mat T S K s 1 0)) (.b (decide (mat T S K s 1 0 % 16 - 1 ≥ 0)) (.b (isW (mat T S K s 1 0)) (.b (decide (mat T S K s 1 0 % 16 - 1 ≥ 0)) (.leaf (3, ([.i (sl), .i (w), .i 0, .i 0, .i 0, .i (mat T S K s 1 0), .i 0, .i (mat T S K s 1 0 / 16), .i (mat T S K s 1 0 % 16 - 1)] ++ mA T S K G Q l c (mload T S K s 1 0)))) .bad) .bad) (.leaf (7, ([.i (sl), .i (w), .i (mat T S K s 1 0 / 16), .i 0, .i 0, .i 0] ++ mA T S K G Q l c (mload T S K s 1 0))))) .bad) .bad)
theorem ct_op2 (sl w : Int) (T S K G Q : Int) (l c : Nat) (s : MS) : cutP (pt_op2 sl w T S K G Q l c s) (endF (ev sumsF4 60 339) (opIn 2) [.i sl, .i w, .i 0, .i 0, .i 0, .i T, .i S, .i K, .i G, .i Q, .n l, .n c, .i s.tk, .i s.ts, .i s.to, .i s.told, .i s.tnew, .b s.td, .i s.many, .ws s.ws]) = den (pt_op2 sl w T S K G Q l c s) := by kernel_rfl
def opO2 : List Atom → Tree (Nat × List Atom)
  | .i sl :: .i w :: .i x2 :: .i x3 :: .i x4 :: .i T :: .i S :: .i K :: .i G :: .i Q :: .n l :: .n c :: .i tk :: .i ts :: .i to :: .i told :: .i tnew :: .b td :: .i many :: .ws ws :: [] => .br (decide (0 = x2 ∧ 0 = x3 ∧ 0 = x4)) (den (pt_op2 sl w T S K G Q l c ⟨ws, many, tk, ts, to, told, tnew, td⟩)) .bad
  | _ => .bad
theorem opO2_st (x : List Atom) (r : Nat × List Atom) (h : (opO2 x).get = some r) : (endF (ev sumsF4 60 339) (opIn 2) x).get = some r := by
  unfold opO2 at h
  split at h
  · rename_i sl w x2 x3 x4 T S K G Q l c tk ts to told tnew td many ws
    obtain ⟨hg, h2⟩ := get_br h
    obtain ⟨rfl, rfl, rfl⟩ := of_decide_eq_true hg
    exact cut_get (ct_op2 sl w T S K G Q l c ⟨ws, many, tk, ts, to, told, tnew, td⟩) h2
  · cases h
def pt_op3 (sl w hw hs hq hp : Int) (T S K G Q : Int) (l c : Nat) (s : MS) : PT (Nat × List Atom) := .cs 2 (.b (rowB T S K G Q l s) (.cs 1 (.leaf (4, ([.i (sl), .i (w), .i 0, .i 0, .i 0, .i (hw), .i (hs), .i (hq), .i (hp)] ++ mA T S K G Q l c (mswap T S K s 6 hp 0 hq))))) .bad)
theorem ct_op3 (sl w hw hs hq hp : Int) (T S K G Q : Int) (l c : Nat) (s : MS) : cutP (pt_op3 sl w hw hs hq hp T S K G Q l c s) (endF (ev sumsF4 60 339) (opIn 3) [.i sl, .i w, .i 0, .i 0, .i 0, .i hw, .i hs, .i hq, .i hp, .i T, .i S, .i K, .i G, .i Q, .n l, .n c, .i s.tk, .i s.ts, .i s.to, .i s.told, .i s.tnew, .b s.td, .i s.many, .ws s.ws]) = den (pt_op3 sl w hw hs hq hp T S K G Q l c s) := by kernel_rfl
def opO3 : List Atom → Tree (Nat × List Atom)
  | .i sl :: .i w :: .i x2 :: .i x3 :: .i x4 :: .i hw :: .i hs :: .i hq :: .i hp :: .i T :: .i S :: .i K :: .i G :: .i Q :: .n l :: .n c :: .i tk :: .i ts :: .i to :: .i told :: .i tnew :: .b td :: .i many :: .ws ws :: [] => .br (decide (0 = x2 ∧ 0 = x3 ∧ 0 = x4)) (den (pt_op3 sl w hw hs hq hp T S K G Q l c ⟨ws, many, tk, ts, to, told, tnew, td⟩)) .bad
  | _ => .bad
theorem opO3_st (x : List Atom) (r : Nat × List Atom) (h : (opO3 x).get = some r) : (endF (ev sumsF4 60 339) (opIn 3) x).get = some r := by
  unfold opO3 at h
  split at h
  · rename_i sl w x2 x3 x4 hw hs hq hp T S K G Q l c tk ts to told tnew td many ws
    obtain ⟨hg, h2⟩ := get_br h
    obtain ⟨rfl, rfl, rfl⟩ := of_decide_eq_true hg
    exact cut_get (ct_op3 sl w hw hs hq hp T S K G Q l c ⟨ws, many, tk, ts, to, told, tnew, td⟩) h2
  · cases h
def pt_op4 (sl w hw hs hq hp : Int) (T S K G Q : Int) (l c : Nat) (s : MS) : PT (Nat × List Atom) := .cs 2 (.b (rowB T S K G Q l s) (.b (isW (mat T S K s 4 hp)) (.b (stI (mat T S K s 4 hp) == 3) (.cs 1 (.leaf (5, ([.i (sl), .i (w), .i 0, .i 0, .i 0, .i (hw), .i (mat T S K s 4 hp), .i (hq), .i (hp)] ++ mA T S K G Q l c (mload T S K s 4 hp))))) (.cs 1 (.leaf (6, ([.i (sl), .i (w), .i 0, .i 0, .i 0, .i (hw), .i (mat T S K s 4 hp), .i (hq), .i (hp)] ++ mA T S K G Q l c (mload T S K s 4 hp)))))) .bad) .bad)
theorem ct_op4 (sl w hw hs hq hp : Int) (T S K G Q : Int) (l c : Nat) (s : MS) : cutP (pt_op4 sl w hw hs hq hp T S K G Q l c s) (endF (ev sumsF4 60 339) (opIn 4) [.i sl, .i w, .i 0, .i 0, .i 0, .i hw, .i hs, .i hq, .i hp, .i T, .i S, .i K, .i G, .i Q, .n l, .n c, .i s.tk, .i s.ts, .i s.to, .i s.told, .i s.tnew, .b s.td, .i s.many, .ws s.ws]) = den (pt_op4 sl w hw hs hq hp T S K G Q l c s) := by kernel_rfl
def opO4 : List Atom → Tree (Nat × List Atom)
  | .i sl :: .i w :: .i x2 :: .i x3 :: .i x4 :: .i hw :: .i hs :: .i hq :: .i hp :: .i T :: .i S :: .i K :: .i G :: .i Q :: .n l :: .n c :: .i tk :: .i ts :: .i to :: .i told :: .i tnew :: .b td :: .i many :: .ws ws :: [] => .br (decide (0 = x2 ∧ 0 = x3 ∧ 0 = x4)) (den (pt_op4 sl w hw hs hq hp T S K G Q l c ⟨ws, many, tk, ts, to, told, tnew, td⟩)) .bad
  | _ => .bad
theorem opO4_st (x : List Atom) (r : Nat × List Atom) (h : (opO4 x).get = some r) : (endF (ev sumsF4 60 339) (opIn 4) x).get = some r := by
  unfold opO4 at h
  split at h
  · rename_i sl w x2 x3 x4 hw hs hq hp T S K G Q l c tk ts to told tnew td many ws
    obtain ⟨hg, h2⟩ := get_br h
    obtain ⟨rfl, rfl, rfl⟩ := of_decide_eq_true hg
    exact cut_get (ct_op4 sl w hw hs hq hp T S K G Q l c ⟨ws, many, tk, ts, to, told, tnew, td⟩) h2
  · cases h
def pt_op5 (sl w hw hs hq hp : Int) (T S K G Q : Int) (l c : Nat) (s : MS) : PT (Nat × List Atom) := .cs 2 (.b (isW hs) (.b (isW hs) (.b (rowB T S K G Q l s) (.b (mok T S K s 4 hp hs) (.cs 1 (.leaf (6, ([.i (sl), .i (w), .i 0, .i 0, .i 0, .i (hw), .i (hs), .i (hq), .i (hp)] ++ mA T S K G Q l c (mswap T S K s 4 hp hs (moveI hs 4 (bitI hs 26))))))) (.cs 1 (.leaf (4, ([.i (sl), .i (w), .i 0, .i 0, .i 0, .i (hw), .i (hs), .i (hq), .i (hp)] ++ mA T S K G Q l c (mswap T S K s 4 hp hs (moveI hs 4 (bitI hs 26)))))))) .bad) .bad) .bad)
theorem ct_op5 (sl w hw hs hq hp : Int) (T S K G Q : Int) (l c : Nat) (s : MS) : cutP (pt_op5 sl w hw hs hq hp T S K G Q l c s) (endF (ev sumsF4 60 339) (opIn 5) [.i sl, .i w, .i 0, .i 0, .i 0, .i hw, .i hs, .i hq, .i hp, .i T, .i S, .i K, .i G, .i Q, .n l, .n c, .i s.tk, .i s.ts, .i s.to, .i s.told, .i s.tnew, .b s.td, .i s.many, .ws s.ws]) = den (pt_op5 sl w hw hs hq hp T S K G Q l c s) := by kernel_rfl
def opO5 : List Atom → Tree (Nat × List Atom)
  | .i sl :: .i w :: .i x2 :: .i x3 :: .i x4 :: .i hw :: .i hs :: .i hq :: .i hp :: .i T :: .i S :: .i K :: .i G :: .i Q :: .n l :: .n c :: .i tk :: .i ts :: .i to :: .i told :: .i tnew :: .b td :: .i many :: .ws ws :: [] => .br (decide (0 = x2 ∧ 0 = x3 ∧ 0 = x4)) (den (pt_op5 sl w hw hs hq hp T S K G Q l c ⟨ws, many, tk, ts, to, told, tnew, td⟩)) .bad
  | _ => .bad
theorem opO5_st (x : List Atom) (r : Nat × List Atom) (h : (opO5 x).get = some r) : (endF (ev sumsF4 60 339) (opIn 5) x).get = some r := by
  unfold opO5 at h
  split at h
  · rename_i sl w x2 x3 x4 hw hs hq hp T S K G Q l c tk ts to told tnew td many ws
    obtain ⟨hg, h2⟩ := get_br h
    obtain ⟨rfl, rfl, rfl⟩ := of_decide_eq_true hg
    exact cut_get (ct_op5 sl w hw hs hq hp T S K G Q l c ⟨ws, many, tk, ts, to, told, tnew, td⟩) h2
  · cases h
def pt_op6 (sl w hw hs hq hp : Int) (T S K G Q : Int) (l c : Nat) (s : MS) : PT (Nat × List Atom) := .cs 2 (.b (isW hw) (.b (rowB T S K G Q l s) (.cs 1 (.leaf (2, ([.i (sl), .i (w), .i 0, .i 0, .i 0] ++ mA T S K G Q l c (mswap T S K s 1 0 hw (setI hw)))))) .bad) .bad)
theorem ct_op6 (sl w hw hs hq hp : Int) (T S K G Q : Int) (l c : Nat) (s : MS) : cutP (pt_op6 sl w hw hs hq hp T S K G Q l c s) (endF (ev sumsF4 60 339) (opIn 6) [.i sl, .i w, .i 0, .i 0, .i 0, .i hw, .i hs, .i hq, .i hp, .i T, .i S, .i K, .i G, .i Q, .n l, .n c, .i s.tk, .i s.ts, .i s.to, .i s.told, .i s.tnew, .b s.td, .i s.many, .ws s.ws]) = den (pt_op6 sl w hw hs hq hp T S K G Q l c s) := by kernel_rfl
def opO6 : List Atom → Tree (Nat × List Atom)
  | .i sl :: .i w :: .i x2 :: .i x3 :: .i x4 :: .i hw :: .i hs :: .i hq :: .i hp :: .i T :: .i S :: .i K :: .i G :: .i Q :: .n l :: .n c :: .i tk :: .i ts :: .i to :: .i told :: .i tnew :: .b td :: .i many :: .ws ws :: [] => .br (decide (0 = x2 ∧ 0 = x3 ∧ 0 = x4)) (den (pt_op6 sl w hw hs hq hp T S K G Q l c ⟨ws, many, tk, ts, to, told, tnew, td⟩)) .bad
  | _ => .bad
theorem opO6_st (x : List Atom) (r : Nat × List Atom) (h : (opO6 x).get = some r) : (endF (ev sumsF4 60 339) (opIn 6) x).get = some r := by
  unfold opO6 at h
  split at h
  · rename_i sl w x2 x3 x4 hw hs hq hp T S K G Q l c tk ts to told tnew td many ws
    obtain ⟨hg, h2⟩ := get_br h
    obtain ⟨rfl, rfl, rfl⟩ := of_decide_eq_true hg
    exact cut_get (ct_op6 sl w hw hs hq hp T S K G Q l c ⟨ws, many, tk, ts, to, told, tnew, td⟩) h2
  · cases h
def pt_op7 (sl w q : Int) (T S K G Q : Int) (l c : Nat) (s : MS) : PT (Nat × List Atom) := .cs 1 (.b (rowB T S K G Q l s) (.leaf (8, ([.i (sl), .i (w), .i (q), .i 0, .i 0, .i 0] ++ mA T S K G Q l c (mstore T S K s 5 sl q)))) .bad)
theorem ct_op7 (sl w q : Int) (T S K G Q : Int) (l c : Nat) (s : MS) : cutP (pt_op7 sl w q T S K G Q l c s) (endF (ev sumsF4 60 339) (opIn 7) [.i sl, .i w, .i q, .i 0, .i 0, .i 0, .i T, .i S, .i K, .i G, .i Q, .n l, .n c, .i s.tk, .i s.ts, .i s.to, .i s.told, .i s.tnew, .b s.td, .i s.many, .ws s.ws]) = den (pt_op7 sl w q T S K G Q l c s) := by kernel_rfl
def opO7 : List Atom → Tree (Nat × List Atom)
  | .i sl :: .i w :: .i q :: .i x3 :: .i x4 :: .i x5 :: .i T :: .i S :: .i K :: .i G :: .i Q :: .n l :: .n c :: .i tk :: .i ts :: .i to :: .i told :: .i tnew :: .b td :: .i many :: .ws ws :: [] => .br (decide (0 = x3 ∧ 0 = x4 ∧ 0 = x5)) (den (pt_op7 sl w q T S K G Q l c ⟨ws, many, tk, ts, to, told, tnew, td⟩)) .bad
  | _ => .bad
theorem opO7_st (x : List Atom) (r : Nat × List Atom) (h : (opO7 x).get = some r) : (endF (ev sumsF4 60 339) (opIn 7) x).get = some r := by
  unfold opO7 at h
  split at h
  · rename_i sl w q x3 x4 x5 T S K G Q l c tk ts to told tnew td many ws
    obtain ⟨hg, h2⟩ := get_br h
    obtain ⟨rfl, rfl, rfl⟩ := of_decide_eq_true hg
    exact cut_get (ct_op7 sl w q T S K G Q l c ⟨ws, many, tk, ts, to, told, tnew, td⟩) h2
  · cases h
def pt_op8 (sl w q : Int) (T S K G Q : Int) (l c : Nat) (s : MS) : PT (Nat × List Atom) := .cs 1 (.b (isW w) (.b (rowB T S K G Q l s) (.b (isW w) (.b (decide (0 ≤ sl ∧ sl ≤ 11 ∧ 0 ≤ gnI w ∧ gnI w ≤ 1073741823)) (.leaf (9, ([.i 0, .i (mkI sl (gnI w)), .i (q)] ++ mA T S K G Q l c (mstore T S K s 4 sl (moveI w 2 false))))) .bad) .bad) .bad) .bad)
theorem ct_op8 (sl w q : Int) (T S K G Q : Int) (l c : Nat) (s : MS) : cutP (pt_op8 sl w q T S K G Q l c s) (endF (ev sumsF4 60 339) (opIn 8) [.i sl, .i w, .i q, .i 0, .i 0, .i 0, .i T, .i S, .i K, .i G, .i Q, .n l, .n c, .i s.tk, .i s.ts, .i s.to, .i s.told, .i s.tnew, .b s.td, .i s.many, .ws s.ws]) = den (pt_op8 sl w q T S K G Q l c s) := by kernel_rfl
def opO8 : List Atom → Tree (Nat × List Atom)
  | .i sl :: .i w :: .i q :: .i x3 :: .i x4 :: .i x5 :: .i T :: .i S :: .i K :: .i G :: .i Q :: .n l :: .n c :: .i tk :: .i ts :: .i to :: .i told :: .i tnew :: .b td :: .i many :: .ws ws :: [] => .br (decide (0 = x3 ∧ 0 = x4 ∧ 0 = x5)) (den (pt_op8 sl w q T S K G Q l c ⟨ws, many, tk, ts, to, told, tnew, td⟩)) .bad
  | _ => .bad
theorem opO8_st (x : List Atom) (r : Nat × List Atom) (h : (opO8 x).get = some r) : (endF (ev sumsF4 60 339) (opIn 8) x).get = some r := by
  unfold opO8 at h
  split at h
  · rename_i sl w q x3 x4 x5 T S K G Q l c tk ts to told tnew td many ws
    obtain ⟨hg, h2⟩ := get_br h
    obtain ⟨rfl, rfl, rfl⟩ := of_decide_eq_true hg
    exact cut_get (ct_op8 sl w q T S K G Q l c ⟨ws, many, tk, ts, to, told, tnew, td⟩) h2
  · cases h
def pt_op9 (ae ah an : Int) (T S K G Q : Int) (l c : Nat) (s : MS) : PT (Nat × List Atom) := .cs 1 (.leaf (9, ([.i (ae), .i (ah), .i (an)] ++ mA T S K G Q l c (s))))
theorem ct_op9 (ae ah an : Int) (T S K G Q : Int) (l c : Nat) (s : MS) : cutP (pt_op9 ae ah an T S K G Q l c s) (endF (ev sumsF4 60 339) (opIn 9) [.i ae, .i ah, .i an, .i T, .i S, .i K, .i G, .i Q, .n l, .n c, .i s.tk, .i s.ts, .i s.to, .i s.told, .i s.tnew, .b s.td, .i s.many, .ws s.ws]) = den (pt_op9 ae ah an T S K G Q l c s) := by kernel_rfl
def opO9 : List Atom → Tree (Nat × List Atom)
  | .i ae :: .i ah :: .i an :: .i T :: .i S :: .i K :: .i G :: .i Q :: .n l :: .n c :: .i tk :: .i ts :: .i to :: .i told :: .i tnew :: .b td :: .i many :: .ws ws :: [] => den (pt_op9 ae ah an T S K G Q l c ⟨ws, many, tk, ts, to, told, tnew, td⟩)
  | _ => .bad
theorem opO9_st (x : List Atom) (r : Nat × List Atom) (h : (opO9 x).get = some r) : (endF (ev sumsF4 60 339) (opIn 9) x).get = some r := by
  unfold opO9 at h
  split at h
  · rename_i ae ah an T S K G Q l c tk ts to told tnew td many ws
    exact cut_get (ct_op9 ae ah an T S K G Q l c ⟨ws, many, tk, ts, to, told, tnew, td⟩) h
  · cases h
def opOs : List (List Atom → Tree (Nat × List Atom)) := [opO0, opO1, opO2, opO3, opO4, opO5, opO6, opO7, opO8, opO9]
noncomputable def opL : List (FForm × (List Atom → Tree (Nat × List Atom))) := [(opIn 0, opO0), (opIn 1, opO1), (opIn 2, opO2), (opIn 3, opO3), (opIn 4, opO4), (opIn 5, opO5), (opIn 6, opO6), (opIn 7, opO7), (opIn 8, opO8), (opIn 9, opO9)]
noncomputable def with_op (sums : Sums) : Sums := withT sums 339 opL
theorem with_op_ok {sums : Sums} (h : SumsOk sums) : SumsOk (with_op sums) := withT_ok h sumsF4_ok 60 (by kernel_rfl) fun a ha => by
  simp only [opL, List.mem_cons, List.not_mem_nil, or_false] at ha
  rcases ha with rfl | rfl | rfl | rfl | rfl | rfl | rfl | rfl | rfl | rfl
  · exact opO0_st
  · exact opO1_st
  · exact opO2_st
  · exact opO3_st
  · exact opO4_st
  · exact opO5_st
  · exact opO6_st
  · exact opO7_st
  · exact opO8_st
  · exact opO9_st
end Go.Proofs.YtifojacfedjedaaGreat.Bound
