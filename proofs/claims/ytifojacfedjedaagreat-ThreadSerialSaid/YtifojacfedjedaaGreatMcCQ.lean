/- All steps of a Commit and an Abort: trees, and sums. No condition. -/
import Derived.Test.YtifojacfedjedaaGreatMcGQ
namespace Go.Proofs.YtifojacfedjedaaGreat.Bound
open Go.Proofs.YtifojacfedjedaaGreat.Ev Go.Proofs.YtifojacfedjedaaGreat.ChartMath
set_option linter.unusedVariables false
set_option linter.unusedSimpArgs false
def pt_cm0 (sl es eh : Int) (ec : Nat) (etakes : Bool) (eword : Int) (T S K G Q : Int) (l c : Nat) (s : MS) : PT (Nat × List Atom) := .cs 4 (.b (isW eh) (.cs 1 (.b (!okT eh S) (.cs 3 (.b (isW eh) (.cs 1 (.b (!bif false then true else !okT eh S) .bad (.b (isW eh) (.b (!okT eh S) (.cs 1 (.leaf (15, ([.i 2, .i 0, .i 0] ++ mA T S K G Q l c (s))))) .bad) .bad))) .bad)) (.b (!etakes) (.b (rowB T S K G Q l s) (.b (isW (mat T S K s 4 sl)) (.b (isW eh) (.b (gnI (mat T S K s 4 sl) != genI eh) (.cs 7 (.b (isW eh) (.b (!okT eh S) .bad (.cs 1 (.leaf (15, ([.i 2, .i 0, .i 0] ++ mA T S K G Q l c (mload T S K s 4 sl)))))) .bad)) (.b (stI (mat T S K s 4 sl) == 0) (.cs 7 (.b (isW eh) (.b (!okT eh S) .bad (.cs 1 (.leaf (15, ([.i 2, .i 0, .i 0] ++ mA T S K G Q l c (mload T S K s 4 sl)))))) .bad)) (.b (stI (mat T S K s 4 sl) == 1) (.cs 6 (.b (isW eh) (.b (!okT eh S) .bad (.cs 1 (.leaf (15, ([.i 2, .i 0, .i 0] ++ mA T S K G Q l c (mload T S K s 4 sl)))))) .bad)) (.b (bitI (mat T S K s 4 sl) 26) (.cs 6 (.b (isW eh) (.b (!okT eh S) .bad (.cs 1 (.leaf (15, ([.i 3, .i 0, .i 0] ++ mA T S K G Q l c (mload T S K s 4 sl)))))) .bad)) (.cs 3 (.b (stI (mat T S K s 4 sl) == [2].getD ((0 + Int.toNat 0 * 1)) 0) (.cs 4 (.b (isW eh) (.cs 1 (.b (!bif false then true else !okT eh S) (.leaf (0, ([.i (sl), .i (sl), .i (mat T S K s 4 sl), .i (eh), .n 1, .n (ec), .b true, .b false, .i 0, .i (eword), .ws ([2])] ++ mA T S K G Q l c (mload T S K s 4 sl)))) .bad)) .bad)) (.cs 8 (.b (isW eh) (.b (!okT eh S) .bad (.cs 1 (.leaf (15, ([.i 4, .i 0, .i 0] ++ mA T S K G Q l c (mload T S K s 4 sl)))))) .bad)))))))) .bad) .bad) .bad) (.b (isW es) (.b (isW es) (.b (rowB T S K G Q l s) (.b (mok T S K s 4 sl es) (.cs 6 (.b (isW eh) (.b (!okT eh S) .bad (.cs 1 (.leaf (1, ([.i (sl)] ++ mA T S K G Q l c (mswap T S K s 4 sl es (moveI es (stI es) true))))))) .bad)) (.cs 3 (.b (isW eh) (.cs 1 (.b (!bif false then true else !okT eh S) (.leaf (0, ([.i (sl), .i (sl), .i (es), .i (eh), .n 1, .n (ec), .b false, .b false, .i 0, .i (eword), .ws ([2])] ++ mA T S K G Q l c (mswap T S K s 4 sl es (moveI es (stI es) true))))) .bad)) .bad))) .bad) .bad) .bad)))) .bad)
theorem ct_cm0 (sl es eh : Int) (ec : Nat) (etakes : Bool) (eword : Int) (T S K G Q : Int) (l c : Nat) (s : MS) : cutP (pt_cm0 sl es eh ec etakes eword T S K G Q l c s) (endF (ev sumsF6 60 348) (cmIn 0) [.i sl, .i sl, .i es, .i eh, .n 1, .n ec, .b etakes, .b false, .i 0, .i eword, .ws [2], .i T, .i S, .i K, .i G, .i Q, .n l, .n c, .i s.tk, .i s.ts, .i s.to, .i s.told, .i s.tnew, .b s.td, .i s.many, .ws s.ws]) = den (pt_cm0 sl es eh ec etakes eword T S K G Q l c s) := by kernel_rfl
def cmO0 : List Atom → Tree (Nat × List Atom)
  | .i sl :: .i x1 :: .i es :: .i eh :: .n x4 :: .n ec :: .b etakes :: .b x7 :: .i x8 :: .i eword :: .ws x10 :: .i T :: .i S :: .i K :: .i G :: .i Q :: .n l :: .n c :: .i tk :: .i ts :: .i to :: .i told :: .i tnew :: .b td :: .i many :: .ws ws :: [] => .br (decide (sl = x1 ∧ 1 = x4 ∧ false = x7 ∧ 0 = x8 ∧ [2] = x10)) (den (pt_cm0 sl es eh ec etakes eword T S K G Q l c ⟨ws, many, tk, ts, to, told, tnew, td⟩)) .bad
  | _ => .bad
theorem cmO0_st (x : List Atom) (r : Nat × List Atom) (h : (cmO0 x).get = some r) : (endF (ev sumsF6 60 348) (cmIn 0) x).get = some r := by
  unfold cmO0 at h
  split at h
  · rename_i sl x1 es eh x4 ec etakes x7 x8 eword x10 T S K G Q l c tk ts to told tnew td many ws
    obtain ⟨hg, h2⟩ := get_br h
    obtain ⟨rfl, rfl, rfl, rfl, rfl⟩ := of_decide_eq_true hg
    exact cut_get (ct_cm0 sl es eh ec etakes eword T S K G Q l c ⟨ws, many, tk, ts, to, told, tnew, td⟩) h2
  · cases h
def pt_cm1 (sl : Int) (T S K G Q : Int) (l c : Nat) (s : MS) : PT (Nat × List Atom) := .cs 1 (.b (rowB T S K G Q l s) (.b (isW (mat T S K s 4 sl) && decide (0 = 0 ∨ 0 = 1)) (.b (anyB (mat T S K s 4 sl) 0) (.cs 4 (.b (isW (mat T S K s 4 sl) && decide (1 = 0 ∨ 1 = 1)) (.b (bif true then anyB (mat T S K s 4 sl) 1 else false) (.leaf (2, ([.i (sl), .i (mat T S K s 4 sl)] ++ mA T S K G Q l c (mload T S K s 4 sl)))) (.leaf (3, ([.i (sl), .i (mat T S K s 4 sl)] ++ mA T S K G Q l c (mload T S K s 4 sl))))) .bad)) (.cs 6 (.leaf (3, ([.i (sl), .i (mat T S K s 4 sl)] ++ mA T S K G Q l c (mload T S K s 4 sl)))))) .bad) .bad)
theorem ct_cm1 (sl : Int) (T S K G Q : Int) (l c : Nat) (s : MS) : cutP (pt_cm1 sl T S K G Q l c s) (endF (ev sumsF6 60 348) (cmIn 1) [.i sl, .i T, .i S, .i K, .i G, .i Q, .n l, .n c, .i s.tk, .i s.ts, .i s.to, .i s.told, .i s.tnew, .b s.td, .i s.many, .ws s.ws]) = den (pt_cm1 sl T S K G Q l c s) := by kernel_rfl
def cmO1 : List Atom → Tree (Nat × List Atom)
  | .i sl :: .i T :: .i S :: .i K :: .i G :: .i Q :: .n l :: .n c :: .i tk :: .i ts :: .i to :: .i told :: .i tnew :: .b td :: .i many :: .ws ws :: [] => den (pt_cm1 sl T S K G Q l c ⟨ws, many, tk, ts, to, told, tnew, td⟩)
  | _ => .bad
theorem cmO1_st (x : List Atom) (r : Nat × List Atom) (h : (cmO1 x).get = some r) : (endF (ev sumsF6 60 348) (cmIn 1) x).get = some r := by
  unfold cmO1 at h
  split at h
  · rename_i sl T S K G Q l c tk ts to told tnew td many ws
    exact cut_get (ct_cm1 sl T S K G Q l c ⟨ws, many, tk, ts, to, told, tnew, td⟩) h
  · cases h
def pt_cm2 (sl sw : Int) (T S K G Q : Int) (l c : Nat) (s : MS) : PT (Nat × List Atom) := .cs 1 (.b (isW sw) (.b (rowB T S K G Q l s) (.b (mok T S K s 4 sl sw) (.leaf (15, ([.i 7, .i 0, .i 0] ++ mA T S K G Q l c (mswap T S K s 4 sl sw (moveI sw 5 false))))) (.leaf (1, ([.i (sl)] ++ mA T S K G Q l c (mswap T S K s 4 sl sw (moveI sw 5 false)))))) .bad) .bad)
theorem ct_cm2 (sl sw : Int) (T S K G Q : Int) (l c : Nat) (s : MS) : cutP (pt_cm2 sl sw T S K G Q l c s) (endF (ev sumsF6 60 348) (cmIn 2) [.i sl, .i sw, .i T, .i S, .i K, .i G, .i Q, .n l, .n c, .i s.tk, .i s.ts, .i s.to, .i s.told, .i s.tnew, .b s.td, .i s.many, .ws s.ws]) = den (pt_cm2 sl sw T S K G Q l c s) := by kernel_rfl
def cmO2 : List Atom → Tree (Nat × List Atom)
  | .i sl :: .i sw :: .i T :: .i S :: .i K :: .i G :: .i Q :: .n l :: .n c :: .i tk :: .i ts :: .i to :: .i told :: .i tnew :: .b td :: .i many :: .ws ws :: [] => den (pt_cm2 sl sw T S K G Q l c ⟨ws, many, tk, ts, to, told, tnew, td⟩)
  | _ => .bad
theorem cmO2_st (x : List Atom) (r : Nat × List Atom) (h : (cmO2 x).get = some r) : (endF (ev sumsF6 60 348) (cmIn 2) x).get = some r := by
  unfold cmO2 at h
  split at h
  · rename_i sl sw T S K G Q l c tk ts to told tnew td many ws
    exact cut_get (ct_cm2 sl sw T S K G Q l c ⟨ws, many, tk, ts, to, told, tnew, td⟩) h
  · cases h
def pt_cm3 (sl sw : Int) (T S K G Q : Int) (l c : Nat) (s : MS) : PT (Nat × List Atom) := .cs 1 (.b (isW sw) (.b (rowB T S K G Q l s) (.b (mok T S K s 4 sl sw) (.leaf (4, ([.i (sl)] ++ mA T S K G Q l c (mswap T S K s 4 sl sw (moveI sw 3 true))))) (.leaf (1, ([.i (sl)] ++ mA T S K G Q l c (mswap T S K s 4 sl sw (moveI sw 3 true)))))) .bad) .bad)
theorem ct_cm3 (sl sw : Int) (T S K G Q : Int) (l c : Nat) (s : MS) : cutP (pt_cm3 sl sw T S K G Q l c s) (endF (ev sumsF6 60 348) (cmIn 3) [.i sl, .i sw, .i T, .i S, .i K, .i G, .i Q, .n l, .n c, .i s.tk, .i s.ts, .i s.to, .i s.told, .i s.tnew, .b s.td, .i s.many, .ws s.ws]) = den (pt_cm3 sl sw T S K G Q l c s) := by kernel_rfl
def cmO3 : List Atom → Tree (Nat × List Atom)
  | .i sl :: .i sw :: .i T :: .i S :: .i K :: .i G :: .i Q :: .n l :: .n c :: .i tk :: .i ts :: .i to :: .i told :: .i tnew :: .b td :: .i many :: .ws ws :: [] => den (pt_cm3 sl sw T S K G Q l c ⟨ws, many, tk, ts, to, told, tnew, td⟩)
  | _ => .bad
theorem cmO3_st (x : List Atom) (r : Nat × List Atom) (h : (cmO3 x).get = some r) : (endF (ev sumsF6 60 348) (cmIn 3) x).get = some r := by
  unfold cmO3 at h
  split at h
  · rename_i sl sw T S K G Q l c tk ts to told tnew td many ws
    exact cut_get (ct_cm3 sl sw T S K G Q l c ⟨ws, many, tk, ts, to, told, tnew, td⟩) h
  · cases h
def pt_cm4 (sl : Int) (T S K G Q : Int) (l c : Nat) (s : MS) : PT (Nat × List Atom) := .cs 1 (.b (rowB T S K G Q l s) (.b (isW (mat T S K s 1 0)) (.b (isW (mat T S K s 1 0) && decide (0 ≤ sl ∧ sl ≤ 11)) (.b (decide (mat T S K s 1 0 % 16 - 1 ≥ 0)) (.b (isW (mat T S K s 1 0)) (.b (decide (mat T S K s 1 0 % 16 - 1 ≥ 0)) (.leaf (5, ([.i (sl), .i (mat T S K s 1 0), .i 0, .i (mat T S K s 1 0 / 16), .i (mat T S K s 1 0 % 16 - 1)] ++ mA T S K G Q l c (mload T S K s 1 0)))) .bad) .bad) (.b (decide (mat T S K s 1 0 / 16 ≥ Q)) (.cs 3 (.leaf (14, ([.i 6, .i 0, .i 0, .i (sl), .i 0, .i 5, .b false, .b false] ++ mA T S K G Q l c (mload T S K s 1 0))))) (.cs 1 (.b (!nextB (mat T S K s 1 0)) (.leaf (14, ([.i 6, .i 0, .i 0, .i (sl), .i 0, .i 5, .b false, .b false] ++ mA T S K G Q l c (mload T S K s 1 0)))) (.leaf (9, ([.i (sl), .i (mat T S K s 1 0)] ++ mA T S K G Q l c (mload T S K s 1 0)))))))) .bad) .bad) .bad)
theorem ct_cm4 (sl : Int) (T S K G Q : Int) (l c : Nat) (s : MS) : cutP (pt_cm4 sl T S K G Q l c s) (endF (ev sumsF6 60 348) (cmIn 4) [.i sl, .i T, .i S, .i K, .i G, .i Q, .n l, .n c, .i s.tk, .i s.ts, .i s.to, .i s.told, .i s.tnew, .b s.td, .i s.many, .ws s.ws]) = den (pt_cm4 sl T S K G Q l c s) := by kernel_rfl
def cmO4 : List Atom → Tree (Nat × List Atom)
  | .i sl :: .i T :: .i S :: .i K :: .i G :: .i Q :: .n l :: .n c :: .i tk :: .i ts :: .i to :: .i told :: .i tnew :: .b td :: .i many :: .ws ws :: [] => den (pt_cm4 sl T S K G Q l c ⟨ws, many, tk, ts, to, told, tnew, td⟩)
  | _ => .bad
theorem cmO4_st (x : List Atom) (r : Nat × List Atom) (h : (cmO4 x).get = some r) : (endF (ev sumsF6 60 348) (cmIn 4) x).get = some r := by
  unfold cmO4 at h
  split at h
  · rename_i sl T S K G Q l c tk ts to told tnew td many ws
    exact cut_get (ct_cm4 sl T S K G Q l c ⟨ws, many, tk, ts, to, told, tnew, td⟩) h
  · cases h
def pt_cm5 (sl hw hs hq hp : Int) (T S K G Q : Int) (l c : Nat) (s : MS) : PT (Nat × List Atom) := .cs 2 (.b (rowB T S K G Q l s) (.cs 1 (.leaf (6, ([.i (sl), .i (hw), .i (hs), .i (hq), .i (hp)] ++ mA T S K G Q l c (mswap T S K s 6 hp 0 hq))))) .bad)
theorem ct_cm5 (sl hw hs hq hp : Int) (T S K G Q : Int) (l c : Nat) (s : MS) : cutP (pt_cm5 sl hw hs hq hp T S K G Q l c s) (endF (ev sumsF6 60 348) (cmIn 5) [.i sl, .i hw, .i hs, .i hq, .i hp, .i T, .i S, .i K, .i G, .i Q, .n l, .n c, .i s.tk, .i s.ts, .i s.to, .i s.told, .i s.tnew, .b s.td, .i s.many, .ws s.ws]) = den (pt_cm5 sl hw hs hq hp T S K G Q l c s) := by kernel_rfl
def cmO5 : List Atom → Tree (Nat × List Atom)
  | .i sl :: .i hw :: .i hs :: .i hq :: .i hp :: .i T :: .i S :: .i K :: .i G :: .i Q :: .n l :: .n c :: .i tk :: .i ts :: .i to :: .i told :: .i tnew :: .b td :: .i many :: .ws ws :: [] => den (pt_cm5 sl hw hs hq hp T S K G Q l c ⟨ws, many, tk, ts, to, told, tnew, td⟩)
  | _ => .bad
theorem cmO5_st (x : List Atom) (r : Nat × List Atom) (h : (cmO5 x).get = some r) : (endF (ev sumsF6 60 348) (cmIn 5) x).get = some r := by
  unfold cmO5 at h
  split at h
  · rename_i sl hw hs hq hp T S K G Q l c tk ts to told tnew td many ws
    exact cut_get (ct_cm5 sl hw hs hq hp T S K G Q l c ⟨ws, many, tk, ts, to, told, tnew, td⟩) h
  · cases h
def pt_cm6 (sl hw hs hq hp : Int) (T S K G Q : Int) (l c : Nat) (s : MS) : PT (Nat × List Atom) := .cs 2 (.b (rowB T S K G Q l s) (.b (isW (mat T S K s 4 hp)) (.b (stI (mat T S K s 4 hp) == 3) (.cs 1 (.leaf (7, ([.i (sl), .i (hw), .i (mat T S K s 4 hp), .i (hq), .i (hp)] ++ mA T S K G Q l c (mload T S K s 4 hp))))) (.cs 1 (.leaf (8, ([.i (sl), .i (hw), .i (mat T S K s 4 hp), .i (hq), .i (hp)] ++ mA T S K G Q l c (mload T S K s 4 hp)))))) .bad) .bad)
theorem ct_cm6 (sl hw hs hq hp : Int) (T S K G Q : Int) (l c : Nat) (s : MS) : cutP (pt_cm6 sl hw hs hq hp T S K G Q l c s) (endF (ev sumsF6 60 348) (cmIn 6) [.i sl, .i hw, .i hs, .i hq, .i hp, .i T, .i S, .i K, .i G, .i Q, .n l, .n c, .i s.tk, .i s.ts, .i s.to, .i s.told, .i s.tnew, .b s.td, .i s.many, .ws s.ws]) = den (pt_cm6 sl hw hs hq hp T S K G Q l c s) := by kernel_rfl
def cmO6 : List Atom → Tree (Nat × List Atom)
  | .i sl :: .i hw :: .i hs :: .i hq :: .i hp :: .i T :: .i S :: .i K :: .i G :: .i Q :: .n l :: .n c :: .i tk :: .i ts :: .i to :: .i told :: .i tnew :: .b td :: .i many :: .ws ws :: [] => den (pt_cm6 sl hw hs hq hp T S K G Q l c ⟨ws, many, tk, ts, to, told, tnew, td⟩)
  | _ => .bad
theorem cmO6_st (x : List Atom) (r : Nat × List Atom) (h : (cmO6 x).get = some r) : (endF (ev sumsF6 60 348) (cmIn 6) x).get = some r := by
  unfold cmO6 at h
  split at h
  · rename_i sl hw hs hq hp T S K G Q l c tk ts to told tnew td many ws
    exact cut_get (ct_cm6 sl hw hs hq hp T S K G Q l c ⟨ws, many, tk, ts, to, told, tnew, td⟩) h
  · cases h
def pt_cm7 (sl hw hs hq hp : Int) (T S K G Q : Int) (l c : Nat) (s : MS) : PT (Nat × List Atom) := .cs 2 (.b (isW hs) (.b (isW hs) (.b (rowB T S K G Q l s) (.b (mok T S K s 4 hp hs) (.cs 1 (.leaf (8, ([.i (sl), .i (hw), .i (hs), .i (hq), .i (hp)] ++ mA T S K G Q l c (mswap T S K s 4 hp hs (moveI hs 4 (bitI hs 26))))))) (.cs 1 (.leaf (6, ([.i (sl), .i (hw), .i (hs), .i (hq), .i (hp)] ++ mA T S K G Q l c (mswap T S K s 4 hp hs (moveI hs 4 (bitI hs 26)))))))) .bad) .bad) .bad)
theorem ct_cm7 (sl hw hs hq hp : Int) (T S K G Q : Int) (l c : Nat) (s : MS) : cutP (pt_cm7 sl hw hs hq hp T S K G Q l c s) (endF (ev sumsF6 60 348) (cmIn 7) [.i sl, .i hw, .i hs, .i hq, .i hp, .i T, .i S, .i K, .i G, .i Q, .n l, .n c, .i s.tk, .i s.ts, .i s.to, .i s.told, .i s.tnew, .b s.td, .i s.many, .ws s.ws]) = den (pt_cm7 sl hw hs hq hp T S K G Q l c s) := by kernel_rfl
def cmO7 : List Atom → Tree (Nat × List Atom)
  | .i sl :: .i hw :: .i hs :: .i hq :: .i hp :: .i T :: .i S :: .i K :: .i G :: .i Q :: .n l :: .n c :: .i tk :: .i ts :: .i to :: .i told :: .i tnew :: .b td :: .i many :: .ws ws :: [] => den (pt_cm7 sl hw hs hq hp T S K G Q l c ⟨ws, many, tk, ts, to, told, tnew, td⟩)
  | _ => .bad
theorem cmO7_st (x : List Atom) (r : Nat × List Atom) (h : (cmO7 x).get = some r) : (endF (ev sumsF6 60 348) (cmIn 7) x).get = some r := by
  unfold cmO7 at h
  split at h
  · rename_i sl hw hs hq hp T S K G Q l c tk ts to told tnew td many ws
    exact cut_get (ct_cm7 sl hw hs hq hp T S K G Q l c ⟨ws, many, tk, ts, to, told, tnew, td⟩) h
  · cases h
def pt_cm8 (sl hw hs hq hp : Int) (T S K G Q : Int) (l c : Nat) (s : MS) : PT (Nat × List Atom) := .cs 2 (.b (isW hw) (.b (rowB T S K G Q l s) (.cs 1 (.leaf (4, ([.i (sl)] ++ mA T S K G Q l c (mswap T S K s 1 0 hw (setI hw)))))) .bad) .bad)
theorem ct_cm8 (sl hw hs hq hp : Int) (T S K G Q : Int) (l c : Nat) (s : MS) : cutP (pt_cm8 sl hw hs hq hp T S K G Q l c s) (endF (ev sumsF6 60 348) (cmIn 8) [.i sl, .i hw, .i hs, .i hq, .i hp, .i T, .i S, .i K, .i G, .i Q, .n l, .n c, .i s.tk, .i s.ts, .i s.to, .i s.told, .i s.tnew, .b s.td, .i s.many, .ws s.ws]) = den (pt_cm8 sl hw hs hq hp T S K G Q l c s) := by kernel_rfl
def cmO8 : List Atom → Tree (Nat × List Atom)
  | .i sl :: .i hw :: .i hs :: .i hq :: .i hp :: .i T :: .i S :: .i K :: .i G :: .i Q :: .n l :: .n c :: .i tk :: .i ts :: .i to :: .i told :: .i tnew :: .b td :: .i many :: .ws ws :: [] => den (pt_cm8 sl hw hs hq hp T S K G Q l c ⟨ws, many, tk, ts, to, told, tnew, td⟩)
  | _ => .bad
theorem cmO8_st (x : List Atom) (r : Nat × List Atom) (h : (cmO8 x).get = some r) : (endF (ev sumsF6 60 348) (cmIn 8) x).get = some r := by
  unfold cmO8 at h
  split at h
  · rename_i sl hw hs hq hp T S K G Q l c tk ts to told tnew td many ws
    exact cut_get (ct_cm8 sl hw hs hq hp T S K G Q l c ⟨ws, many, tk, ts, to, told, tnew, td⟩) h
  · cases h
def pt_cm9 (sl w : Int) (T S K G Q : Int) (l c : Nat) (s : MS) : PT (Nat × List Atom) := .cs 1 (.b (isW w && decide (0 ≤ sl ∧ sl ≤ 11)) (.b (rowB T S K G Q l s) (.b (mok T S K s 1 0 w) (.b (isW (if nextB w = true then nextI w sl else 0)) (.b (decide ((if nextB w = true then nextI w sl else 0) % 16 - 1 ≥ 0)) (.leaf (10, ([.i (sl), .i (w), .i (if nextB w = true then nextI w sl else 0), .i 0, .i ((if nextB w = true then nextI w sl else 0) / 16), .i ((if nextB w = true then nextI w sl else 0) % 16 - 1)] ++ mA T S K G Q l c (mswap T S K s 1 0 w (if nextB w = true then nextI w sl else 0))))) .bad) .bad) (.leaf (4, ([.i (sl)] ++ mA T S K G Q l c (mswap T S K s 1 0 w (if nextB w = true then nextI w sl else 0)))))) .bad) .bad)
theorem ct_cm9 (sl w : Int) (T S K G Q : Int) (l c : Nat) (s : MS) : cutP (pt_cm9 sl w T S K G Q l c s) (endF (ev sumsF6 60 348) (cmIn 9) [.i sl, .i w, .i T, .i S, .i K, .i G, .i Q, .n l, .n c, .i s.tk, .i s.ts, .i s.to, .i s.told, .i s.tnew, .b s.td, .i s.many, .ws s.ws]) = den (pt_cm9 sl w T S K G Q l c s) := by kernel_rfl
def cmO9 : List Atom → Tree (Nat × List Atom)
  | .i sl :: .i w :: .i T :: .i S :: .i K :: .i G :: .i Q :: .n l :: .n c :: .i tk :: .i ts :: .i to :: .i told :: .i tnew :: .b td :: .i many :: .ws ws :: [] => den (pt_cm9 sl w T S K G Q l c ⟨ws, many, tk, ts, to, told, tnew, td⟩)
  | _ => .bad
theorem cmO9_st (x : List Atom) (r : Nat × List Atom) (h : (cmO9 x).get = some r) : (endF (ev sumsF6 60 348) (cmIn 9) x).get = some r := by
  unfold cmO9 at h
  split at h
  · rename_i sl w T S K G Q l c tk ts to told tnew td many ws
    exact cut_get (ct_cm9 sl w T S K G Q l c ⟨ws, many, tk, ts, to, told, tnew, td⟩) h
  · cases h
def pt_cm10 (sl w hw hs hq hp : Int) (T S K G Q : Int) (l c : Nat) (s : MS) : PT (Nat × List Atom) := .cs 2 (.b (rowB T S K G Q l s) (.cs 1 (.leaf (11, ([.i (sl), .i (w), .i (hw), .i (hs), .i (hq), .i (hp)] ++ mA T S K G Q l c (mswap T S K s 6 hp 0 hq))))) .bad)
theorem ct_cm10 (sl w hw hs hq hp : Int) (T S K G Q : Int) (l c : Nat) (s : MS) : cutP (pt_cm10 sl w hw hs hq hp T S K G Q l c s) (endF (ev sumsF6 60 348) (cmIn 10) [.i sl, .i w, .i hw, .i hs, .i hq, .i hp, .i T, .i S, .i K, .i G, .i Q, .n l, .n c, .i s.tk, .i s.ts, .i s.to, .i s.told, .i s.tnew, .b s.td, .i s.many, .ws s.ws]) = den (pt_cm10 sl w hw hs hq hp T S K G Q l c s) := by kernel_rfl
def cmO10 : List Atom → Tree (Nat × List Atom)
  | .i sl :: .i w :: .i hw :: .i hs :: .i hq :: .i hp :: .i T :: .i S :: .i K :: .i G :: .i Q :: .n l :: .n c :: .i tk :: .i ts :: .i to :: .i told :: .i tnew :: .b td :: .i many :: .ws ws :: [] => den (pt_cm10 sl w hw hs hq hp T S K G Q l c ⟨ws, many, tk, ts, to, told, tnew, td⟩)
  | _ => .bad
theorem cmO10_st (x : List Atom) (r : Nat × List Atom) (h : (cmO10 x).get = some r) : (endF (ev sumsF6 60 348) (cmIn 10) x).get = some r := by
  unfold cmO10 at h
  split at h
  · rename_i sl w hw hs hq hp T S K G Q l c tk ts to told tnew td many ws
    exact cut_get (ct_cm10 sl w hw hs hq hp T S K G Q l c ⟨ws, many, tk, ts, to, told, tnew, td⟩) h
  · cases h
def pt_cm11 (sl w hw hs hq hp : Int) (T S K G Q : Int) (l c : Nat) (s : MS) : PT (Nat × List Atom) := .cs 2 (.b (rowB T S K G Q l s) (.b (isW (mat T S K s 4 hp)) (.b (stI (mat T S K s 4 hp) == 3) (.cs 1 (.leaf (12, ([.i (sl), .i (w), .i (hw), .i (mat T S K s 4 hp), .i (hq), .i (hp)] ++ mA T S K G Q l c (mload T S K s 4 hp))))) (.cs 1 (.leaf (13, ([.i (sl), .i (w), .i (hw), .i (mat T S K s 4 hp), .i (hq), .i (hp)] ++ mA T S K G Q l c (mload T S K s 4 hp)))))) .bad) .bad)
theorem ct_cm11 (sl w hw hs hq hp : Int) (T S K G Q : Int) (l c : Nat) (s : MS) : cutP (pt_cm11 sl w hw hs hq hp T S K G Q l c s) (endF (ev sumsF6 60 348) (cmIn 11) [.i sl, .i w, .i hw, .i hs, .i hq, .i hp, .i T, .i S, .i K, .i G, .i Q, .n l, .n c, .i s.tk, .i s.ts, .i s.to, .i s.told, .i s.tnew, .b s.td, .i s.many, .ws s.ws]) = den (pt_cm11 sl w hw hs hq hp T S K G Q l c s) := by kernel_rfl
def cmO11 : List Atom → Tree (Nat × List Atom)
  | .i sl :: .i w :: .i hw :: .i hs :: .i hq :: .i hp :: .i T :: .i S :: .i K :: .i G :: .i Q :: .n l :: .n c :: .i tk :: .i ts :: .i to :: .i told :: .i tnew :: .b td :: .i many :: .ws ws :: [] => den (pt_cm11 sl w hw hs hq hp T S K G Q l c ⟨ws, many, tk, ts, to, told, tnew, td⟩)
  | _ => .bad
theorem cmO11_st (x : List Atom) (r : Nat × List Atom) (h : (cmO11 x).get = some r) : (endF (ev sumsF6 60 348) (cmIn 11) x).get = some r := by
  unfold cmO11 at h
  split at h
  · rename_i sl w hw hs hq hp T S K G Q l c tk ts to told tnew td many ws
    exact cut_get (ct_cm11 sl w hw hs hq hp T S K G Q l c ⟨ws, many, tk, ts, to, told, tnew, td⟩) h
  · cases h
def pt_cm12 (sl w hw hs hq hp : Int) (T S K G Q : Int) (l c : Nat) (s : MS) : PT (Nat × List Atom) := .cs 2 (.b (isW hs) (.b (isW hs) (.b (rowB T S K G Q l s) (.b (mok T S K s 4 hp hs) (.cs 1 (.leaf (13, ([.i (sl), .i (w), .i (hw), .i (hs), .i (hq), .i (hp)] ++ mA T S K G Q l c (mswap T S K s 4 hp hs (moveI hs 4 (bitI hs 26))))))) (.cs 1 (.leaf (11, ([.i (sl), .i (w), .i (hw), .i (hs), .i (hq), .i (hp)] ++ mA T S K G Q l c (mswap T S K s 4 hp hs (moveI hs 4 (bitI hs 26)))))))) .bad) .bad) .bad)
theorem ct_cm12 (sl w hw hs hq hp : Int) (T S K G Q : Int) (l c : Nat) (s : MS) : cutP (pt_cm12 sl w hw hs hq hp T S K G Q l c s) (endF (ev sumsF6 60 348) (cmIn 12) [.i sl, .i w, .i hw, .i hs, .i hq, .i hp, .i T, .i S, .i K, .i G, .i Q, .n l, .n c, .i s.tk, .i s.ts, .i s.to, .i s.told, .i s.tnew, .b s.td, .i s.many, .ws s.ws]) = den (pt_cm12 sl w hw hs hq hp T S K G Q l c s) := by kernel_rfl
def cmO12 : List Atom → Tree (Nat × List Atom)
  | .i sl :: .i w :: .i hw :: .i hs :: .i hq :: .i hp :: .i T :: .i S :: .i K :: .i G :: .i Q :: .n l :: .n c :: .i tk :: .i ts :: .i to :: .i told :: .i tnew :: .b td :: .i many :: .ws ws :: [] => den (pt_cm12 sl w hw hs hq hp T S K G Q l c ⟨ws, many, tk, ts, to, told, tnew, td⟩)
  | _ => .bad
theorem cmO12_st (x : List Atom) (r : Nat × List Atom) (h : (cmO12 x).get = some r) : (endF (ev sumsF6 60 348) (cmIn 12) x).get = some r := by
  unfold cmO12 at h
  split at h
  · rename_i sl w hw hs hq hp T S K G Q l c tk ts to told tnew td many ws
    exact cut_get (ct_cm12 sl w hw hs hq hp T S K G Q l c ⟨ws, many, tk, ts, to, told, tnew, td⟩) h
  · cases h
def pt_cm13 (sl w hw hs hq hp : Int) (T S K G Q : Int) (l c : Nat) (s : MS) : PT (Nat × List Atom) := .cs 2 (.b (isW hw) (.b (rowB T S K G Q l s) (.cs 1 (.b (isW w) (.leaf (14, ([.i 0, .i 0, .i (IntKind.u64.wrap (w / 16 + 1)), .i (sl), .i 0, .i (-1 : Int), .b false, .b false] ++ mA T S K G Q l c (mswap T S K s 1 0 hw (setI hw))))) .bad)) .bad) .bad)
theorem ct_cm13 (sl w hw hs hq hp : Int) (T S K G Q : Int) (l c : Nat) (s : MS) : cutP (pt_cm13 sl w hw hs hq hp T S K G Q l c s) (endF (ev sumsF6 60 348) (cmIn 13) [.i sl, .i w, .i hw, .i hs, .i hq, .i hp, .i T, .i S, .i K, .i G, .i Q, .n l, .n c, .i s.tk, .i s.ts, .i s.to, .i s.told, .i s.tnew, .b s.td, .i s.many, .ws s.ws]) = den (pt_cm13 sl w hw hs hq hp T S K G Q l c s) := by kernel_rfl
def cmO13 : List Atom → Tree (Nat × List Atom)
  | .i sl :: .i w :: .i hw :: .i hs :: .i hq :: .i hp :: .i T :: .i S :: .i K :: .i G :: .i Q :: .n l :: .n c :: .i tk :: .i ts :: .i to :: .i told :: .i tnew :: .b td :: .i many :: .ws ws :: [] => den (pt_cm13 sl w hw hs hq hp T S K G Q l c ⟨ws, many, tk, ts, to, told, tnew, td⟩)
  | _ => .bad
theorem cmO13_st (x : List Atom) (r : Nat × List Atom) (h : (cmO13 x).get = some r) : (endF (ev sumsF6 60 348) (cmIn 13) x).get = some r := by
  unfold cmO13 at h
  split at h
  · rename_i sl w hw hs hq hp T S K G Q l c tk ts to told tnew td many ws
    exact cut_get (ct_cm13 sl w hw hs hq hp T S K G Q l c ⟨ws, many, tk, ts, to, told, tnew, td⟩) h
  · cases h
def pt_cm14 (ae ah an lsl ls lst : Int) (llk : Bool) (T S K G Q : Int) (l c : Nat) (s : MS) : PT (Nat × List Atom) := .cs 2 (.b (!llk) (.b (rowB T S K G Q l s) (.cs 1 (.leaf (14, ([.i (ae), .i (ah), .i (an), .i (lsl), .i (mat T S K s 4 lsl), .i (lst), .b true, .b false] ++ mA T S K G Q l c (mload T S K s 4 lsl))))) .bad) (.b (decide (lst < 0)) (.cs 3 (.b (isW ls) (.b (isW ls) (.b (rowB T S K G Q l s) (.b (mok T S K s 4 lsl ls) (.leaf (15, ([.i (ae), .i (ah), .i (an)] ++ mA T S K G Q l c (mswap T S K s 4 lsl ls (moveI ls (stI ls) false))))) (.leaf (14, ([.i (ae), .i (ah), .i (an), .i (lsl), .i (ls), .i (lst), .b false, .b (mok T S K s 4 lsl ls)] ++ mA T S K G Q l c (mswap T S K s 4 lsl ls (moveI ls (stI ls) false)))))) .bad) .bad) .bad)) (.cs 1 (.b (decide (lst > 7)) (.b (isW ls) (.b (isW ls) (.b (rowB T S K G Q l s) (.b (mok T S K s 4 lsl ls) (.leaf (15, ([.i (ae), .i (ah), .i (an)] ++ mA T S K G Q l c (mswap T S K s 4 lsl ls (moveI ls (stI ls) false))))) (.leaf (14, ([.i (ae), .i (ah), .i (an), .i (lsl), .i (ls), .i (lst), .b false, .b (mok T S K s 4 lsl ls)] ++ mA T S K G Q l c (mswap T S K s 4 lsl ls (moveI ls (stI ls) false)))))) .bad) .bad) .bad) (.b (isW ls) (.b (rowB T S K G Q l s) (.b (mok T S K s 4 lsl ls) (.leaf (15, ([.i (ae), .i (ah), .i (an)] ++ mA T S K G Q l c (mswap T S K s 4 lsl ls (moveI ls lst false))))) (.leaf (14, ([.i (ae), .i (ah), .i (an), .i (lsl), .i (ls), .i (lst), .b false, .b (mok T S K s 4 lsl ls)] ++ mA T S K G Q l c (mswap T S K s 4 lsl ls (moveI ls lst false)))))) .bad) .bad)))))
theorem ct_cm14 (ae ah an lsl ls lst : Int) (llk : Bool) (T S K G Q : Int) (l c : Nat) (s : MS) : cutP (pt_cm14 ae ah an lsl ls lst llk T S K G Q l c s) (endF (ev sumsF6 60 348) (cmIn 14) [.i ae, .i ah, .i an, .i lsl, .i ls, .i lst, .b llk, .b false, .i T, .i S, .i K, .i G, .i Q, .n l, .n c, .i s.tk, .i s.ts, .i s.to, .i s.told, .i s.tnew, .b s.td, .i s.many, .ws s.ws]) = den (pt_cm14 ae ah an lsl ls lst llk T S K G Q l c s) := by kernel_rfl
def cmO14 : List Atom → Tree (Nat × List Atom)
  | .i ae :: .i ah :: .i an :: .i lsl :: .i ls :: .i lst :: .b llk :: .b x7 :: .i T :: .i S :: .i K :: .i G :: .i Q :: .n l :: .n c :: .i tk :: .i ts :: .i to :: .i told :: .i tnew :: .b td :: .i many :: .ws ws :: [] => .br (decide (false = x7)) (den (pt_cm14 ae ah an lsl ls lst llk T S K G Q l c ⟨ws, many, tk, ts, to, told, tnew, td⟩)) .bad
  | _ => .bad
theorem cmO14_st (x : List Atom) (r : Nat × List Atom) (h : (cmO14 x).get = some r) : (endF (ev sumsF6 60 348) (cmIn 14) x).get = some r := by
  unfold cmO14 at h
  split at h
  · rename_i ae ah an lsl ls lst llk x7 T S K G Q l c tk ts to told tnew td many ws
    obtain ⟨hg, h2⟩ := get_br h
    obtain rfl := of_decide_eq_true hg
    exact cut_get (ct_cm14 ae ah an lsl ls lst llk T S K G Q l c ⟨ws, many, tk, ts, to, told, tnew, td⟩) h2
  · cases h
def cmOs : List (List Atom → Tree (Nat × List Atom)) := [cmO0, cmO1, cmO2, cmO3, cmO4, cmO5, cmO6, cmO7, cmO8, cmO9, cmO10, cmO11, cmO12, cmO13, cmO14]
noncomputable def cmL : List (FForm × (List Atom → Tree (Nat × List Atom))) := [(cmIn 0, cmO0), (cmIn 1, cmO1), (cmIn 2, cmO2), (cmIn 3, cmO3), (cmIn 4, cmO4), (cmIn 5, cmO5), (cmIn 6, cmO6), (cmIn 7, cmO7), (cmIn 8, cmO8), (cmIn 9, cmO9), (cmIn 10, cmO10), (cmIn 11, cmO11), (cmIn 12, cmO12), (cmIn 13, cmO13), (cmIn 14, cmO14)]
noncomputable def with_cm (sums : Sums) : Sums := withT sums 348 cmL
theorem with_cm_ok {sums : Sums} (h : SumsOk sums) : SumsOk (with_cm sums) := withT_ok h sumsF6_ok 60 (by kernel_rfl) fun a ha => by
  simp only [cmL, List.mem_cons, List.not_mem_nil, or_false] at ha
  rcases ha with rfl | rfl | rfl | rfl | rfl | rfl | rfl | rfl | rfl | rfl | rfl | rfl | rfl | rfl | rfl
  · exact cmO0_st
  · exact cmO1_st
  · exact cmO2_st
  · exact cmO3_st
  · exact cmO4_st
  · exact cmO5_st
  · exact cmO6_st
  · exact cmO7_st
  · exact cmO8_st
  · exact cmO9_st
  · exact cmO10_st
  · exact cmO11_st
  · exact cmO12_st
  · exact cmO13_st
  · exact cmO14_st
def pt_ab0 (sl es eh : Int) (ec : Nat) (etakes : Bool) (eword : Int) (T S K G Q : Int) (l c : Nat) (s : MS) : PT (Nat × List Atom) := .cs 4 (.b (isW eh) (.cs 1 (.b (!okT eh S) (.cs 3 (.b (isW eh) (.cs 1 (.b (!bif false then true else !okT eh S) .bad (.b (isW eh) (.b (!okT eh S) (.cs 1 (.leaf (3, ([.i 2, .i 0, .i 0] ++ mA T S K G Q l c (s))))) .bad) .bad))) .bad)) (.b (!etakes) (.b (rowB T S K G Q l s) (.b (isW (mat T S K s 4 sl)) (.b (isW eh) (.b (gnI (mat T S K s 4 sl) != genI eh) (.cs 7 (.b (isW eh) (.b (!okT eh S) .bad (.cs 1 (.leaf (3, ([.i 2, .i 0, .i 0] ++ mA T S K G Q l c (mload T S K s 4 sl)))))) .bad)) (.b (stI (mat T S K s 4 sl) == 0) (.cs 7 (.b (isW eh) (.b (!okT eh S) .bad (.cs 1 (.leaf (3, ([.i 2, .i 0, .i 0] ++ mA T S K G Q l c (mload T S K s 4 sl)))))) .bad)) (.b (stI (mat T S K s 4 sl) == 1) (.cs 6 (.b (isW eh) (.b (!okT eh S) .bad (.cs 1 (.leaf (3, ([.i 2, .i 0, .i 0] ++ mA T S K G Q l c (mload T S K s 4 sl)))))) .bad)) (.b (bitI (mat T S K s 4 sl) 26) (.cs 6 (.b (isW eh) (.b (!okT eh S) .bad (.cs 1 (.leaf (3, ([.i 3, .i 0, .i 0] ++ mA T S K G Q l c (mload T S K s 4 sl)))))) .bad)) (.cs 3 (.b (stI (mat T S K s 4 sl) == [2].getD ((0 + Int.toNat 0 * 1)) 0) (.cs 4 (.b (isW eh) (.cs 1 (.b (!bif false then true else !okT eh S) (.leaf (0, ([.i (sl), .i (sl), .i (mat T S K s 4 sl), .i (eh), .n 1, .n (ec), .b true, .b false, .i 0, .i (eword), .ws ([2])] ++ mA T S K G Q l c (mload T S K s 4 sl)))) .bad)) .bad)) (.cs 8 (.b (isW eh) (.b (!okT eh S) .bad (.cs 1 (.leaf (3, ([.i 4, .i 0, .i 0] ++ mA T S K G Q l c (mload T S K s 4 sl)))))) .bad)))))))) .bad) .bad) .bad) (.b (isW es) (.b (isW es) (.b (rowB T S K G Q l s) (.b (mok T S K s 4 sl es) (.cs 6 (.b (isW eh) (.b (!okT eh S) .bad (.cs 1 (.leaf (1, ([.i (sl)] ++ mA T S K G Q l c (mswap T S K s 4 sl es (moveI es (stI es) true))))))) .bad)) (.cs 3 (.b (isW eh) (.cs 1 (.b (!bif false then true else !okT eh S) (.leaf (0, ([.i (sl), .i (sl), .i (es), .i (eh), .n 1, .n (ec), .b false, .b false, .i 0, .i (eword), .ws ([2])] ++ mA T S K G Q l c (mswap T S K s 4 sl es (moveI es (stI es) true))))) .bad)) .bad))) .bad) .bad) .bad)))) .bad)
theorem ct_ab0 (sl es eh : Int) (ec : Nat) (etakes : Bool) (eword : Int) (T S K G Q : Int) (l c : Nat) (s : MS) : cutP (pt_ab0 sl es eh ec etakes eword T S K G Q l c s) (endF (ev sumsF6 60 348) (abIn 0) [.i sl, .i sl, .i es, .i eh, .n 1, .n ec, .b etakes, .b false, .i 0, .i eword, .ws [2], .i T, .i S, .i K, .i G, .i Q, .n l, .n c, .i s.tk, .i s.ts, .i s.to, .i s.told, .i s.tnew, .b s.td, .i s.many, .ws s.ws]) = den (pt_ab0 sl es eh ec etakes eword T S K G Q l c s) := by kernel_rfl
def abO0 : List Atom → Tree (Nat × List Atom)
  | .i sl :: .i x1 :: .i es :: .i eh :: .n x4 :: .n ec :: .b etakes :: .b x7 :: .i x8 :: .i eword :: .ws x10 :: .i T :: .i S :: .i K :: .i G :: .i Q :: .n l :: .n c :: .i tk :: .i ts :: .i to :: .i told :: .i tnew :: .b td :: .i many :: .ws ws :: [] => .br (decide (sl = x1 ∧ 1 = x4 ∧ false = x7 ∧ 0 = x8 ∧ [2] = x10)) (den (pt_ab0 sl es eh ec etakes eword T S K G Q l c ⟨ws, many, tk, ts, to, told, tnew, td⟩)) .bad
  | _ => .bad
theorem abO0_st (x : List Atom) (r : Nat × List Atom) (h : (abO0 x).get = some r) : (endF (ev sumsF6 60 348) (abIn 0) x).get = some r := by
  unfold abO0 at h
  split at h
  · rename_i sl x1 es eh x4 ec etakes x7 x8 eword x10 T S K G Q l c tk ts to told tnew td many ws
    obtain ⟨hg, h2⟩ := get_br h
    obtain ⟨rfl, rfl, rfl, rfl, rfl⟩ := of_decide_eq_true hg
    exact cut_get (ct_ab0 sl es eh ec etakes eword T S K G Q l c ⟨ws, many, tk, ts, to, told, tnew, td⟩) h2
  · cases h
def pt_ab1 (sl : Int) (T S K G Q : Int) (l c : Nat) (s : MS) : PT (Nat × List Atom) := .cs 3 (.b (rowB T S K G Q l s) (.cs 1 (.leaf (2, ([.i 0, .i 0, .i 0, .i (sl), .i (mat T S K s 4 sl), .i 5, .b true, .b false] ++ mA T S K G Q l c (mload T S K s 4 sl))))) .bad)
theorem ct_ab1 (sl : Int) (T S K G Q : Int) (l c : Nat) (s : MS) : cutP (pt_ab1 sl T S K G Q l c s) (endF (ev sumsF6 60 348) (abIn 1) [.i sl, .i T, .i S, .i K, .i G, .i Q, .n l, .n c, .i s.tk, .i s.ts, .i s.to, .i s.told, .i s.tnew, .b s.td, .i s.many, .ws s.ws]) = den (pt_ab1 sl T S K G Q l c s) := by kernel_rfl
def abO1 : List Atom → Tree (Nat × List Atom)
  | .i sl :: .i T :: .i S :: .i K :: .i G :: .i Q :: .n l :: .n c :: .i tk :: .i ts :: .i to :: .i told :: .i tnew :: .b td :: .i many :: .ws ws :: [] => den (pt_ab1 sl T S K G Q l c ⟨ws, many, tk, ts, to, told, tnew, td⟩)
  | _ => .bad
theorem abO1_st (x : List Atom) (r : Nat × List Atom) (h : (abO1 x).get = some r) : (endF (ev sumsF6 60 348) (abIn 1) x).get = some r := by
  unfold abO1 at h
  split at h
  · rename_i sl T S K G Q l c tk ts to told tnew td many ws
    exact cut_get (ct_ab1 sl T S K G Q l c ⟨ws, many, tk, ts, to, told, tnew, td⟩) h
  · cases h
def pt_ab2 (ae ah an lsl ls lst : Int) (llk : Bool) (T S K G Q : Int) (l c : Nat) (s : MS) : PT (Nat × List Atom) := .cs 2 (.b (!llk) (.b (rowB T S K G Q l s) (.cs 1 (.leaf (2, ([.i (ae), .i (ah), .i (an), .i (lsl), .i (mat T S K s 4 lsl), .i (lst), .b true, .b false] ++ mA T S K G Q l c (mload T S K s 4 lsl))))) .bad) (.b (decide (lst < 0)) (.cs 3 (.b (isW ls) (.b (isW ls) (.b (rowB T S K G Q l s) (.b (mok T S K s 4 lsl ls) (.leaf (3, ([.i (ae), .i (ah), .i (an)] ++ mA T S K G Q l c (mswap T S K s 4 lsl ls (moveI ls (stI ls) false))))) (.leaf (2, ([.i (ae), .i (ah), .i (an), .i (lsl), .i (ls), .i (lst), .b false, .b (mok T S K s 4 lsl ls)] ++ mA T S K G Q l c (mswap T S K s 4 lsl ls (moveI ls (stI ls) false)))))) .bad) .bad) .bad)) (.cs 1 (.b (decide (lst > 7)) (.b (isW ls) (.b (isW ls) (.b (rowB T S K G Q l s) (.b (mok T S K s 4 lsl ls) (.leaf (3, ([.i (ae), .i (ah), .i (an)] ++ mA T S K G Q l c (mswap T S K s 4 lsl ls (moveI ls (stI ls) false))))) (.leaf (2, ([.i (ae), .i (ah), .i (an), .i (lsl), .i (ls), .i (lst), .b false, .b (mok T S K s 4 lsl ls)] ++ mA T S K G Q l c (mswap T S K s 4 lsl ls (moveI ls (stI ls) false)))))) .bad) .bad) .bad) (.b (isW ls) (.b (rowB T S K G Q l s) (.b (mok T S K s 4 lsl ls) (.leaf (3, ([.i (ae), .i (ah), .i (an)] ++ mA T S K G Q l c (mswap T S K s 4 lsl ls (moveI ls lst false))))) (.leaf (2, ([.i (ae), .i (ah), .i (an), .i (lsl), .i (ls), .i (lst), .b false, .b (mok T S K s 4 lsl ls)] ++ mA T S K G Q l c (mswap T S K s 4 lsl ls (moveI ls lst false)))))) .bad) .bad)))))
theorem ct_ab2 (ae ah an lsl ls lst : Int) (llk : Bool) (T S K G Q : Int) (l c : Nat) (s : MS) : cutP (pt_ab2 ae ah an lsl ls lst llk T S K G Q l c s) (endF (ev sumsF6 60 348) (abIn 2) [.i ae, .i ah, .i an, .i lsl, .i ls, .i lst, .b llk, .b false, .i T, .i S, .i K, .i G, .i Q, .n l, .n c, .i s.tk, .i s.ts, .i s.to, .i s.told, .i s.tnew, .b s.td, .i s.many, .ws s.ws]) = den (pt_ab2 ae ah an lsl ls lst llk T S K G Q l c s) := by kernel_rfl
def abO2 : List Atom → Tree (Nat × List Atom)
  | .i ae :: .i ah :: .i an :: .i lsl :: .i ls :: .i lst :: .b llk :: .b x7 :: .i T :: .i S :: .i K :: .i G :: .i Q :: .n l :: .n c :: .i tk :: .i ts :: .i to :: .i told :: .i tnew :: .b td :: .i many :: .ws ws :: [] => .br (decide (false = x7)) (den (pt_ab2 ae ah an lsl ls lst llk T S K G Q l c ⟨ws, many, tk, ts, to, told, tnew, td⟩)) .bad
  | _ => .bad
theorem abO2_st (x : List Atom) (r : Nat × List Atom) (h : (abO2 x).get = some r) : (endF (ev sumsF6 60 348) (abIn 2) x).get = some r := by
  unfold abO2 at h
  split at h
  · rename_i ae ah an lsl ls lst llk x7 T S K G Q l c tk ts to told tnew td many ws
    obtain ⟨hg, h2⟩ := get_br h
    obtain rfl := of_decide_eq_true hg
    exact cut_get (ct_ab2 ae ah an lsl ls lst llk T S K G Q l c ⟨ws, many, tk, ts, to, told, tnew, td⟩) h2
  · cases h
def abOs : List (List Atom → Tree (Nat × List Atom)) := [abO0, abO1, abO2]
noncomputable def abL : List (FForm × (List Atom → Tree (Nat × List Atom))) := [(abIn 0, abO0), (abIn 1, abO1), (abIn 2, abO2)]
noncomputable def with_ab (sums : Sums) : Sums := withT sums 348 abL
theorem with_ab_ok {sums : Sums} (h : SumsOk sums) : SumsOk (with_ab sums) := withT_ok h sumsF6_ok 60 (by kernel_rfl) fun a ha => by
  simp only [abL, List.mem_cons, List.not_mem_nil, or_false] at ha
  rcases ha with rfl | rfl | rfl
  · exact abO0_st
  · exact abO1_st
  · exact abO2_st
end Go.Proofs.YtifojacfedjedaaGreat.Bound
