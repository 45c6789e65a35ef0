/- The first steps of a Read, a Write, a Commit and an Abort: trees, and sums. No condition. -/
import Derived.Test.YtifojacfedjedaaGreatMcFQ
namespace Go.Proofs.YtifojacfedjedaaGreat.Bound
open Go.Proofs.YtifojacfedjedaaGreat.Ev Go.Proofs.YtifojacfedjedaaGreat.ChartMath
set_option linter.unusedVariables false
set_option linter.unusedSimpArgs false
def pt_rd0 (ky sl es eh : Int) (ec : Nat) (etakes : Bool) (eword : Int) (T S K G Q : Int) (l c : Nat) (s : MS) : PT (Nat × List Atom) := .cs 4 (.b (isW eh) (.cs 1 (.b (!okT eh S) (.cs 3 (.b (isW eh) (.cs 1 (.b (!bif false then true else !okT eh S) .bad (.b (isW eh) (.b (!okT eh S) (.cs 1 (.leaf (9, ([.i 2] ++ mA T S K G Q l c (s))))) .bad) .bad))) .bad)) (.b (!etakes) (.b (rowB T S K G Q l s) (.b (isW (mat T S K s 4 sl)) (.b (isW eh) (.b (gnI (mat T S K s 4 sl) != genI eh) (.cs 7 (.b (isW eh) (.b (!okT eh S) .bad (.cs 1 (.leaf (9, ([.i 2] ++ mA T S K G Q l c (mload T S K s 4 sl)))))) .bad)) (.b (stI (mat T S K s 4 sl) == 0) (.cs 7 (.b (isW eh) (.b (!okT eh S) .bad (.cs 1 (.leaf (9, ([.i 2] ++ mA T S K G Q l c (mload T S K s 4 sl)))))) .bad)) (.b (stI (mat T S K s 4 sl) == 1) (.cs 6 (.b (isW eh) (.b (!okT eh S) .bad (.cs 1 (.leaf (9, ([.i 2] ++ mA T S K G Q l c (mload T S K s 4 sl)))))) .bad)) (.b (bitI (mat T S K s 4 sl) 26) (.cs 6 (.b (isW eh) (.b (!okT eh S) .bad (.cs 1 (.leaf (9, ([.i 3] ++ mA T S K G Q l c (mload T S K s 4 sl)))))) .bad)) (.cs 3 (.b (stI (mat T S K s 4 sl) == [2].getD ((0 + Int.toNat 0 * 1)) 0) (.cs 4 (.b (isW eh) (.cs 1 (.b (!bif false then true else !okT eh S) (.leaf (0, ([.i (ky), .i (sl), .i (sl), .i (mat T S K s 4 sl), .i (eh), .n 1, .n (ec), .b true, .b false, .i 0, .i (eword), .ws ([2])] ++ mA T S K G Q l c (mload T S K s 4 sl)))) .bad)) .bad)) (.cs 8 (.b (isW eh) (.b (!okT eh S) .bad (.cs 1 (.leaf (9, ([.i 4] ++ mA T S K G Q l c (mload T S K s 4 sl)))))) .bad)))))))) .bad) .bad) .bad) (.b (isW es) (.b (isW es) (.b (rowB T S K G Q l s) (.b (mok T S K s 4 sl es) (.cs 6 (.b (isW eh) (.b (!okT eh S) .bad (.cs 1 (.leaf (1, ([.i (ky), .i (sl)] ++ mA T S K G Q l c (mswap T S K s 4 sl es (moveI es (stI es) true))))))) .bad)) (.cs 3 (.b (isW eh) (.cs 1 (.b (!bif false then true else !okT eh S) (.leaf (0, ([.i (ky), .i (sl), .i (sl), .i (es), .i (eh), .n 1, .n (ec), .b false, .b false, .i 0, .i (eword), .ws ([2])] ++ mA T S K G Q l c (mswap T S K s 4 sl es (moveI es (stI es) true))))) .bad)) .bad))) .bad) .bad) .bad)))) .bad)
theorem ct_rd0 (ky sl es eh : Int) (ec : Nat) (etakes : Bool) (eword : Int) (T S K G Q : Int) (l c : Nat) (s : MS) : cutP (pt_rd0 ky sl es eh ec etakes eword T S K G Q l c s) (endF (ev sumsF4 60 342) (rdIn 0) [.i ky, .i sl, .i sl, .i es, .i eh, .n 1, .n ec, .b etakes, .b false, .i 0, .i eword, .ws [2], .i T, .i S, .i K, .i G, .i Q, .n l, .n c, .i s.tk, .i s.ts, .i s.to, .i s.told, .i s.tnew, .b s.td, .i s.many, .ws s.ws]) = den (pt_rd0 ky sl es eh ec etakes eword T S K G Q l c s) := by kernel_rfl
def rdO0 : List Atom → Tree (Nat × List Atom)
  | .i ky :: .i sl :: .i x2 :: .i es :: .i eh :: .n x5 :: .n ec :: .b etakes :: .b x8 :: .i x9 :: .i eword :: .ws x11 :: .i T :: .i S :: .i K :: .i G :: .i Q :: .n l :: .n c :: .i tk :: .i ts :: .i to :: .i told :: .i tnew :: .b td :: .i many :: .ws ws :: [] => .br (decide (sl = x2 ∧ 1 = x5 ∧ false = x8 ∧ 0 = x9 ∧ [2] = x11)) (den (pt_rd0 ky sl es eh ec etakes eword T S K G Q l c ⟨ws, many, tk, ts, to, told, tnew, td⟩)) .bad
  | _ => .bad
theorem rdO0_st (x : List Atom) (r : Nat × List Atom) (h : (rdO0 x).get = some r) : (endF (ev sumsF4 60 342) (rdIn 0) x).get = some r := by
  unfold rdO0 at h
  split at h
  · rename_i ky sl x2 es eh x5 ec etakes x8 x9 eword x11 T S K G Q l c tk ts to told tnew td many ws
    obtain ⟨hg, h2⟩ := get_br h
    obtain ⟨rfl, rfl, rfl, rfl, rfl⟩ := of_decide_eq_true hg
    exact cut_get (ct_rd0 ky sl es eh ec etakes eword T S K G Q l c ⟨ws, many, tk, ts, to, told, tnew, td⟩) h2
  · cases h
def rdOs : List (List Atom → Tree (Nat × List Atom)) := [rdO0]
noncomputable def rdL : List (FForm × (List Atom → Tree (Nat × List Atom))) := [(rdIn 0, rdO0)]
noncomputable def with_rd (sums : Sums) : Sums := withT sums 342 rdL
theorem with_rd_ok {sums : Sums} (h : SumsOk sums) : SumsOk (with_rd sums) := withT_ok h sumsF4_ok 60 (by kernel_rfl) fun a ha => by
  simp only [rdL, List.mem_cons, List.not_mem_nil, or_false] at ha
  rcases ha with rfl
  · exact rdO0_st
def pt_wr0 (ky sl es eh : Int) (ec : Nat) (etakes : Bool) (eword : Int) (T S K G Q : Int) (l c : Nat) (s : MS) : PT (Nat × List Atom) := .cs 4 (.b (isW eh) (.cs 1 (.b (!okT eh S) (.cs 3 (.b (isW eh) (.cs 1 (.b (!bif false then true else !okT eh S) .bad (.b (isW eh) (.b (!okT eh S) (.cs 1 (.leaf (11, ([.i 2] ++ mA T S K G Q l c (s))))) .bad) .bad))) .bad)) (.b (!etakes) (.b (rowB T S K G Q l s) (.b (isW (mat T S K s 4 sl)) (.b (isW eh) (.b (gnI (mat T S K s 4 sl) != genI eh) (.cs 7 (.b (isW eh) (.b (!okT eh S) .bad (.cs 1 (.leaf (11, ([.i 2] ++ mA T S K G Q l c (mload T S K s 4 sl)))))) .bad)) (.b (stI (mat T S K s 4 sl) == 0) (.cs 7 (.b (isW eh) (.b (!okT eh S) .bad (.cs 1 (.leaf (11, ([.i 2] ++ mA T S K G Q l c (mload T S K s 4 sl)))))) .bad)) (.b (stI (mat T S K s 4 sl) == 1) (.cs 6 (.b (isW eh) (.b (!okT eh S) .bad (.cs 1 (.leaf (11, ([.i 2] ++ mA T S K G Q l c (mload T S K s 4 sl)))))) .bad)) (.b (bitI (mat T S K s 4 sl) 26) (.cs 6 (.b (isW eh) (.b (!okT eh S) .bad (.cs 1 (.leaf (11, ([.i 3] ++ mA T S K G Q l c (mload T S K s 4 sl)))))) .bad)) (.cs 3 (.b (stI (mat T S K s 4 sl) == [2].getD ((0 + Int.toNat 0 * 1)) 0) (.cs 4 (.b (isW eh) (.cs 1 (.b (!bif false then true else !okT eh S) (.leaf (0, ([.i (ky), .i (sl), .i (sl), .i (mat T S K s 4 sl), .i (eh), .n 1, .n (ec), .b true, .b false, .i 0, .i (eword), .ws ([2])] ++ mA T S K G Q l c (mload T S K s 4 sl)))) .bad)) .bad)) (.cs 8 (.b (isW eh) (.b (!okT eh S) .bad (.cs 1 (.leaf (11, ([.i 4] ++ mA T S K G Q l c (mload T S K s 4 sl)))))) .bad)))))))) .bad) .bad) .bad) (.b (isW es) (.b (isW es) (.b (rowB T S K G Q l s) (.b (mok T S K s 4 sl es) (.cs 6 (.b (isW eh) (.b (!okT eh S) .bad (.cs 1 (.leaf (1, ([.i (ky), .i (sl)] ++ mA T S K G Q l c (mswap T S K s 4 sl es (moveI es (stI es) true))))))) .bad)) (.cs 3 (.b (isW eh) (.cs 1 (.b (!bif false then true else !okT eh S) (.leaf (0, ([.i (ky), .i (sl), .i (sl), .i (es), .i (eh), .n 1, .n (ec), .b false, .b false, .i 0, .i (eword), .ws ([2])] ++ mA T S K G Q l c (mswap T S K s 4 sl es (moveI es (stI es) true))))) .bad)) .bad))) .bad) .bad) .bad)))) .bad)
theorem ct_wr0 (ky sl es eh : Int) (ec : Nat) (etakes : Bool) (eword : Int) (T S K G Q : Int) (l c : Nat) (s : MS) : cutP (pt_wr0 ky sl es eh ec etakes eword T S K G Q l c s) (endF (ev sumsF4 60 345) (wrIn 0) [.i ky, .i sl, .i sl, .i es, .i eh, .n 1, .n ec, .b etakes, .b false, .i 0, .i eword, .ws [2], .i T, .i S, .i K, .i G, .i Q, .n l, .n c, .i s.tk, .i s.ts, .i s.to, .i s.told, .i s.tnew, .b s.td, .i s.many, .ws s.ws]) = den (pt_wr0 ky sl es eh ec etakes eword T S K G Q l c s) := by kernel_rfl
def wrO0 : List Atom → Tree (Nat × List Atom)
  | .i ky :: .i sl :: .i x2 :: .i es :: .i eh :: .n x5 :: .n ec :: .b etakes :: .b x8 :: .i x9 :: .i eword :: .ws x11 :: .i T :: .i S :: .i K :: .i G :: .i Q :: .n l :: .n c :: .i tk :: .i ts :: .i to :: .i told :: .i tnew :: .b td :: .i many :: .ws ws :: [] => .br (decide (sl = x2 ∧ 1 = x5 ∧ false = x8 ∧ 0 = x9 ∧ [2] = x11)) (den (pt_wr0 ky sl es eh ec etakes eword T S K G Q l c ⟨ws, many, tk, ts, to, told, tnew, td⟩)) .bad
  | _ => .bad
theorem wrO0_st (x : List Atom) (r : Nat × List Atom) (h : (wrO0 x).get = some r) : (endF (ev sumsF4 60 345) (wrIn 0) x).get = some r := by
  unfold wrO0 at h
  split at h
  · rename_i ky sl x2 es eh x5 ec etakes x8 x9 eword x11 T S K G Q l c tk ts to told tnew td many ws
    obtain ⟨hg, h2⟩ := get_br h
    obtain ⟨rfl, rfl, rfl, rfl, rfl⟩ := of_decide_eq_true hg
    exact cut_get (ct_wr0 ky sl es eh ec etakes eword T S K G Q l c ⟨ws, many, tk, ts, to, told, tnew, td⟩) h2
  · cases h
def wrOs : List (List Atom → Tree (Nat × List Atom)) := [wrO0]
noncomputable def wrL : List (FForm × (List Atom → Tree (Nat × List Atom))) := [(wrIn 0, wrO0)]
noncomputable def with_wr (sums : Sums) : Sums := withT sums 345 wrL
theorem with_wr_ok {sums : Sums} (h : SumsOk sums) : SumsOk (with_wr sums) := withT_ok h sumsF4_ok 60 (by kernel_rfl) fun a ha => by
  simp only [wrL, List.mem_cons, List.not_mem_nil, or_false] at ha
  rcases ha with rfl
  · exact wrO0_st
def pt_cm0 (sl es eh : Int) (ec : Nat) (etakes : Bool) (eword : Int) (T S K G Q : Int) (l c : Nat) (s : MS) : PT (Nat × List Atom) := .cs 4 (.b (isW eh) (.cs 1 (.b (!okT eh S) (.cs 3 (.b (isW eh) (.cs 1 (.b (!bif false then true else !okT eh S) .bad (.b (isW eh) (.b (!okT eh S) (.cs 1 (.leaf (15, ([.i 2, .i 0, .i 0] ++ mA T S K G Q l c (s))))) .bad) .bad))) .bad)) (.b (!etakes) (.b (rowB T S K G Q l s) (.b (isW (mat T S K s 4 sl)) (.b (isW eh) (.b (gnI (mat T S K s 4 sl) != genI eh) (.cs 7 (.b (isW eh) (.b (!okT eh S) .bad (.cs 1 (.leaf (15, ([.i 2, .i 0, .i 0] ++ mA T S K G Q l c (mload T S K s 4 sl)))))) .bad)) (.b (stI (mat T S K s 4 sl) == 0) (.cs 7 (.b (isW eh) (.b (!okT eh S) .bad (.cs 1 (.leaf (15, ([.i 2, .i 0, .i 0] ++ mA T S K G Q l c (mload T S K s 4 sl)))))) .bad)) (.b (stI (mat T S K s 4 sl) == 1) (.cs 6 (.b (isW eh) (.b (!okT eh S) .bad (.cs 1 (.leaf (15, ([.i 2, .i 0, .i 0] ++ mA T S K G Q l c (mload T S K s 4 sl)))))) .bad)) (.b (bitI (mat T S K s 4 sl) 26) (.cs 6 (.b (isW eh) (.b (!okT eh S) .bad (.cs 1 (.leaf (15, ([.i 3, .i 0, .i 0] ++ mA T S K G Q l c (mload T S K s 4 sl)))))) .bad)) (.cs 3 (.b (stI (mat T S K s 4 sl) == [2].getD ((0 + Int.toNat 0 * 1)) 0) (.cs 4 (.b (isW eh) (.cs 1 (.b (!bif false then true else !okT eh S) (.leaf (0, ([.i (sl), .i (sl), .i (mat T S K s 4 sl), .i (eh), .n 1, .n (ec), .b true, .b false, .i 0, .i (eword), .ws ([2])] ++ mA T S K G Q l c (mload T S K s 4 sl)))) .bad)) .bad)) (.cs 8 (.b (isW eh) (.b (!okT eh S) .bad (.cs 1 (.leaf (15, ([.i 4, .i 0, .i 0] ++ mA T S K G Q l c (mload T S K s 4 sl)))))) .bad)))))))) .bad) .bad) .bad) (.b (isW es) (.b (isW es) (.b (rowB T S K G Q l s) (.b (mok T S K s 4 sl es) (.cs 6 (.b (isW eh) (.b (!okT eh S) .bad (.cs 1 (.leaf (1, ([.i (sl)] ++ mA T S K G Q l c (mswap T S K s 4 sl es (moveI es (stI es) true))))))) .bad)) (.cs 3 (.b (isW eh) (.cs 1 (.b (!bif false then true else !okT eh S) (.leaf (0, ([.i (sl), .i (sl), .i (es), .i (eh), .n 1, .n (ec), .b false, .b false, .i 0, .i (eword), .ws ([2])] ++ mA T S K G Q l c (mswap T S K s 4 sl es (moveI es (stI es) true))))) .bad)) .bad))) .bad) .bad) .bad)))) .bad)
theorem ct_cm0 (sl es eh : Int) (ec : Nat) (etakes : Bool) (eword : Int) (T S K G Q : Int) (l c : Nat) (s : MS) : cutP (pt_cm0 sl es eh ec etakes eword T S K G Q l c s) (endF (ev sumsF4 60 348) (cmIn 0) [.i sl, .i sl, .i es, .i eh, .n 1, .n ec, .b etakes, .b false, .i 0, .i eword, .ws [2], .i T, .i S, .i K, .i G, .i Q, .n l, .n c, .i s.tk, .i s.ts, .i s.to, .i s.told, .i s.tnew, .b s.td, .i s.many, .ws s.ws]) = den (pt_cm0 sl es eh ec etakes eword T S K G Q l c s) := by kernel_rfl
def cmO0 : List Atom → Tree (Nat × List Atom)
  | .i sl :: .i x1 :: .i es :: .i eh :: .n x4 :: .n ec :: .b etakes :: .b x7 :: .i x8 :: .i eword :: .ws x10 :: .i T :: .i S :: .i K :: .i G :: .i Q :: .n l :: .n c :: .i tk :: .i ts :: .i to :: .i told :: .i tnew :: .b td :: .i many :: .ws ws :: [] => .br (decide (sl = x1 ∧ 1 = x4 ∧ false = x7 ∧ 0 = x8 ∧ [2] = x10)) (den (pt_cm0 sl es eh ec etakes eword T S K G Q l c ⟨ws, many, tk, ts, to, told, tnew, td⟩)) .bad
  | _ => .bad
theorem cmO0_st (x : List Atom) (r : Nat × List Atom) (h : (cmO0 x).get = some r) : (endF (ev sumsF4 60 348) (cmIn 0) x).get = some r := by
  unfold cmO0 at h
  split at h
  · rename_i sl x1 es eh x4 ec etakes x7 x8 eword x10 T S K G Q l c tk ts to told tnew td many ws
    obtain ⟨hg, h2⟩ := get_br h
    obtain ⟨rfl, rfl, rfl, rfl, rfl⟩ := of_decide_eq_true hg
    exact cut_get (ct_cm0 sl es eh ec etakes eword T S K G Q l c ⟨ws, many, tk, ts, to, told, tnew, td⟩) h2
  · cases h
def cmOs : List (List Atom → Tree (Nat × List Atom)) := [cmO0]
noncomputable def cmL : List (FForm × (List Atom → Tree (Nat × List Atom))) := [(cmIn 0, cmO0)]
noncomputable def with_cm (sums : Sums) : Sums := withT sums 348 cmL
theorem with_cm_ok {sums : Sums} (h : SumsOk sums) : SumsOk (with_cm sums) := withT_ok h sumsF4_ok 60 (by kernel_rfl) fun a ha => by
  simp only [cmL, List.mem_cons, List.not_mem_nil, or_false] at ha
  rcases ha with rfl
  · exact cmO0_st
def pt_ab0 (sl es eh : Int) (ec : Nat) (etakes : Bool) (eword : Int) (T S K G Q : Int) (l c : Nat) (s : MS) : PT (Nat × List Atom) := .cs 4 (.b (isW eh) (.cs 1 (.b (!okT eh S) (.cs 3 (.b (isW eh) (.cs 1 (.b (!bif false then true else !okT eh S) .bad (.b (isW eh) (.b (!okT eh S) (.cs 1 (.leaf (3, ([.i 2, .i 0, .i 0] ++ mA T S K G Q l c (s))))) .bad) .bad))) .bad)) (.b (!etakes) (.b (rowB T S K G Q l s) (.b (isW (mat T S K s 4 sl)) (.b (isW eh) (.b (gnI (mat T S K s 4 sl) != genI eh) (.cs 7 (.b (isW eh) (.b (!okT eh S) .bad (.cs 1 (.leaf (3, ([.i 2, .i 0, .i 0] ++ mA T S K G Q l c (mload T S K s 4 sl)))))) .bad)) (.b (stI (mat T S K s 4 sl) == 0) (.cs 7 (.b (isW eh) (.b (!okT eh S) .bad (.cs 1 (.leaf (3, ([.i 2, .i 0, .i 0] ++ mA T S K G Q l c (mload T S K s 4 sl)))))) .bad)) (.b (stI (mat T S K s 4 sl) == 1) (.cs 6 (.b (isW eh) (.b (!okT eh S) .bad (.cs 1 (.leaf (3, ([.i 2, .i 0, .i 0] ++ mA T S K G Q l c (mload T S K s 4 sl)))))) .bad)) (.b (bitI (mat T S K s 4 sl) 26) (.cs 6 (.b (isW eh) (.b (!okT eh S) .bad (.cs 1 (.leaf (3, ([.i 3, .i 0, .i 0] ++ mA T S K G Q l c (mload T S K s 4 sl)))))) .bad)) (.cs 3 (.b (stI (mat T S K s 4 sl) == [2].getD ((0 + Int.toNat 0 * 1)) 0) (.cs 4 (.b (isW eh) (.cs 1 (.b (!bif false then true else !okT eh S) (.leaf (0, ([.i (sl), .i (sl), .i (mat T S K s 4 sl), .i (eh), .n 1, .n (ec), .b true, .b false, .i 0, .i (eword), .ws ([2])] ++ mA T S K G Q l c (mload T S K s 4 sl)))) .bad)) .bad)) (.cs 8 (.b (isW eh) (.b (!okT eh S) .bad (.cs 1 (.leaf (3, ([.i 4, .i 0, .i 0] ++ mA T S K G Q l c (mload T S K s 4 sl)))))) .bad)))))))) .bad) .bad) .bad) (.b (isW es) (.b (isW es) (.b (rowB T S K G Q l s) (.b (mok T S K s 4 sl es) (.cs 6 (.b (isW eh) (.b (!okT eh S) .bad (.cs 1 (.leaf (1, ([.i (sl)] ++ mA T S K G Q l c (mswap T S K s 4 sl es (moveI es (stI es) true))))))) .bad)) (.cs 3 (.b (isW eh) (.cs 1 (.b (!bif false then true else !okT eh S) (.leaf (0, ([.i (sl), .i (sl), .i (es), .i (eh), .n 1, .n (ec), .b false, .b false, .i 0, .i (eword), .ws ([2])] ++ mA T S K G Q l c (mswap T S K s 4 sl es (moveI es (stI es) true))))) .bad)) .bad))) .bad) .bad) .bad)))) .bad)
theorem ct_ab0 (sl es eh : Int) (ec : Nat) (etakes : Bool) (eword : Int) (T S K G Q : Int) (l c : Nat) (s : MS) : cutP (pt_ab0 sl es eh ec etakes eword T S K G Q l c s) (endF (ev sumsF4 60 348) (abIn 0) [.i sl, .i sl, .i es, .i eh, .n 1, .n ec, .b etakes, .b false, .i 0, .i eword, .ws [2], .i T, .i S, .i K, .i G, .i Q, .n l, .n c, .i s.tk, .i s.ts, .i s.to, .i s.told, .i s.tnew, .b s.td, .i s.many, .ws s.ws]) = den (pt_ab0 sl es eh ec etakes eword T S K G Q l c s) := by kernel_rfl
def abO0 : List Atom → Tree (Nat × List Atom)
  | .i sl :: .i x1 :: .i es :: .i eh :: .n x4 :: .n ec :: .b etakes :: .b x7 :: .i x8 :: .i eword :: .ws x10 :: .i T :: .i S :: .i K :: .i G :: .i Q :: .n l :: .n c :: .i tk :: .i ts :: .i to :: .i told :: .i tnew :: .b td :: .i many :: .ws ws :: [] => .br (decide (sl = x1 ∧ 1 = x4 ∧ false = x7 ∧ 0 = x8 ∧ [2] = x10)) (den (pt_ab0 sl es eh ec etakes eword T S K G Q l c ⟨ws, many, tk, ts, to, told, tnew, td⟩)) .bad
  | _ => .bad
theorem abO0_st (x : List Atom) (r : Nat × List Atom) (h : (abO0 x).get = some r) : (endF (ev sumsF4 60 348) (abIn 0) x).get = some r := by
  unfold abO0 at h
  split at h
  · rename_i sl x1 es eh x4 ec etakes x7 x8 eword x10 T S K G Q l c tk ts to told tnew td many ws
    obtain ⟨hg, h2⟩ := get_br h
    obtain ⟨rfl, rfl, rfl, rfl, rfl⟩ := of_decide_eq_true hg
    exact cut_get (ct_ab0 sl es eh ec etakes eword T S K G Q l c ⟨ws, many, tk, ts, to, told, tnew, td⟩) h2
  · cases h
def abOs : List (List Atom → Tree (Nat × List Atom)) := [abO0]
noncomputable def abL : List (FForm × (List Atom → Tree (Nat × List Atom))) := [(abIn 0, abO0)]
noncomputable def with_ab (sums : Sums) : Sums := withT sums 348 abL
theorem with_ab_ok {sums : Sums} (h : SumsOk sums) : SumsOk (with_ab sums) := withT_ok h sumsF4_ok 60 (by kernel_rfl) fun a ha => by
  simp only [abL, List.mem_cons, List.not_mem_nil, or_false] at ha
  rcases ha with rfl
  · exact abO0_st
end Go.Proofs.YtifojacfedjedaaGreat.Bound
