/- A step of a sweep, by the program: forms and trees, by kinds, and the sum. No condition. -/
import Derived.Test.YtifojacfedjedaaGreatTsP
import Derived.Test.YtifojacfedjedaaGreatEvCutQ
namespace Go.Proofs.YtifojacfedjedaaGreat.Bound
open Go.Proofs.YtifojacfedjedaaGreat.Ev Go.Proofs.YtifojacfedjedaaGreat.ChartMath
set_option linter.unusedVariables false
set_option linter.unusedSimpArgs false
/-- The kinds of a sweep's state: 0 enter, 1 number, 2 agedL, 3 agedS, 4 die, 5 dead, 6 tick, 7 note, 8 retired, 9 grace, 10 keys, 11 unmark, 12 past, 13 others, 14 part, 15 close, 16 closed, 17 nought, 18 free, 19 later, 20 done. -/
def swFn : List FuncId := [91, 157, 201, 201, 158, 203, 235, 264, 159, 237, 287, 301, 288, 311, 317, 312, 319, 268, 285, 262]
def i6 : Pat := .int .i64
def u6 : Pat := .int .u64
def nthD {α : Type} (d : α) : List α → Nat → α
  | [], _ => d
  | a :: _, 0 => a
  | _ :: l, n + 1 => nthD d l n
/-- What lies beside a sweep of a kind, from block b on; sw: the sweep's block. -/
def swSub (k sw b : Nat) : List (Nat × TypeId × CPat) := nthD [] [
  [(b, 254, .vals [i6, u6, u6, .slice (b + 1) 0 none, .bool, .bool, i6, u6]), (b + 1, 3, .ints .i64)], [],
  swAge 261 b, swAge 283 b, [], [], [], [], [],
  [(b, 323, .vals [i6, i6, u6, .bool])], swCnt b, swCnt b, [], swCnt b, swCnt b, [], [], [], [],
  [(b, 163, .vals [.ptr sw 0 none]), (b + 1, 293, .vals [i6, u6, i6, .bool, .bool])], []] k
where
  swCnt (b : Nat) : List (Nat × TypeId × CPat) := [(b, 3, .vals [i6]), (b + 1, 3, .vals [i6]), (b + 2, 3, .vals [i6])]
  swAge (f : FuncId) (b : Nat) : List (Nat × TypeId × CPat) := [(b, 311, .vals [.func f [.ptr b 0 none] [], .func 260 [] [.ptr (b + 1) 0 none, .ptr (b + 2) 0 none, .ptr (b + 3) 0 none], i6, u6, .bool]), (b + 1, 3, .vals [i6]), (b + 2, 3, .vals [i6]), (b + 3, 3, .vals [i6])]
/-- A sweep's fields that are known, beside those that always are. -/
def swMore (k b : Nat) : List (Nat × Pat) := nthD [] [
  [(15, .ptr b 0 none)], [], [(16, .ptr b 0 none)], [(16, .ptr b 0 none)], [], [(12, u6)], [], [(13, u6)], [], [(17, .ptr b 0 none)],
  swNext b, (12, u6) :: swNext b, [], (14, u6) :: swNext b, (12, u6) :: (14, u6) :: swNext b, [], [(12, u6)], [], [], [(18, .ptr (b + 1) 0 none)], []] k
where
  swNext (b : Nat) : List (Nat × Pat) := [(1, .func 286 [] [.ptr b 0 none, .ptr (b + 1) 0 none, .ptr (b + 2) 0 none]), (10, i6)]
def swStep (k sw b : Nat) : Pat := cond (Nat.beq k 20) .nilFunc (cond (Nat.beq k 19) (.func (nthD 0 swFn k) [] [.ptr b 0 none]) (.func (nthD 0 swFn k) [.ptr sw 0 none] []))
def swKnown (k sw b : Nat) : List (Nat × Pat) := cond (Nat.beq k 20) [(0, swStep k sw b), (19, i6)] ([(0, swStep k sw b), (2, i6), (3, i6), (4, i6), (5, i6), (6, u6), (7, i6), (8, i6), (9, i6), (11, .bool), (19, i6)] ++ swMore k b)
def lkP (l : List (Nat × Pat)) (i : Nat) : Option Pat := match l with
  | [] => none
  | (j, p) :: l => cond (Nat.beq j i) (some p) (lkP l i)
def upTo : Nat → List Nat → List Nat
  | 0, l => l
  | n + 1, l => upTo n (n :: l)
def partC (n : Nat) (l : List (Nat × Pat)) : CPat := .part ((upTo n []).map fun i => (lkP l i).isSome) ((upTo n []).map fun i => (lkP l i).getD .nilIface)
def memK (w : Nat) : CPat := .vals [i6, i6, i6, i6, u6, .slice w 0 none, i6, i6, i6, u6, u6, .bool, i6]
def swC (k sw b : Nat) : Nat × TypeId × CPat := (sw, 216, partC 20 (swKnown k sw b))
/-- A sweep of a kind that was called with a memory at block m. -/
def swOut (m k : Nat) : SPat := ⟨[(0, .tuple [])], 1, swC k 0 (m + 2) :: swSub k 0 (m + 2) ++ [(m, 126, memK (m + 1)), (m + 1, 22, .ints .u64)], m + 2 + (swSub k 0 0).length, upTo (m + 2) []⟩
def swIn (k : Nat) : FForm :=
  let m := (swSub k 0 1).length + 1
  ⟨[.ptr 0 0 none, .ptr m 0 none], swC k 0 1 :: swSub k 0 1 ++ [(m, 126, memK (m + 1)), (m + 1, 22, .ints .u64)], (upTo 21 []).map (swOut m)⟩
def mA (T S K G Q : Int) (l c : Nat) (s : MS) : List Atom := [.i T, .i S, .i K, .i G, .i Q, .n l, .n c, .i s.tk, .i s.ts, .i s.to, .i s.told, .i s.tnew, .b s.td, .i s.many, .ws s.ws]
def lf (j : Nat) (T S K G Q th sl gn : Int) (a : List Atom) (cl : Bool) (w : List Atom) (l c : Nat) (s : MS) (u : List Atom) : PT (Nat × List Atom) := .leaf (j, [.i T, .i S, .i K, .i G, .i Q, .i th, .i sl, .i gn] ++ a ++ [.b cl] ++ w ++ [.i 0] ++ u ++ mA T S K G Q l c s)
theorem get_br {α : Type} {q : Bool} {t : Tree α} {r : α} (h : (Tree.br q t .bad).get = some r) : q = true ∧ t.get = some r := by
  cases q
  · cases h
  · exact ⟨rfl, h⟩
def pt_enter (th : Int) (sl : Int) (gn : Int) (cl : Bool) (es : Int) (eh : Int) (ec : Nat) (etakes : Bool) (eword : Int) (T : Int) (S : Int) (K : Int) (G : Int) (Q : Int) (l : Nat) (c : Nat) (s : MS) : PT (Nat × List Atom) := .cs 4 (.b (isW eh) (.cs 1 (.b (!okT eh S) (.cs 3 (.b (isW eh) (.cs 1 (.b (!!okT eh S) .bad (.b (isW eh) (.b (!okT eh S) (.cs 1 (.leaf (20, .i 2 :: mA T S K G Q l c s))) .bad) .bad))) .bad)) (.b (!etakes) (.b (rowB T S K G Q l s) (.b (isW (mat T S K s 4 sl)) (.b (isW eh) (.b (gnI (mat T S K s 4 sl) != genI eh) (.cs 7 (.b (isW eh) (.b (!okT eh S) .bad (.cs 1 (.leaf (20, .i 2 :: mA T S K G Q l c (mload T S K s 4 sl))))) .bad)) (.b (stI (mat T S K s 4 sl) == 0) (.cs 7 (.b (isW eh) (.b (!okT eh S) .bad (.cs 1 (.leaf (20, .i 2 :: mA T S K G Q l c (mload T S K s 4 sl))))) .bad)) (.b (stI (mat T S K s 4 sl) == 1) (.cs 6 (.b (isW eh) (.b (!okT eh S) .bad (.cs 1 (.leaf (20, .i 2 :: mA T S K G Q l c (mload T S K s 4 sl))))) .bad)) (.b (bitI (mat T S K s 4 sl) 26) (.cs 6 (.b (isW eh) (.b (!okT eh S) .bad (.cs 1 (.leaf (20, .i 3 :: mA T S K G Q l c (mload T S K s 4 sl))))) .bad)) (.cs 3 (.b (stI (mat T S K s 4 sl) == [4, 5, 6, 7].getD ((0 + Int.toNat 0 * 1)) 0) (.cs 4 (.b (isW eh) (.cs 1 (.b (!!okT eh S) (lf 0 T S K G Q th sl gn [] cl [] l c (mload T S K s 4 sl) [.i sl, .i (mat T S K s 4 sl), .i eh, .n 4, .n ec, .b true, .b false, .i 0, .i eword, .ws [4, 5, 6, 7]]) .bad)) .bad)) (.cs 3 (.b (stI (mat T S K s 4 sl) == [4, 5, 6, 7].getD ((0 + (IntKind.i64.wrap (0 + 1)).toNat * 1)) 0) (.cs 4 (.b (isW eh) (.cs 1 (.b (!!okT eh S) (lf 0 T S K G Q th sl gn [] cl [] l c (mload T S K s 4 sl) [.i sl, .i (mat T S K s 4 sl), .i eh, .n 4, .n ec, .b true, .b false, .i 0, .i eword, .ws [4, 5, 6, 7]]) .bad)) .bad)) (.cs 3 (.b (stI (mat T S K s 4 sl) == [4, 5, 6, 7].getD ((0 + (IntKind.i64.wrap (IntKind.i64.wrap (0 + 1) + 1)).toNat * 1)) 0) (.cs 4 (.b (isW eh) (.cs 1 (.b (!!okT eh S) (lf 0 T S K G Q th sl gn [] cl [] l c (mload T S K s 4 sl) [.i sl, .i (mat T S K s 4 sl), .i eh, .n 4, .n ec, .b true, .b false, .i 0, .i eword, .ws [4, 5, 6, 7]]) .bad)) .bad)) (.cs 3 (.b (stI (mat T S K s 4 sl) == [4, 5, 6, 7].getD ((0 + (IntKind.i64.wrap (IntKind.i64.wrap (IntKind.i64.wrap (0 + 1) + 1) + 1)).toNat * 1)) 0) (.cs 4 (.b (isW eh) (.cs 1 (.b (!!okT eh S) (lf 0 T S K G Q th sl gn [] cl [] l c (mload T S K s 4 sl) [.i sl, .i (mat T S K s 4 sl), .i eh, .n 4, .n ec, .b true, .b false, .i 0, .i eword, .ws [4, 5, 6, 7]]) .bad)) .bad)) (.cs 8 (.b (isW eh) (.b (!okT eh S) .bad (.cs 1 (.leaf (20, .i 4 :: mA T S K G Q l c (mload T S K s 4 sl))))) .bad)))))))))))))) .bad) .bad) .bad) (.b (isW es) (.b (isW es) (.b (rowB T S K G Q l s) (.b (mok T S K s 4 sl es) (.cs 6 (.b (isW eh) (.b (!okT eh S) .bad (.cs 1 (.b (isW (moveI es (stI es) true)) (.b (stI (moveI es (stI es) true) == 4) (lf 1 T S K G Q th sl gn [] cl [] l c (mswap T S K s 4 sl es (moveI es (stI es) true)) []) (.b (stI (moveI es (stI es) true) == 5) (lf 4 T S K G Q th sl gn [] cl [] l c (mswap T S K s 4 sl es (moveI es (stI es) true)) []) (.b (stI (moveI es (stI es) true) == 6) (lf 8 T S K G Q th sl gn [] cl [] l c (mswap T S K s 4 sl es (moveI es (stI es) true)) []) (lf 8 T S K G Q th sl gn [] true [] l c (mswap T S K s 4 sl es (moveI es (stI es) true)) [])))) .bad))) .bad)) (.cs 3 (.b (isW eh) (.cs 1 (.b (!!okT eh S) (lf 0 T S K G Q th sl gn [] cl [] l c (mswap T S K s 4 sl es (moveI es (stI es) true)) [.i sl, .i es, .i eh, .n 4, .n ec, .b false, .b false, .i 0, .i eword, .ws [4, 5, 6, 7]]) .bad)) .bad))) .bad) .bad) .bad)))) .bad)
theorem ct_enter (th : Int) (sl : Int) (gn : Int) (cl : Bool) (es : Int) (eh : Int) (ec : Nat) (etakes : Bool) (eword : Int) (T : Int) (S : Int) (K : Int) (G : Int) (Q : Int) (l : Nat) (c : Nat) (s : MS) : cutP (pt_enter th sl gn cl es eh ec etakes eword T S K G Q l c s) (endF (ev sumsF3 60 351) (swIn 0) [.i T, .i S, .i K, .i G, .i Q, .i th, .i sl, .i gn, .b cl, .i 0, .i sl, .i es, .i eh, .n 4, .n ec, .b etakes, .b false, .i 0, .i eword, .ws [4, 5, 6, 7], .i T, .i S, .i K, .i G, .i Q, .n l, .n c, .i s.tk, .i s.ts, .i s.to, .i s.told, .i s.tnew, .b s.td, .i s.many, .ws s.ws]) = den (pt_enter th sl gn cl es eh ec etakes eword T S K G Q l c s) := by kernel_rfl
def so_enter : List Atom → Tree (Nat × List Atom)
  | .i cT :: .i cS :: .i cK :: .i cG :: .i cQ :: .i th :: .i sl :: .i gn :: .b cl :: .i no :: .i eslot :: .i es :: .i eh :: .n el :: .n ec :: .b etakes :: .b edone :: .i eno :: .i eword :: .ws est :: .i T :: .i S :: .i K :: .i G :: .i Q :: .n l :: .n c :: .i tk :: .i ts :: .i to :: .i told :: .i tnew :: .b td :: .i many :: .ws ws :: [] => .br (decide (T = cT ∧ S = cS ∧ K = cK ∧ G = cG ∧ Q = cQ ∧ 0 = no ∧ sl = eslot ∧ 4 = el ∧ false = edone ∧ 0 = eno ∧ [4, 5, 6, 7] = est)) (den (pt_enter th sl gn cl es eh ec etakes eword T S K G Q l c ⟨ws, many, tk, ts, to, told, tnew, td⟩)) .bad
  | _ => .bad
theorem so_enter_st (x : List Atom) (r : Nat × List Atom) (h : (so_enter x).get = some r) : (endF (ev sumsF3 60 351) (swIn 0) x).get = some r := by
  unfold so_enter at h
  split at h
  · rename_i cT cS cK cG cQ th sl gn cl no eslot es eh el ec etakes edone eno eword est T S K G Q l c tk ts to told tnew td many ws
    obtain ⟨hg, h2⟩ := get_br h
    obtain ⟨rfl, rfl, rfl, rfl, rfl, rfl, rfl, rfl, rfl, rfl, rfl⟩ := of_decide_eq_true hg
    exact cut_get (ct_enter th sl gn cl es eh ec etakes eword T S K G Q l c ⟨ws, many, tk, ts, to, told, tnew, td⟩) h2
  · cases h
def pt_number (th : Int) (sl : Int) (gn : Int) (cl : Bool) (T : Int) (S : Int) (K : Int) (G : Int) (Q : Int) (l : Nat) (c : Nat) (s : MS) : PT (Nat × List Atom) := .cs 1 (.b (rowB T S K G Q l s) (.b (IntKind.i64.wrap ((-1) + 1) == sl) (.b (!decide (IntKind.i64.wrap (IntKind.i64.wrap ((-1) + 1) + 1) < S)) (.cs 1 (lf 4 T S K G Q th sl gn [] cl [] l c (mload T S K s 6 sl) [])) (.cs 1 (lf 2 T S K G Q th sl gn [] cl [] l c (mload T S K s 6 sl) [.i (IntKind.i64.wrap (IntKind.i64.wrap ((-1) + 1) + 1)), .i (mat T S K s 6 sl), .b false, .i (IntKind.i64.wrap (IntKind.i64.wrap ((-1) + 1) + 1)), .i sl, .i S]))) (.b (!decide (IntKind.i64.wrap ((-1) + 1) < S)) (.cs 1 (lf 4 T S K G Q th sl gn [] cl [] l c (mload T S K s 6 sl) [])) (.cs 1 (lf 2 T S K G Q th sl gn [] cl [] l c (mload T S K s 6 sl) [.i (IntKind.i64.wrap ((-1) + 1)), .i (mat T S K s 6 sl), .b false, .i (IntKind.i64.wrap ((-1) + 1)), .i sl, .i S])))) .bad)
theorem ct_number (th : Int) (sl : Int) (gn : Int) (cl : Bool) (T : Int) (S : Int) (K : Int) (G : Int) (Q : Int) (l : Nat) (c : Nat) (s : MS) : cutP (pt_number th sl gn cl T S K G Q l c s) (endF (ev sumsF3 60 351) (swIn 1) [.i T, .i S, .i K, .i G, .i Q, .i th, .i sl, .i gn, .b cl, .i 0, .i T, .i S, .i K, .i G, .i Q, .n l, .n c, .i s.tk, .i s.ts, .i s.to, .i s.told, .i s.tnew, .b s.td, .i s.many, .ws s.ws]) = den (pt_number th sl gn cl T S K G Q l c s) := by kernel_rfl
def so_number : List Atom → Tree (Nat × List Atom)
  | .i cT :: .i cS :: .i cK :: .i cG :: .i cQ :: .i th :: .i sl :: .i gn :: .b cl :: .i no :: .i T :: .i S :: .i K :: .i G :: .i Q :: .n l :: .n c :: .i tk :: .i ts :: .i to :: .i told :: .i tnew :: .b td :: .i many :: .ws ws :: [] => .br (decide (T = cT ∧ S = cS ∧ K = cK ∧ G = cG ∧ Q = cQ ∧ 0 = no)) (den (pt_number th sl gn cl T S K G Q l c ⟨ws, many, tk, ts, to, told, tnew, td⟩)) .bad
  | _ => .bad
theorem so_number_st (x : List Atom) (r : Nat × List Atom) (h : (so_number x).get = some r) : (endF (ev sumsF3 60 351) (swIn 1) x).get = some r := by
  unfold so_number at h
  split at h
  · rename_i cT cS cK cG cQ th sl gn cl no T S K G Q l c tk ts to told tnew td many ws
    obtain ⟨hg, h2⟩ := get_br h
    obtain ⟨rfl, rfl, rfl, rfl, rfl, rfl⟩ := of_decide_eq_true hg
    exact cut_get (ct_number th sl gn cl T S K G Q l c ⟨ws, many, tk, ts, to, told, tnew, td⟩) h2
  · cases h
def pt_agedL (th : Int) (sl : Int) (gn : Int) (cl : Bool) (aother : Int) (anumber : Int) (T : Int) (S : Int) (K : Int) (G : Int) (Q : Int) (l : Nat) (c : Nat) (s : MS) : PT (Nat × List Atom) := .cs 2 (.b (rowB T S K G Q l s) (.b (isW (mat T S K s 4 aother)) (.b (stI (mat T S K s 4 aother) == 1) (.cs 1 (lf 19 T S K G Q th sl gn [] cl [] l c (mload T S K s 4 aother) [.i sl, .i 0, .i (-1), .b false, .b false])) (.b (stI (mat T S K s 4 aother) == 2) (.cs 3 (lf 3 T S K G Q th sl gn [] cl [] l c (mload T S K s 4 aother) [.i aother, .i anumber, .b false, .i aother, .i sl, .i S])) (.b (stI (mat T S K s 4 aother) == 3) (.cs 2 (lf 3 T S K G Q th sl gn [] cl [] l c (mload T S K s 4 aother) [.i aother, .i anumber, .b false, .i aother, .i sl, .i S])) (.b (IntKind.i64.wrap (aother + 1) == sl) (.b (!decide (IntKind.i64.wrap (IntKind.i64.wrap (aother + 1) + 1) < S)) (.cs 2 (lf 4 T S K G Q th sl gn [] cl [] l c (mload T S K s 4 aother) [])) (.cs 2 (lf 2 T S K G Q th sl gn [] cl [] l c (mload T S K s 4 aother) [.i (IntKind.i64.wrap (IntKind.i64.wrap (aother + 1) + 1)), .i anumber, .b false, .i (IntKind.i64.wrap (IntKind.i64.wrap (aother + 1) + 1)), .i sl, .i S]))) (.b (!decide (IntKind.i64.wrap (aother + 1) < S)) (.cs 2 (lf 4 T S K G Q th sl gn [] cl [] l c (mload T S K s 4 aother) [])) (.cs 2 (lf 2 T S K G Q th sl gn [] cl [] l c (mload T S K s 4 aother) [.i (IntKind.i64.wrap (aother + 1)), .i anumber, .b false, .i (IntKind.i64.wrap (aother + 1)), .i sl, .i S]))))))) .bad) .bad)
theorem ct_agedL (th : Int) (sl : Int) (gn : Int) (cl : Bool) (aother : Int) (anumber : Int) (T : Int) (S : Int) (K : Int) (G : Int) (Q : Int) (l : Nat) (c : Nat) (s : MS) : cutP (pt_agedL th sl gn cl aother anumber T S K G Q l c s) (endF (ev sumsF3 60 351) (swIn 2) [.i T, .i S, .i K, .i G, .i Q, .i th, .i sl, .i gn, .b cl, .i 0, .i aother, .i anumber, .b false, .i aother, .i sl, .i S, .i T, .i S, .i K, .i G, .i Q, .n l, .n c, .i s.tk, .i s.ts, .i s.to, .i s.told, .i s.tnew, .b s.td, .i s.many, .ws s.ws]) = den (pt_agedL th sl gn cl aother anumber T S K G Q l c s) := by kernel_rfl
def so_agedL : List Atom → Tree (Nat × List Atom)
  | .i cT :: .i cS :: .i cK :: .i cG :: .i cQ :: .i th :: .i sl :: .i gn :: .b cl :: .i no :: .i aother :: .i anumber :: .b alater :: .i aat :: .i aslot :: .i aslots :: .i T :: .i S :: .i K :: .i G :: .i Q :: .n l :: .n c :: .i tk :: .i ts :: .i to :: .i told :: .i tnew :: .b td :: .i many :: .ws ws :: [] => .br (decide (T = cT ∧ S = cS ∧ K = cK ∧ G = cG ∧ Q = cQ ∧ 0 = no ∧ false = alater ∧ aother = aat ∧ sl = aslot ∧ S = aslots)) (den (pt_agedL th sl gn cl aother anumber T S K G Q l c ⟨ws, many, tk, ts, to, told, tnew, td⟩)) .bad
  | _ => .bad
theorem so_agedL_st (x : List Atom) (r : Nat × List Atom) (h : (so_agedL x).get = some r) : (endF (ev sumsF3 60 351) (swIn 2) x).get = some r := by
  unfold so_agedL at h
  split at h
  · rename_i cT cS cK cG cQ th sl gn cl no aother anumber alater aat aslot aslots T S K G Q l c tk ts to told tnew td many ws
    obtain ⟨hg, h2⟩ := get_br h
    obtain ⟨rfl, rfl, rfl, rfl, rfl, rfl, rfl, rfl, rfl, rfl⟩ := of_decide_eq_true hg
    exact cut_get (ct_agedL th sl gn cl aother anumber T S K G Q l c ⟨ws, many, tk, ts, to, told, tnew, td⟩) h2
  · cases h
def pt_agedS (th : Int) (sl : Int) (gn : Int) (cl : Bool) (aother : Int) (anumber : Int) (T : Int) (S : Int) (K : Int) (G : Int) (Q : Int) (l : Nat) (c : Nat) (s : MS) : PT (Nat × List Atom) := .cs 2 (.b (rowB T S K G Q l s) (.b (decide (mat T S K s 5 aother < anumber)) (.cs 1 (lf 19 T S K G Q th sl gn [] cl [] l c (mload T S K s 5 aother) [.i sl, .i 0, .i (-1), .b false, .b false])) (.b (IntKind.i64.wrap (aother + 1) == sl) (.b (!decide (IntKind.i64.wrap (IntKind.i64.wrap (aother + 1) + 1) < S)) (.cs 2 (lf 4 T S K G Q th sl gn [] cl [] l c (mload T S K s 5 aother) [])) (.cs 2 (lf 2 T S K G Q th sl gn [] cl [] l c (mload T S K s 5 aother) [.i (IntKind.i64.wrap (IntKind.i64.wrap (aother + 1) + 1)), .i anumber, .b false, .i (IntKind.i64.wrap (IntKind.i64.wrap (aother + 1) + 1)), .i sl, .i S]))) (.b (!decide (IntKind.i64.wrap (aother + 1) < S)) (.cs 2 (lf 4 T S K G Q th sl gn [] cl [] l c (mload T S K s 5 aother) [])) (.cs 2 (lf 2 T S K G Q th sl gn [] cl [] l c (mload T S K s 5 aother) [.i (IntKind.i64.wrap (aother + 1)), .i anumber, .b false, .i (IntKind.i64.wrap (aother + 1)), .i sl, .i S]))))) .bad)
theorem ct_agedS (th : Int) (sl : Int) (gn : Int) (cl : Bool) (aother : Int) (anumber : Int) (T : Int) (S : Int) (K : Int) (G : Int) (Q : Int) (l : Nat) (c : Nat) (s : MS) : cutP (pt_agedS th sl gn cl aother anumber T S K G Q l c s) (endF (ev sumsF3 60 351) (swIn 3) [.i T, .i S, .i K, .i G, .i Q, .i th, .i sl, .i gn, .b cl, .i 0, .i aother, .i anumber, .b false, .i aother, .i sl, .i S, .i T, .i S, .i K, .i G, .i Q, .n l, .n c, .i s.tk, .i s.ts, .i s.to, .i s.told, .i s.tnew, .b s.td, .i s.many, .ws s.ws]) = den (pt_agedS th sl gn cl aother anumber T S K G Q l c s) := by kernel_rfl
def so_agedS : List Atom → Tree (Nat × List Atom)
  | .i cT :: .i cS :: .i cK :: .i cG :: .i cQ :: .i th :: .i sl :: .i gn :: .b cl :: .i no :: .i aother :: .i anumber :: .b alater :: .i aat :: .i aslot :: .i aslots :: .i T :: .i S :: .i K :: .i G :: .i Q :: .n l :: .n c :: .i tk :: .i ts :: .i to :: .i told :: .i tnew :: .b td :: .i many :: .ws ws :: [] => .br (decide (T = cT ∧ S = cS ∧ K = cK ∧ G = cG ∧ Q = cQ ∧ 0 = no ∧ false = alater ∧ aother = aat ∧ sl = aslot ∧ S = aslots)) (den (pt_agedS th sl gn cl aother anumber T S K G Q l c ⟨ws, many, tk, ts, to, told, tnew, td⟩)) .bad
  | _ => .bad
theorem so_agedS_st (x : List Atom) (r : Nat × List Atom) (h : (so_agedS x).get = some r) : (endF (ev sumsF3 60 351) (swIn 3) x).get = some r := by
  unfold so_agedS at h
  split at h
  · rename_i cT cS cK cG cQ th sl gn cl no aother anumber alater aat aslot aslots T S K G Q l c tk ts to told tnew td many ws
    obtain ⟨hg, h2⟩ := get_br h
    obtain ⟨rfl, rfl, rfl, rfl, rfl, rfl, rfl, rfl, rfl, rfl⟩ := of_decide_eq_true hg
    exact cut_get (ct_agedS th sl gn cl aother anumber T S K G Q l c ⟨ws, many, tk, ts, to, told, tnew, td⟩) h2
  · cases h
def pt_die (th : Int) (sl : Int) (gn : Int) (cl : Bool) (T : Int) (S : Int) (K : Int) (G : Int) (Q : Int) (l : Nat) (c : Nat) (s : MS) : PT (Nat × List Atom) := .cs 1 (.b (rowB T S K G Q l s) (lf 5 T S K G Q th sl gn [] cl [.i (mat T S K s 4 sl)] l c (mload T S K s 4 sl) []) .bad)
theorem ct_die (th : Int) (sl : Int) (gn : Int) (cl : Bool) (T : Int) (S : Int) (K : Int) (G : Int) (Q : Int) (l : Nat) (c : Nat) (s : MS) : cutP (pt_die th sl gn cl T S K G Q l c s) (endF (ev sumsF3 60 351) (swIn 4) [.i T, .i S, .i K, .i G, .i Q, .i th, .i sl, .i gn, .b cl, .i 0, .i T, .i S, .i K, .i G, .i Q, .n l, .n c, .i s.tk, .i s.ts, .i s.to, .i s.told, .i s.tnew, .b s.td, .i s.many, .ws s.ws]) = den (pt_die th sl gn cl T S K G Q l c s) := by kernel_rfl
def so_die : List Atom → Tree (Nat × List Atom)
  | .i cT :: .i cS :: .i cK :: .i cG :: .i cQ :: .i th :: .i sl :: .i gn :: .b cl :: .i no :: .i T :: .i S :: .i K :: .i G :: .i Q :: .n l :: .n c :: .i tk :: .i ts :: .i to :: .i told :: .i tnew :: .b td :: .i many :: .ws ws :: [] => .br (decide (T = cT ∧ S = cS ∧ K = cK ∧ G = cG ∧ Q = cQ ∧ 0 = no)) (den (pt_die th sl gn cl T S K G Q l c ⟨ws, many, tk, ts, to, told, tnew, td⟩)) .bad
  | _ => .bad
theorem so_die_st (x : List Atom) (r : Nat × List Atom) (h : (so_die x).get = some r) : (endF (ev sumsF3 60 351) (swIn 4) x).get = some r := by
  unfold so_die at h
  split at h
  · rename_i cT cS cK cG cQ th sl gn cl no T S K G Q l c tk ts to told tnew td many ws
    obtain ⟨hg, h2⟩ := get_br h
    obtain ⟨rfl, rfl, rfl, rfl, rfl, rfl⟩ := of_decide_eq_true hg
    exact cut_get (ct_die th sl gn cl T S K G Q l c ⟨ws, many, tk, ts, to, told, tnew, td⟩) h2
  · cases h
def pt_dead (th : Int) (sl : Int) (gn : Int) (cl : Bool) (w : Int) (T : Int) (S : Int) (K : Int) (G : Int) (Q : Int) (l : Nat) (c : Nat) (s : MS) : PT (Nat × List Atom) := .cs 1 (.b (isW w) (.b (rowB T S K G Q l s) (.b (mok T S K s 4 sl w) (lf 6 T S K G Q th sl gn [] cl [] l c (mswap T S K s 4 sl w (moveI w 6 true)) []) (lf 4 T S K G Q th sl gn [] cl [] l c (mswap T S K s 4 sl w (moveI w 6 true)) [])) .bad) .bad)
theorem ct_dead (th : Int) (sl : Int) (gn : Int) (cl : Bool) (w : Int) (T : Int) (S : Int) (K : Int) (G : Int) (Q : Int) (l : Nat) (c : Nat) (s : MS) : cutP (pt_dead th sl gn cl w T S K G Q l c s) (endF (ev sumsF3 60 351) (swIn 5) [.i T, .i S, .i K, .i G, .i Q, .i th, .i sl, .i gn, .b cl, .i w, .i 0, .i T, .i S, .i K, .i G, .i Q, .n l, .n c, .i s.tk, .i s.ts, .i s.to, .i s.told, .i s.tnew, .b s.td, .i s.many, .ws s.ws]) = den (pt_dead th sl gn cl w T S K G Q l c s) := by kernel_rfl
def so_dead : List Atom → Tree (Nat × List Atom)
  | .i cT :: .i cS :: .i cK :: .i cG :: .i cQ :: .i th :: .i sl :: .i gn :: .b cl :: .i w :: .i no :: .i T :: .i S :: .i K :: .i G :: .i Q :: .n l :: .n c :: .i tk :: .i ts :: .i to :: .i told :: .i tnew :: .b td :: .i many :: .ws ws :: [] => .br (decide (T = cT ∧ S = cS ∧ K = cK ∧ G = cG ∧ Q = cQ ∧ 0 = no)) (den (pt_dead th sl gn cl w T S K G Q l c ⟨ws, many, tk, ts, to, told, tnew, td⟩)) .bad
  | _ => .bad
theorem so_dead_st (x : List Atom) (r : Nat × List Atom) (h : (so_dead x).get = some r) : (endF (ev sumsF3 60 351) (swIn 5) x).get = some r := by
  unfold so_dead at h
  split at h
  · rename_i cT cS cK cG cQ th sl gn cl w no T S K G Q l c tk ts to told tnew td many ws
    obtain ⟨hg, h2⟩ := get_br h
    obtain ⟨rfl, rfl, rfl, rfl, rfl, rfl⟩ := of_decide_eq_true hg
    exact cut_get (ct_dead th sl gn cl w T S K G Q l c ⟨ws, many, tk, ts, to, told, tnew, td⟩) h2
  · cases h
def pt_tick (th : Int) (sl : Int) (gn : Int) (cl : Bool) (T : Int) (S : Int) (K : Int) (G : Int) (Q : Int) (l : Nat) (c : Nat) (s : MS) : PT (Nat × List Atom) := .cs 1 (.b (rowB T S K G Q l s) (lf 7 T S K G Q th sl gn [] cl [.i (mat T S K s 2 0)] l c (madd T S K s 2 0 1) []) .bad)
theorem ct_tick (th : Int) (sl : Int) (gn : Int) (cl : Bool) (T : Int) (S : Int) (K : Int) (G : Int) (Q : Int) (l : Nat) (c : Nat) (s : MS) : cutP (pt_tick th sl gn cl T S K G Q l c s) (endF (ev sumsF3 60 351) (swIn 6) [.i T, .i S, .i K, .i G, .i Q, .i th, .i sl, .i gn, .b cl, .i 0, .i T, .i S, .i K, .i G, .i Q, .n l, .n c, .i s.tk, .i s.ts, .i s.to, .i s.told, .i s.tnew, .b s.td, .i s.many, .ws s.ws]) = den (pt_tick th sl gn cl T S K G Q l c s) := by kernel_rfl
def so_tick : List Atom → Tree (Nat × List Atom)
  | .i cT :: .i cS :: .i cK :: .i cG :: .i cQ :: .i th :: .i sl :: .i gn :: .b cl :: .i no :: .i T :: .i S :: .i K :: .i G :: .i Q :: .n l :: .n c :: .i tk :: .i ts :: .i to :: .i told :: .i tnew :: .b td :: .i many :: .ws ws :: [] => .br (decide (T = cT ∧ S = cS ∧ K = cK ∧ G = cG ∧ Q = cQ ∧ 0 = no)) (den (pt_tick th sl gn cl T S K G Q l c ⟨ws, many, tk, ts, to, told, tnew, td⟩)) .bad
  | _ => .bad
theorem so_tick_st (x : List Atom) (r : Nat × List Atom) (h : (so_tick x).get = some r) : (endF (ev sumsF3 60 351) (swIn 6) x).get = some r := by
  unfold so_tick at h
  split at h
  · rename_i cT cS cK cG cQ th sl gn cl no T S K G Q l c tk ts to told tnew td many ws
    obtain ⟨hg, h2⟩ := get_br h
    obtain ⟨rfl, rfl, rfl, rfl, rfl, rfl⟩ := of_decide_eq_true hg
    exact cut_get (ct_tick th sl gn cl T S K G Q l c ⟨ws, many, tk, ts, to, told, tnew, td⟩) h2
  · cases h
def pt_note (th : Int) (sl : Int) (gn : Int) (cl : Bool) (r : Int) (T : Int) (S : Int) (K : Int) (G : Int) (Q : Int) (l : Nat) (c : Nat) (s : MS) : PT (Nat × List Atom) := .cs 1 (.b (rowB T S K G Q l s) (.b (IntKind.i64.wrap ((-1) + 1) == th) (.cs 8 (.b (decide (IntKind.i64.wrap (IntKind.i64.wrap ((-1) + 1) + 1) ≥ T)) (.b (cl) (lf 17 T S K G Q th sl gn [] cl [] l c (mstore T S K s 7 sl r) []) (.cs 1 (.b (!decide (IntKind.i64.wrap ((-1) + 1) < K)) (lf 12 T S K G Q th sl gn [] cl [] l c (mstore T S K s 7 sl r) []) (lf 10 T S K G Q th sl gn [.i (IntKind.i64.wrap ((-1) + 1))] cl [] l c (mstore T S K s 7 sl r) [.i (IntKind.i64.wrap ((-1) + 1)), .i (-1), .i K])))) (lf 9 T S K G Q th sl gn [] cl [] l c (mstore T S K s 7 sl r) [.i th, .i (IntKind.i64.wrap (IntKind.i64.wrap ((-1) + 1) + 1)), .i r, .b false]))) (.cs 8 (.b (decide (IntKind.i64.wrap ((-1) + 1) ≥ T)) (.b (cl) (lf 17 T S K G Q th sl gn [] cl [] l c (mstore T S K s 7 sl r) []) (.cs 1 (.b (!decide (IntKind.i64.wrap ((-1) + 1) < K)) (lf 12 T S K G Q th sl gn [] cl [] l c (mstore T S K s 7 sl r) []) (lf 10 T S K G Q th sl gn [.i (IntKind.i64.wrap ((-1) + 1))] cl [] l c (mstore T S K s 7 sl r) [.i (IntKind.i64.wrap ((-1) + 1)), .i (-1), .i K])))) (lf 9 T S K G Q th sl gn [] cl [] l c (mstore T S K s 7 sl r) [.i th, .i (IntKind.i64.wrap ((-1) + 1)), .i r, .b false])))) .bad)
theorem ct_note (th : Int) (sl : Int) (gn : Int) (cl : Bool) (r : Int) (T : Int) (S : Int) (K : Int) (G : Int) (Q : Int) (l : Nat) (c : Nat) (s : MS) : cutP (pt_note th sl gn cl r T S K G Q l c s) (endF (ev sumsF3 60 351) (swIn 7) [.i T, .i S, .i K, .i G, .i Q, .i th, .i sl, .i gn, .b cl, .i r, .i 0, .i T, .i S, .i K, .i G, .i Q, .n l, .n c, .i s.tk, .i s.ts, .i s.to, .i s.told, .i s.tnew, .b s.td, .i s.many, .ws s.ws]) = den (pt_note th sl gn cl r T S K G Q l c s) := by kernel_rfl
def so_note : List Atom → Tree (Nat × List Atom)
  | .i cT :: .i cS :: .i cK :: .i cG :: .i cQ :: .i th :: .i sl :: .i gn :: .b cl :: .i r :: .i no :: .i T :: .i S :: .i K :: .i G :: .i Q :: .n l :: .n c :: .i tk :: .i ts :: .i to :: .i told :: .i tnew :: .b td :: .i many :: .ws ws :: [] => .br (decide (T = cT ∧ S = cS ∧ K = cK ∧ G = cG ∧ Q = cQ ∧ 0 = no)) (den (pt_note th sl gn cl r T S K G Q l c ⟨ws, many, tk, ts, to, told, tnew, td⟩)) .bad
  | _ => .bad
theorem so_note_st (x : List Atom) (r : Nat × List Atom) (h : (so_note x).get = some r) : (endF (ev sumsF3 60 351) (swIn 7) x).get = some r := by
  unfold so_note at h
  split at h
  · rename_i cT cS cK cG cQ th sl gn cl r no T S K G Q l c tk ts to told tnew td many ws
    obtain ⟨hg, h2⟩ := get_br h
    obtain ⟨rfl, rfl, rfl, rfl, rfl, rfl⟩ := of_decide_eq_true hg
    exact cut_get (ct_note th sl gn cl r T S K G Q l c ⟨ws, many, tk, ts, to, told, tnew, td⟩) h2
  · cases h
def pt_retired (th : Int) (sl : Int) (gn : Int) (cl : Bool) (T : Int) (S : Int) (K : Int) (G : Int) (Q : Int) (l : Nat) (c : Nat) (s : MS) : PT (Nat × List Atom) := .cs 1 (.b (rowB T S K G Q l s) (.b (IntKind.i64.wrap ((-1) + 1) == th) (.cs 8 (.b (decide (IntKind.i64.wrap (IntKind.i64.wrap ((-1) + 1) + 1) ≥ T)) (.b (cl) (lf 17 T S K G Q th sl gn [] cl [] l c (mload T S K s 7 sl) []) (.cs 1 (.b (!decide (IntKind.i64.wrap ((-1) + 1) < K)) (lf 12 T S K G Q th sl gn [] cl [] l c (mload T S K s 7 sl) []) (lf 10 T S K G Q th sl gn [.i (IntKind.i64.wrap ((-1) + 1))] cl [] l c (mload T S K s 7 sl) [.i (IntKind.i64.wrap ((-1) + 1)), .i (-1), .i K])))) (lf 9 T S K G Q th sl gn [] cl [] l c (mload T S K s 7 sl) [.i th, .i (IntKind.i64.wrap (IntKind.i64.wrap ((-1) + 1) + 1)), .i (mat T S K s 7 sl), .b false]))) (.cs 8 (.b (decide (IntKind.i64.wrap ((-1) + 1) ≥ T)) (.b (cl) (lf 17 T S K G Q th sl gn [] cl [] l c (mload T S K s 7 sl) []) (.cs 1 (.b (!decide (IntKind.i64.wrap ((-1) + 1) < K)) (lf 12 T S K G Q th sl gn [] cl [] l c (mload T S K s 7 sl) []) (lf 10 T S K G Q th sl gn [.i (IntKind.i64.wrap ((-1) + 1))] cl [] l c (mload T S K s 7 sl) [.i (IntKind.i64.wrap ((-1) + 1)), .i (-1), .i K])))) (lf 9 T S K G Q th sl gn [] cl [] l c (mload T S K s 7 sl) [.i th, .i (IntKind.i64.wrap ((-1) + 1)), .i (mat T S K s 7 sl), .b false])))) .bad)
theorem ct_retired (th : Int) (sl : Int) (gn : Int) (cl : Bool) (T : Int) (S : Int) (K : Int) (G : Int) (Q : Int) (l : Nat) (c : Nat) (s : MS) : cutP (pt_retired th sl gn cl T S K G Q l c s) (endF (ev sumsF3 60 351) (swIn 8) [.i T, .i S, .i K, .i G, .i Q, .i th, .i sl, .i gn, .b cl, .i 0, .i T, .i S, .i K, .i G, .i Q, .n l, .n c, .i s.tk, .i s.ts, .i s.to, .i s.told, .i s.tnew, .b s.td, .i s.many, .ws s.ws]) = den (pt_retired th sl gn cl T S K G Q l c s) := by kernel_rfl
def so_retired : List Atom → Tree (Nat × List Atom)
  | .i cT :: .i cS :: .i cK :: .i cG :: .i cQ :: .i th :: .i sl :: .i gn :: .b cl :: .i no :: .i T :: .i S :: .i K :: .i G :: .i Q :: .n l :: .n c :: .i tk :: .i ts :: .i to :: .i told :: .i tnew :: .b td :: .i many :: .ws ws :: [] => .br (decide (T = cT ∧ S = cS ∧ K = cK ∧ G = cG ∧ Q = cQ ∧ 0 = no)) (den (pt_retired th sl gn cl T S K G Q l c ⟨ws, many, tk, ts, to, told, tnew, td⟩)) .bad
  | _ => .bad
theorem so_retired_st (x : List Atom) (r : Nat × List Atom) (h : (so_retired x).get = some r) : (endF (ev sumsF3 60 351) (swIn 8) x).get = some r := by
  unfold so_retired at h
  split at h
  · rename_i cT cS cK cG cQ th sl gn cl no T S K G Q l c tk ts to told tnew td many ws
    obtain ⟨hg, h2⟩ := get_br h
    obtain ⟨rfl, rfl, rfl, rfl, rfl, rfl⟩ := of_decide_eq_true hg
    exact cut_get (ct_retired th sl gn cl T S K G Q l c ⟨ws, many, tk, ts, to, told, tnew, td⟩) h2
  · cases h
def pt_grace (th : Int) (sl : Int) (gn : Int) (cl : Bool) (gat : Int) (gret : Int) (T : Int) (S : Int) (K : Int) (G : Int) (Q : Int) (l : Nat) (c : Nat) (s : MS) : PT (Nat × List Atom) := .cs 9 (.b (decide (gat ≥ T)) (.cs 9 (.b (decide (gat ≥ T)) (.b (cl) (lf 17 T S K G Q th sl gn [] cl [] l c s []) (.cs 1 (.b (!decide (IntKind.i64.wrap ((-1) + 1) < K)) (lf 12 T S K G Q th sl gn [] cl [] l c s []) (lf 10 T S K G Q th sl gn [.i (IntKind.i64.wrap ((-1) + 1))] cl [] l c s [.i (IntKind.i64.wrap ((-1) + 1)), .i (-1), .i K])))) .bad)) (.b (rowB T S K G Q l s) (.b (mat T S K s 3 gat != 0) (.cs 6 (.b (IntKind.i64.wrap (gat + 1) == th) (.b (bif true then decide (IntKind.u64.wrap (mat T S K s 3 gat - 1) ≤ gret) else false) (lf 19 T S K G Q th sl gn [] cl [] l c (mload T S K s 3 gat) [.i sl, .i 0, .i (-1), .b false, .b false]) (.b (bif true then decide (IntKind.u64.wrap (mat T S K s 3 gat - 1) ≤ gret) else false) .bad (.cs 7 (.b (decide (IntKind.i64.wrap (IntKind.i64.wrap (gat + 1) + 1) ≥ T)) (.b (cl) (lf 17 T S K G Q th sl gn [] cl [] l c (mload T S K s 3 gat) []) (.cs 1 (.b (!decide (IntKind.i64.wrap ((-1) + 1) < K)) (lf 12 T S K G Q th sl gn [] cl [] l c (mload T S K s 3 gat) []) (lf 10 T S K G Q th sl gn [.i (IntKind.i64.wrap ((-1) + 1))] cl [] l c (mload T S K s 3 gat) [.i (IntKind.i64.wrap ((-1) + 1)), .i (-1), .i K])))) (lf 9 T S K G Q th sl gn [] cl [] l c (mload T S K s 3 gat) [.i th, .i (IntKind.i64.wrap (IntKind.i64.wrap (gat + 1) + 1)), .i gret, .b (bif true then decide (IntKind.u64.wrap (mat T S K s 3 gat - 1) ≤ gret) else false)]))))) (.b (bif true then decide (IntKind.u64.wrap (mat T S K s 3 gat - 1) ≤ gret) else false) (lf 19 T S K G Q th sl gn [] cl [] l c (mload T S K s 3 gat) [.i sl, .i 0, .i (-1), .b false, .b false]) (.b (bif true then decide (IntKind.u64.wrap (mat T S K s 3 gat - 1) ≤ gret) else false) .bad (.cs 7 (.b (decide (IntKind.i64.wrap (gat + 1) ≥ T)) (.b (cl) (lf 17 T S K G Q th sl gn [] cl [] l c (mload T S K s 3 gat) []) (.cs 1 (.b (!decide (IntKind.i64.wrap ((-1) + 1) < K)) (lf 12 T S K G Q th sl gn [] cl [] l c (mload T S K s 3 gat) []) (lf 10 T S K G Q th sl gn [.i (IntKind.i64.wrap ((-1) + 1))] cl [] l c (mload T S K s 3 gat) [.i (IntKind.i64.wrap ((-1) + 1)), .i (-1), .i K])))) (lf 9 T S K G Q th sl gn [] cl [] l c (mload T S K s 3 gat) [.i th, .i (IntKind.i64.wrap (gat + 1)), .i gret, .b (bif true then decide (IntKind.u64.wrap (mat T S K s 3 gat - 1) ≤ gret) else false)]))))))) (.cs 7 (.b (IntKind.i64.wrap (gat + 1) == th) (.cs 9 (.b (decide (IntKind.i64.wrap (IntKind.i64.wrap (gat + 1) + 1) ≥ T)) (.b (cl) (lf 17 T S K G Q th sl gn [] cl [] l c (mload T S K s 3 gat) []) (.cs 1 (.b (!decide (IntKind.i64.wrap ((-1) + 1) < K)) (lf 12 T S K G Q th sl gn [] cl [] l c (mload T S K s 3 gat) []) (lf 10 T S K G Q th sl gn [.i (IntKind.i64.wrap ((-1) + 1))] cl [] l c (mload T S K s 3 gat) [.i (IntKind.i64.wrap ((-1) + 1)), .i (-1), .i K])))) (lf 9 T S K G Q th sl gn [] cl [] l c (mload T S K s 3 gat) [.i th, .i (IntKind.i64.wrap (IntKind.i64.wrap (gat + 1) + 1)), .i gret, .b false]))) (.cs 9 (.b (decide (IntKind.i64.wrap (gat + 1) ≥ T)) (.b (cl) (lf 17 T S K G Q th sl gn [] cl [] l c (mload T S K s 3 gat) []) (.cs 1 (.b (!decide (IntKind.i64.wrap ((-1) + 1) < K)) (lf 12 T S K G Q th sl gn [] cl [] l c (mload T S K s 3 gat) []) (lf 10 T S K G Q th sl gn [.i (IntKind.i64.wrap ((-1) + 1))] cl [] l c (mload T S K s 3 gat) [.i (IntKind.i64.wrap ((-1) + 1)), .i (-1), .i K])))) (lf 9 T S K G Q th sl gn [] cl [] l c (mload T S K s 3 gat) [.i th, .i (IntKind.i64.wrap (gat + 1)), .i gret, .b false])))))) .bad))
theorem ct_grace (th : Int) (sl : Int) (gn : Int) (cl : Bool) (gat : Int) (gret : Int) (T : Int) (S : Int) (K : Int) (G : Int) (Q : Int) (l : Nat) (c : Nat) (s : MS) : cutP (pt_grace th sl gn cl gat gret T S K G Q l c s) (endF (ev sumsF3 60 351) (swIn 9) [.i T, .i S, .i K, .i G, .i Q, .i th, .i sl, .i gn, .b cl, .i 0, .i th, .i gat, .i gret, .b false, .i T, .i S, .i K, .i G, .i Q, .n l, .n c, .i s.tk, .i s.ts, .i s.to, .i s.told, .i s.tnew, .b s.td, .i s.many, .ws s.ws]) = den (pt_grace th sl gn cl gat gret T S K G Q l c s) := by kernel_rfl
def so_grace : List Atom → Tree (Nat × List Atom)
  | .i cT :: .i cS :: .i cK :: .i cG :: .i cQ :: .i th :: .i sl :: .i gn :: .b cl :: .i no :: .i gown :: .i gat :: .i gret :: .b glater :: .i T :: .i S :: .i K :: .i G :: .i Q :: .n l :: .n c :: .i tk :: .i ts :: .i to :: .i told :: .i tnew :: .b td :: .i many :: .ws ws :: [] => .br (decide (T = cT ∧ S = cS ∧ K = cK ∧ G = cG ∧ Q = cQ ∧ 0 = no ∧ th = gown ∧ false = glater)) (den (pt_grace th sl gn cl gat gret T S K G Q l c ⟨ws, many, tk, ts, to, told, tnew, td⟩)) .bad
  | _ => .bad
theorem so_grace_st (x : List Atom) (r : Nat × List Atom) (h : (so_grace x).get = some r) : (endF (ev sumsF3 60 351) (swIn 9) x).get = some r := by
  unfold so_grace at h
  split at h
  · rename_i cT cS cK cG cQ th sl gn cl no gown gat gret glater T S K G Q l c tk ts to told tnew td many ws
    obtain ⟨hg, h2⟩ := get_br h
    obtain ⟨rfl, rfl, rfl, rfl, rfl, rfl, rfl, rfl⟩ := of_decide_eq_true hg
    exact cut_get (ct_grace th sl gn cl gat gret T S K G Q l c ⟨ws, many, tk, ts, to, told, tnew, td⟩) h2
  · cases h
def pt_keys (th : Int) (sl : Int) (gn : Int) (a : Int) (cl : Bool) (T : Int) (S : Int) (K : Int) (G : Int) (Q : Int) (l : Nat) (c : Nat) (s : MS) : PT (Nat × List Atom) := .cs 1 (.b (rowB T S K G Q l s) (.b (isW (mat T S K s 8 a) && decide (0 ≤ sl ∧ sl ≤ 11)) (.b (dropM (mat T S K s 8 a) sl == mat T S K s 8 a) (.b (IntKind.i64.wrap (a + 1) == (-1)) (.b (!decide (IntKind.i64.wrap (IntKind.i64.wrap (a + 1) + 1) < K)) (lf 12 T S K G Q th sl gn [] cl [] l c (mload T S K s 8 a) []) (lf 10 T S K G Q th sl gn [.i (IntKind.i64.wrap (IntKind.i64.wrap (a + 1) + 1))] cl [] l c (mload T S K s 8 a) [.i (IntKind.i64.wrap (IntKind.i64.wrap (a + 1) + 1)), .i (-1), .i K])) (.b (!decide (IntKind.i64.wrap (a + 1) < K)) (lf 12 T S K G Q th sl gn [] cl [] l c (mload T S K s 8 a) []) (lf 10 T S K G Q th sl gn [.i (IntKind.i64.wrap (a + 1))] cl [] l c (mload T S K s 8 a) [.i (IntKind.i64.wrap (a + 1)), .i (-1), .i K]))) (lf 11 T S K G Q th sl gn [.i a] cl [.i (mat T S K s 8 a)] l c (mload T S K s 8 a) [.i a, .i (-1), .i K])) .bad) .bad)
theorem ct_keys (th : Int) (sl : Int) (gn : Int) (a : Int) (cl : Bool) (T : Int) (S : Int) (K : Int) (G : Int) (Q : Int) (l : Nat) (c : Nat) (s : MS) : cutP (pt_keys th sl gn a cl T S K G Q l c s) (endF (ev sumsF3 60 351) (swIn 10) [.i T, .i S, .i K, .i G, .i Q, .i th, .i sl, .i gn, .i a, .b cl, .i 0, .i a, .i (-1), .i K, .i T, .i S, .i K, .i G, .i Q, .n l, .n c, .i s.tk, .i s.ts, .i s.to, .i s.told, .i s.tnew, .b s.td, .i s.many, .ws s.ws]) = den (pt_keys th sl gn a cl T S K G Q l c s) := by kernel_rfl
def so_keys : List Atom → Tree (Nat × List Atom)
  | .i cT :: .i cS :: .i cK :: .i cG :: .i cQ :: .i th :: .i sl :: .i gn :: .i a :: .b cl :: .i no :: .i cn :: .i cbut :: .i cbelow :: .i T :: .i S :: .i K :: .i G :: .i Q :: .n l :: .n c :: .i tk :: .i ts :: .i to :: .i told :: .i tnew :: .b td :: .i many :: .ws ws :: [] => .br (decide (T = cT ∧ S = cS ∧ K = cK ∧ G = cG ∧ Q = cQ ∧ 0 = no ∧ a = cn ∧ (-1) = cbut ∧ K = cbelow)) (den (pt_keys th sl gn a cl T S K G Q l c ⟨ws, many, tk, ts, to, told, tnew, td⟩)) .bad
  | _ => .bad
theorem so_keys_st (x : List Atom) (r : Nat × List Atom) (h : (so_keys x).get = some r) : (endF (ev sumsF3 60 351) (swIn 10) x).get = some r := by
  unfold so_keys at h
  split at h
  · rename_i cT cS cK cG cQ th sl gn a cl no cn cbut cbelow T S K G Q l c tk ts to told tnew td many ws
    obtain ⟨hg, h2⟩ := get_br h
    obtain ⟨rfl, rfl, rfl, rfl, rfl, rfl, rfl, rfl, rfl⟩ := of_decide_eq_true hg
    exact cut_get (ct_keys th sl gn a cl T S K G Q l c ⟨ws, many, tk, ts, to, told, tnew, td⟩) h2
  · cases h
def pt_unmark (th : Int) (sl : Int) (gn : Int) (a : Int) (cl : Bool) (w : Int) (T : Int) (S : Int) (K : Int) (G : Int) (Q : Int) (l : Nat) (c : Nat) (s : MS) : PT (Nat × List Atom) := .cs 1 (.b (isW w && decide (0 ≤ sl ∧ sl ≤ 11)) (.b (rowB T S K G Q l s) (.b (mok T S K s 8 a w) (.b (IntKind.i64.wrap (a + 1) == (-1)) (.b (!decide (IntKind.i64.wrap (IntKind.i64.wrap (a + 1) + 1) < K)) (lf 12 T S K G Q th sl gn [] cl [] l c (mswap T S K s 8 a w (dropM w sl)) []) (lf 10 T S K G Q th sl gn [.i (IntKind.i64.wrap (IntKind.i64.wrap (a + 1) + 1))] cl [] l c (mswap T S K s 8 a w (dropM w sl)) [.i (IntKind.i64.wrap (IntKind.i64.wrap (a + 1) + 1)), .i (-1), .i K])) (.b (!decide (IntKind.i64.wrap (a + 1) < K)) (lf 12 T S K G Q th sl gn [] cl [] l c (mswap T S K s 8 a w (dropM w sl)) []) (lf 10 T S K G Q th sl gn [.i (IntKind.i64.wrap (a + 1))] cl [] l c (mswap T S K s 8 a w (dropM w sl)) [.i (IntKind.i64.wrap (a + 1)), .i (-1), .i K]))) (lf 10 T S K G Q th sl gn [.i a] cl [] l c (mswap T S K s 8 a w (dropM w sl)) [.i a, .i (-1), .i K])) .bad) .bad)
theorem ct_unmark (th : Int) (sl : Int) (gn : Int) (a : Int) (cl : Bool) (w : Int) (T : Int) (S : Int) (K : Int) (G : Int) (Q : Int) (l : Nat) (c : Nat) (s : MS) : cutP (pt_unmark th sl gn a cl w T S K G Q l c s) (endF (ev sumsF3 60 351) (swIn 11) [.i T, .i S, .i K, .i G, .i Q, .i th, .i sl, .i gn, .i a, .b cl, .i w, .i 0, .i a, .i (-1), .i K, .i T, .i S, .i K, .i G, .i Q, .n l, .n c, .i s.tk, .i s.ts, .i s.to, .i s.told, .i s.tnew, .b s.td, .i s.many, .ws s.ws]) = den (pt_unmark th sl gn a cl w T S K G Q l c s) := by kernel_rfl
def so_unmark : List Atom → Tree (Nat × List Atom)
  | .i cT :: .i cS :: .i cK :: .i cG :: .i cQ :: .i th :: .i sl :: .i gn :: .i a :: .b cl :: .i w :: .i no :: .i cn :: .i cbut :: .i cbelow :: .i T :: .i S :: .i K :: .i G :: .i Q :: .n l :: .n c :: .i tk :: .i ts :: .i to :: .i told :: .i tnew :: .b td :: .i many :: .ws ws :: [] => .br (decide (T = cT ∧ S = cS ∧ K = cK ∧ G = cG ∧ Q = cQ ∧ 0 = no ∧ a = cn ∧ (-1) = cbut ∧ K = cbelow)) (den (pt_unmark th sl gn a cl w T S K G Q l c ⟨ws, many, tk, ts, to, told, tnew, td⟩)) .bad
  | _ => .bad
theorem so_unmark_st (x : List Atom) (r : Nat × List Atom) (h : (so_unmark x).get = some r) : (endF (ev sumsF3 60 351) (swIn 11) x).get = some r := by
  unfold so_unmark at h
  split at h
  · rename_i cT cS cK cG cQ th sl gn a cl w no cn cbut cbelow T S K G Q l c tk ts to told tnew td many ws
    obtain ⟨hg, h2⟩ := get_br h
    obtain ⟨rfl, rfl, rfl, rfl, rfl, rfl, rfl, rfl, rfl⟩ := of_decide_eq_true hg
    exact cut_get (ct_unmark th sl gn a cl w T S K G Q l c ⟨ws, many, tk, ts, to, told, tnew, td⟩) h2
  · cases h
def pt_past (th : Int) (sl : Int) (gn : Int) (cl : Bool) (T : Int) (S : Int) (K : Int) (G : Int) (Q : Int) (l : Nat) (c : Nat) (s : MS) : PT (Nat × List Atom) := .cs 1 (.b (rowB T S K G Q l s) (.b (IntKind.i64.wrap ((-1) + 1) == sl) (.b (!decide (IntKind.i64.wrap (IntKind.i64.wrap ((-1) + 1) + 1) < S)) (lf 15 T S K G Q th sl gn [] cl [] l c (mload T S K s 6 sl) []) (lf 13 T S K G Q th sl gn [.i (IntKind.i64.wrap (IntKind.i64.wrap ((-1) + 1) + 1))] cl [.i (mat T S K s 6 sl)] l c (mload T S K s 6 sl) [.i (IntKind.i64.wrap (IntKind.i64.wrap ((-1) + 1) + 1)), .i sl, .i S])) (.b (!decide (IntKind.i64.wrap ((-1) + 1) < S)) (lf 15 T S K G Q th sl gn [] cl [] l c (mload T S K s 6 sl) []) (lf 13 T S K G Q th sl gn [.i (IntKind.i64.wrap ((-1) + 1))] cl [.i (mat T S K s 6 sl)] l c (mload T S K s 6 sl) [.i (IntKind.i64.wrap ((-1) + 1)), .i sl, .i S]))) .bad)
theorem ct_past (th : Int) (sl : Int) (gn : Int) (cl : Bool) (T : Int) (S : Int) (K : Int) (G : Int) (Q : Int) (l : Nat) (c : Nat) (s : MS) : cutP (pt_past th sl gn cl T S K G Q l c s) (endF (ev sumsF3 60 351) (swIn 12) [.i T, .i S, .i K, .i G, .i Q, .i th, .i sl, .i gn, .b cl, .i 0, .i T, .i S, .i K, .i G, .i Q, .n l, .n c, .i s.tk, .i s.ts, .i s.to, .i s.told, .i s.tnew, .b s.td, .i s.many, .ws s.ws]) = den (pt_past th sl gn cl T S K G Q l c s) := by kernel_rfl
def so_past : List Atom → Tree (Nat × List Atom)
  | .i cT :: .i cS :: .i cK :: .i cG :: .i cQ :: .i th :: .i sl :: .i gn :: .b cl :: .i no :: .i T :: .i S :: .i K :: .i G :: .i Q :: .n l :: .n c :: .i tk :: .i ts :: .i to :: .i told :: .i tnew :: .b td :: .i many :: .ws ws :: [] => .br (decide (T = cT ∧ S = cS ∧ K = cK ∧ G = cG ∧ Q = cQ ∧ 0 = no)) (den (pt_past th sl gn cl T S K G Q l c ⟨ws, many, tk, ts, to, told, tnew, td⟩)) .bad
  | _ => .bad
theorem so_past_st (x : List Atom) (r : Nat × List Atom) (h : (so_past x).get = some r) : (endF (ev sumsF3 60 351) (swIn 12) x).get = some r := by
  unfold so_past at h
  split at h
  · rename_i cT cS cK cG cQ th sl gn cl no T S K G Q l c tk ts to told tnew td many ws
    obtain ⟨hg, h2⟩ := get_br h
    obtain ⟨rfl, rfl, rfl, rfl, rfl, rfl⟩ := of_decide_eq_true hg
    exact cut_get (ct_past th sl gn cl T S K G Q l c ⟨ws, many, tk, ts, to, told, tnew, td⟩) h2
  · cases h
def pt_others (th : Int) (sl : Int) (gn : Int) (a : Int) (cl : Bool) (n : Int) (T : Int) (S : Int) (K : Int) (G : Int) (Q : Int) (l : Nat) (c : Nat) (s : MS) : PT (Nat × List Atom) := .cs 1 (.b (rowB T S K G Q l s) (.b (isW (mat T S K s 4 a) && decide (0 ≤ sl ∧ sl ≤ 11)) (.b (dropW (mat T S K s 4 a) sl (n != 0) == mat T S K s 4 a) (.b (IntKind.i64.wrap (a + 1) == sl) (.b (!decide (IntKind.i64.wrap (IntKind.i64.wrap (a + 1) + 1) < S)) (lf 15 T S K G Q th sl gn [] cl [] l c (mload T S K s 4 a) []) (lf 13 T S K G Q th sl gn [.i (IntKind.i64.wrap (IntKind.i64.wrap (a + 1) + 1))] cl [.i n] l c (mload T S K s 4 a) [.i (IntKind.i64.wrap (IntKind.i64.wrap (a + 1) + 1)), .i sl, .i S])) (.b (!decide (IntKind.i64.wrap (a + 1) < S)) (lf 15 T S K G Q th sl gn [] cl [] l c (mload T S K s 4 a) []) (lf 13 T S K G Q th sl gn [.i (IntKind.i64.wrap (a + 1))] cl [.i n] l c (mload T S K s 4 a) [.i (IntKind.i64.wrap (a + 1)), .i sl, .i S]))) (lf 14 T S K G Q th sl gn [.i a] cl [.i (mat T S K s 4 a), .i n] l c (mload T S K s 4 a) [.i a, .i sl, .i S])) .bad) .bad)
theorem ct_others (th : Int) (sl : Int) (gn : Int) (a : Int) (cl : Bool) (n : Int) (T : Int) (S : Int) (K : Int) (G : Int) (Q : Int) (l : Nat) (c : Nat) (s : MS) : cutP (pt_others th sl gn a cl n T S K G Q l c s) (endF (ev sumsF3 60 351) (swIn 13) [.i T, .i S, .i K, .i G, .i Q, .i th, .i sl, .i gn, .i a, .b cl, .i n, .i 0, .i a, .i sl, .i S, .i T, .i S, .i K, .i G, .i Q, .n l, .n c, .i s.tk, .i s.ts, .i s.to, .i s.told, .i s.tnew, .b s.td, .i s.many, .ws s.ws]) = den (pt_others th sl gn a cl n T S K G Q l c s) := by kernel_rfl
def so_others : List Atom → Tree (Nat × List Atom)
  | .i cT :: .i cS :: .i cK :: .i cG :: .i cQ :: .i th :: .i sl :: .i gn :: .i a :: .b cl :: .i n :: .i no :: .i cn :: .i cbut :: .i cbelow :: .i T :: .i S :: .i K :: .i G :: .i Q :: .n l :: .n c :: .i tk :: .i ts :: .i to :: .i told :: .i tnew :: .b td :: .i many :: .ws ws :: [] => .br (decide (T = cT ∧ S = cS ∧ K = cK ∧ G = cG ∧ Q = cQ ∧ 0 = no ∧ a = cn ∧ sl = cbut ∧ S = cbelow)) (den (pt_others th sl gn a cl n T S K G Q l c ⟨ws, many, tk, ts, to, told, tnew, td⟩)) .bad
  | _ => .bad
theorem so_others_st (x : List Atom) (r : Nat × List Atom) (h : (so_others x).get = some r) : (endF (ev sumsF3 60 351) (swIn 13) x).get = some r := by
  unfold so_others at h
  split at h
  · rename_i cT cS cK cG cQ th sl gn a cl n no cn cbut cbelow T S K G Q l c tk ts to told tnew td many ws
    obtain ⟨hg, h2⟩ := get_br h
    obtain ⟨rfl, rfl, rfl, rfl, rfl, rfl, rfl, rfl, rfl⟩ := of_decide_eq_true hg
    exact cut_get (ct_others th sl gn a cl n T S K G Q l c ⟨ws, many, tk, ts, to, told, tnew, td⟩) h2
  · cases h
def pt_part (th : Int) (sl : Int) (gn : Int) (a : Int) (cl : Bool) (w : Int) (n : Int) (T : Int) (S : Int) (K : Int) (G : Int) (Q : Int) (l : Nat) (c : Nat) (s : MS) : PT (Nat × List Atom) := .cs 1 (.b (isW w && decide (0 ≤ sl ∧ sl ≤ 11)) (.b (rowB T S K G Q l s) (.b (mok T S K s 4 a w) (.b (IntKind.i64.wrap (a + 1) == sl) (.b (!decide (IntKind.i64.wrap (IntKind.i64.wrap (a + 1) + 1) < S)) (lf 15 T S K G Q th sl gn [] cl [] l c (mswap T S K s 4 a w (dropW w sl (n != 0))) []) (lf 13 T S K G Q th sl gn [.i (IntKind.i64.wrap (IntKind.i64.wrap (a + 1) + 1))] cl [.i n] l c (mswap T S K s 4 a w (dropW w sl (n != 0))) [.i (IntKind.i64.wrap (IntKind.i64.wrap (a + 1) + 1)), .i sl, .i S])) (.b (!decide (IntKind.i64.wrap (a + 1) < S)) (lf 15 T S K G Q th sl gn [] cl [] l c (mswap T S K s 4 a w (dropW w sl (n != 0))) []) (lf 13 T S K G Q th sl gn [.i (IntKind.i64.wrap (a + 1))] cl [.i n] l c (mswap T S K s 4 a w (dropW w sl (n != 0))) [.i (IntKind.i64.wrap (a + 1)), .i sl, .i S]))) (lf 13 T S K G Q th sl gn [.i a] cl [.i n] l c (mswap T S K s 4 a w (dropW w sl (n != 0))) [.i a, .i sl, .i S])) .bad) .bad)
theorem ct_part (th : Int) (sl : Int) (gn : Int) (a : Int) (cl : Bool) (w : Int) (n : Int) (T : Int) (S : Int) (K : Int) (G : Int) (Q : Int) (l : Nat) (c : Nat) (s : MS) : cutP (pt_part th sl gn a cl w n T S K G Q l c s) (endF (ev sumsF3 60 351) (swIn 14) [.i T, .i S, .i K, .i G, .i Q, .i th, .i sl, .i gn, .i a, .b cl, .i w, .i n, .i 0, .i a, .i sl, .i S, .i T, .i S, .i K, .i G, .i Q, .n l, .n c, .i s.tk, .i s.ts, .i s.to, .i s.told, .i s.tnew, .b s.td, .i s.many, .ws s.ws]) = den (pt_part th sl gn a cl w n T S K G Q l c s) := by kernel_rfl
def so_part : List Atom → Tree (Nat × List Atom)
  | .i cT :: .i cS :: .i cK :: .i cG :: .i cQ :: .i th :: .i sl :: .i gn :: .i a :: .b cl :: .i w :: .i n :: .i no :: .i cn :: .i cbut :: .i cbelow :: .i T :: .i S :: .i K :: .i G :: .i Q :: .n l :: .n c :: .i tk :: .i ts :: .i to :: .i told :: .i tnew :: .b td :: .i many :: .ws ws :: [] => .br (decide (T = cT ∧ S = cS ∧ K = cK ∧ G = cG ∧ Q = cQ ∧ 0 = no ∧ a = cn ∧ sl = cbut ∧ S = cbelow)) (den (pt_part th sl gn a cl w n T S K G Q l c ⟨ws, many, tk, ts, to, told, tnew, td⟩)) .bad
  | _ => .bad
theorem so_part_st (x : List Atom) (r : Nat × List Atom) (h : (so_part x).get = some r) : (endF (ev sumsF3 60 351) (swIn 14) x).get = some r := by
  unfold so_part at h
  split at h
  · rename_i cT cS cK cG cQ th sl gn a cl w n no cn cbut cbelow T S K G Q l c tk ts to told tnew td many ws
    obtain ⟨hg, h2⟩ := get_br h
    obtain ⟨rfl, rfl, rfl, rfl, rfl, rfl, rfl, rfl, rfl⟩ := of_decide_eq_true hg
    exact cut_get (ct_part th sl gn a cl w n T S K G Q l c ⟨ws, many, tk, ts, to, told, tnew, td⟩) h2
  · cases h
def pt_close (th : Int) (sl : Int) (gn : Int) (cl : Bool) (T : Int) (S : Int) (K : Int) (G : Int) (Q : Int) (l : Nat) (c : Nat) (s : MS) : PT (Nat × List Atom) := .cs 1 (.b (rowB T S K G Q l s) (lf 16 T S K G Q th sl gn [] cl [.i (mat T S K s 4 sl)] l c (mload T S K s 4 sl) []) .bad)
theorem ct_close (th : Int) (sl : Int) (gn : Int) (cl : Bool) (T : Int) (S : Int) (K : Int) (G : Int) (Q : Int) (l : Nat) (c : Nat) (s : MS) : cutP (pt_close th sl gn cl T S K G Q l c s) (endF (ev sumsF3 60 351) (swIn 15) [.i T, .i S, .i K, .i G, .i Q, .i th, .i sl, .i gn, .b cl, .i 0, .i T, .i S, .i K, .i G, .i Q, .n l, .n c, .i s.tk, .i s.ts, .i s.to, .i s.told, .i s.tnew, .b s.td, .i s.many, .ws s.ws]) = den (pt_close th sl gn cl T S K G Q l c s) := by kernel_rfl
def so_close : List Atom → Tree (Nat × List Atom)
  | .i cT :: .i cS :: .i cK :: .i cG :: .i cQ :: .i th :: .i sl :: .i gn :: .b cl :: .i no :: .i T :: .i S :: .i K :: .i G :: .i Q :: .n l :: .n c :: .i tk :: .i ts :: .i to :: .i told :: .i tnew :: .b td :: .i many :: .ws ws :: [] => .br (decide (T = cT ∧ S = cS ∧ K = cK ∧ G = cG ∧ Q = cQ ∧ 0 = no)) (den (pt_close th sl gn cl T S K G Q l c ⟨ws, many, tk, ts, to, told, tnew, td⟩)) .bad
  | _ => .bad
theorem so_close_st (x : List Atom) (r : Nat × List Atom) (h : (so_close x).get = some r) : (endF (ev sumsF3 60 351) (swIn 15) x).get = some r := by
  unfold so_close at h
  split at h
  · rename_i cT cS cK cG cQ th sl gn cl no T S K G Q l c tk ts to told tnew td many ws
    obtain ⟨hg, h2⟩ := get_br h
    obtain ⟨rfl, rfl, rfl, rfl, rfl, rfl⟩ := of_decide_eq_true hg
    exact cut_get (ct_close th sl gn cl T S K G Q l c ⟨ws, many, tk, ts, to, told, tnew, td⟩) h2
  · cases h
def pt_closed (th : Int) (sl : Int) (gn : Int) (cl : Bool) (w : Int) (T : Int) (S : Int) (K : Int) (G : Int) (Q : Int) (l : Nat) (c : Nat) (s : MS) : PT (Nat × List Atom) := .cs 1 (.b (isW w) (.b (rowB T S K G Q l s) (.b (mok T S K s 4 sl w) (lf 6 T S K G Q th sl gn [] true [] l c (mswap T S K s 4 sl w (moveI w 7 true)) []) (lf 15 T S K G Q th sl gn [] cl [] l c (mswap T S K s 4 sl w (moveI w 7 true)) [])) .bad) .bad)
theorem ct_closed (th : Int) (sl : Int) (gn : Int) (cl : Bool) (w : Int) (T : Int) (S : Int) (K : Int) (G : Int) (Q : Int) (l : Nat) (c : Nat) (s : MS) : cutP (pt_closed th sl gn cl w T S K G Q l c s) (endF (ev sumsF3 60 351) (swIn 16) [.i T, .i S, .i K, .i G, .i Q, .i th, .i sl, .i gn, .b cl, .i w, .i 0, .i T, .i S, .i K, .i G, .i Q, .n l, .n c, .i s.tk, .i s.ts, .i s.to, .i s.told, .i s.tnew, .b s.td, .i s.many, .ws s.ws]) = den (pt_closed th sl gn cl w T S K G Q l c s) := by kernel_rfl
def so_closed : List Atom → Tree (Nat × List Atom)
  | .i cT :: .i cS :: .i cK :: .i cG :: .i cQ :: .i th :: .i sl :: .i gn :: .b cl :: .i w :: .i no :: .i T :: .i S :: .i K :: .i G :: .i Q :: .n l :: .n c :: .i tk :: .i ts :: .i to :: .i told :: .i tnew :: .b td :: .i many :: .ws ws :: [] => .br (decide (T = cT ∧ S = cS ∧ K = cK ∧ G = cG ∧ Q = cQ ∧ 0 = no)) (den (pt_closed th sl gn cl w T S K G Q l c ⟨ws, many, tk, ts, to, told, tnew, td⟩)) .bad
  | _ => .bad
theorem so_closed_st (x : List Atom) (r : Nat × List Atom) (h : (so_closed x).get = some r) : (endF (ev sumsF3 60 351) (swIn 16) x).get = some r := by
  unfold so_closed at h
  split at h
  · rename_i cT cS cK cG cQ th sl gn cl w no T S K G Q l c tk ts to told tnew td many ws
    obtain ⟨hg, h2⟩ := get_br h
    obtain ⟨rfl, rfl, rfl, rfl, rfl, rfl⟩ := of_decide_eq_true hg
    exact cut_get (ct_closed th sl gn cl w T S K G Q l c ⟨ws, many, tk, ts, to, told, tnew, td⟩) h2
  · cases h
def pt_nought (th : Int) (sl : Int) (gn : Int) (cl : Bool) (T : Int) (S : Int) (K : Int) (G : Int) (Q : Int) (l : Nat) (c : Nat) (s : MS) : PT (Nat × List Atom) := .cs 1 (.b (rowB T S K G Q l s) (lf 18 T S K G Q th sl gn [] cl [] l c (mstore T S K s 6 sl 0) []) .bad)
theorem ct_nought (th : Int) (sl : Int) (gn : Int) (cl : Bool) (T : Int) (S : Int) (K : Int) (G : Int) (Q : Int) (l : Nat) (c : Nat) (s : MS) : cutP (pt_nought th sl gn cl T S K G Q l c s) (endF (ev sumsF3 60 351) (swIn 17) [.i T, .i S, .i K, .i G, .i Q, .i th, .i sl, .i gn, .b cl, .i 0, .i T, .i S, .i K, .i G, .i Q, .n l, .n c, .i s.tk, .i s.ts, .i s.to, .i s.told, .i s.tnew, .b s.td, .i s.many, .ws s.ws]) = den (pt_nought th sl gn cl T S K G Q l c s) := by kernel_rfl
def so_nought : List Atom → Tree (Nat × List Atom)
  | .i cT :: .i cS :: .i cK :: .i cG :: .i cQ :: .i th :: .i sl :: .i gn :: .b cl :: .i no :: .i T :: .i S :: .i K :: .i G :: .i Q :: .n l :: .n c :: .i tk :: .i ts :: .i to :: .i told :: .i tnew :: .b td :: .i many :: .ws ws :: [] => .br (decide (T = cT ∧ S = cS ∧ K = cK ∧ G = cG ∧ Q = cQ ∧ 0 = no)) (den (pt_nought th sl gn cl T S K G Q l c ⟨ws, many, tk, ts, to, told, tnew, td⟩)) .bad
  | _ => .bad
theorem so_nought_st (x : List Atom) (r : Nat × List Atom) (h : (so_nought x).get = some r) : (endF (ev sumsF3 60 351) (swIn 17) x).get = some r := by
  unfold so_nought at h
  split at h
  · rename_i cT cS cK cG cQ th sl gn cl no T S K G Q l c tk ts to told tnew td many ws
    obtain ⟨hg, h2⟩ := get_br h
    obtain ⟨rfl, rfl, rfl, rfl, rfl, rfl⟩ := of_decide_eq_true hg
    exact cut_get (ct_nought th sl gn cl T S K G Q l c ⟨ws, many, tk, ts, to, told, tnew, td⟩) h2
  · cases h
def pt_free (th : Int) (sl : Int) (gn : Int) (cl : Bool) (T : Int) (S : Int) (K : Int) (G : Int) (Q : Int) (l : Nat) (c : Nat) (s : MS) : PT (Nat × List Atom) := .cs 1 (.b (decide ((0 : Int) ≤ 0 ∧ (0 : Int) ≤ 7 ∧ 0 ≤ IntKind.i64.wrap (gn + 1) ∧ IntKind.i64.wrap (gn + 1) ≤ 1073741824)) (.b (rowB T S K G Q l s) (.leaf (20, .i 0 :: mA T S K G Q l c (mstore T S K s 4 sl (newI 0 (IntKind.i64.wrap (gn + 1)))))) .bad) .bad)
theorem ct_free (th : Int) (sl : Int) (gn : Int) (cl : Bool) (T : Int) (S : Int) (K : Int) (G : Int) (Q : Int) (l : Nat) (c : Nat) (s : MS) : cutP (pt_free th sl gn cl T S K G Q l c s) (endF (ev sumsF3 60 351) (swIn 18) [.i T, .i S, .i K, .i G, .i Q, .i th, .i sl, .i gn, .b cl, .i 0, .i T, .i S, .i K, .i G, .i Q, .n l, .n c, .i s.tk, .i s.ts, .i s.to, .i s.told, .i s.tnew, .b s.td, .i s.many, .ws s.ws]) = den (pt_free th sl gn cl T S K G Q l c s) := by kernel_rfl
def so_free : List Atom → Tree (Nat × List Atom)
  | .i cT :: .i cS :: .i cK :: .i cG :: .i cQ :: .i th :: .i sl :: .i gn :: .b cl :: .i no :: .i T :: .i S :: .i K :: .i G :: .i Q :: .n l :: .n c :: .i tk :: .i ts :: .i to :: .i told :: .i tnew :: .b td :: .i many :: .ws ws :: [] => .br (decide (T = cT ∧ S = cS ∧ K = cK ∧ G = cG ∧ Q = cQ ∧ 0 = no)) (den (pt_free th sl gn cl T S K G Q l c ⟨ws, many, tk, ts, to, told, tnew, td⟩)) .bad
  | _ => .bad
theorem so_free_st (x : List Atom) (r : Nat × List Atom) (h : (so_free x).get = some r) : (endF (ev sumsF3 60 351) (swIn 18) x).get = some r := by
  unfold so_free at h
  split at h
  · rename_i cT cS cK cG cQ th sl gn cl no T S K G Q l c tk ts to told tnew td many ws
    obtain ⟨hg, h2⟩ := get_br h
    obtain ⟨rfl, rfl, rfl, rfl, rfl, rfl⟩ := of_decide_eq_true hg
    exact cut_get (ct_free th sl gn cl T S K G Q l c ⟨ws, many, tk, ts, to, told, tnew, td⟩) h2
  · cases h
def pt_later (th : Int) (sl : Int) (gn : Int) (cl : Bool) (ls : Int) (llooked : Bool) (T : Int) (S : Int) (K : Int) (G : Int) (Q : Int) (l : Nat) (c : Nat) (s : MS) : PT (Nat × List Atom) := .cs 2 (.b (!llooked) (.b (rowB T S K G Q l s) (.cs 1 (lf 19 T S K G Q th sl gn [] cl [] l c (mload T S K s 4 sl) [.i sl, .i (mat T S K s 4 sl), .i (-1), .b true, .b false])) .bad) (.cs 4 (.b (isW ls) (.b (isW ls) (.b (rowB T S K G Q l s) (.b (mok T S K s 4 sl ls) (.leaf (20, .i 9 :: mA T S K G Q l c (mswap T S K s 4 sl ls (moveI ls (stI ls) false)))) (lf 19 T S K G Q th sl gn [] cl [] l c (mswap T S K s 4 sl ls (moveI ls (stI ls) false)) [.i sl, .i ls, .i (-1), .b false, .b (mok T S K s 4 sl ls)])) .bad) .bad) .bad)))
theorem ct_later (th : Int) (sl : Int) (gn : Int) (cl : Bool) (ls : Int) (llooked : Bool) (T : Int) (S : Int) (K : Int) (G : Int) (Q : Int) (l : Nat) (c : Nat) (s : MS) : cutP (pt_later th sl gn cl ls llooked T S K G Q l c s) (endF (ev sumsF3 60 351) (swIn 19) [.i T, .i S, .i K, .i G, .i Q, .i th, .i sl, .i gn, .b cl, .i 0, .i sl, .i ls, .i (-1), .b llooked, .b false, .i T, .i S, .i K, .i G, .i Q, .n l, .n c, .i s.tk, .i s.ts, .i s.to, .i s.told, .i s.tnew, .b s.td, .i s.many, .ws s.ws]) = den (pt_later th sl gn cl ls llooked T S K G Q l c s) := by kernel_rfl
def so_later : List Atom → Tree (Nat × List Atom)
  | .i cT :: .i cS :: .i cK :: .i cG :: .i cQ :: .i th :: .i sl :: .i gn :: .b cl :: .i no :: .i lslot :: .i ls :: .i lstate :: .b llooked :: .b lend :: .i T :: .i S :: .i K :: .i G :: .i Q :: .n l :: .n c :: .i tk :: .i ts :: .i to :: .i told :: .i tnew :: .b td :: .i many :: .ws ws :: [] => .br (decide (T = cT ∧ S = cS ∧ K = cK ∧ G = cG ∧ Q = cQ ∧ 0 = no ∧ sl = lslot ∧ (-1) = lstate ∧ false = lend)) (den (pt_later th sl gn cl ls llooked T S K G Q l c ⟨ws, many, tk, ts, to, told, tnew, td⟩)) .bad
  | _ => .bad
theorem so_later_st (x : List Atom) (r : Nat × List Atom) (h : (so_later x).get = some r) : (endF (ev sumsF3 60 351) (swIn 19) x).get = some r := by
  unfold so_later at h
  split at h
  · rename_i cT cS cK cG cQ th sl gn cl no lslot ls lstate llooked lend T S K G Q l c tk ts to told tnew td many ws
    obtain ⟨hg, h2⟩ := get_br h
    obtain ⟨rfl, rfl, rfl, rfl, rfl, rfl, rfl, rfl, rfl⟩ := of_decide_eq_true hg
    exact cut_get (ct_later th sl gn cl ls llooked T S K G Q l c ⟨ws, many, tk, ts, to, told, tnew, td⟩) h2
  · cases h
def pt_done (no : Int) (T : Int) (S : Int) (K : Int) (G : Int) (Q : Int) (l : Nat) (c : Nat) (s : MS) : PT (Nat × List Atom) := .cs 1 (.leaf (20, .i no :: mA T S K G Q l c s))
theorem ct_done (no : Int) (T : Int) (S : Int) (K : Int) (G : Int) (Q : Int) (l : Nat) (c : Nat) (s : MS) : cutP (pt_done no T S K G Q l c s) (endF (ev sumsF3 60 351) (swIn 20) [.i no, .i T, .i S, .i K, .i G, .i Q, .n l, .n c, .i s.tk, .i s.ts, .i s.to, .i s.told, .i s.tnew, .b s.td, .i s.many, .ws s.ws]) = den (pt_done no T S K G Q l c s) := by kernel_rfl
def so_done : List Atom → Tree (Nat × List Atom)
  | .i no :: .i T :: .i S :: .i K :: .i G :: .i Q :: .n l :: .n c :: .i tk :: .i ts :: .i to :: .i told :: .i tnew :: .b td :: .i many :: .ws ws :: [] => den (pt_done no T S K G Q l c ⟨ws, many, tk, ts, to, told, tnew, td⟩)
  | _ => .bad
theorem so_done_st (x : List Atom) (r : Nat × List Atom) (h : (so_done x).get = some r) : (endF (ev sumsF3 60 351) (swIn 20) x).get = some r := by
  unfold so_done at h
  split at h
  · rename_i no T S K G Q l c tk ts to told tnew td many ws
    exact cut_get (ct_done no T S K G Q l c ⟨ws, many, tk, ts, to, told, tnew, td⟩) h
  · cases h
noncomputable def stepL : List (FForm × (List Atom → Tree (Nat × List Atom))) := [(swIn 0, so_enter), (swIn 1, so_number), (swIn 2, so_agedL), (swIn 3, so_agedS), (swIn 4, so_die), (swIn 5, so_dead), (swIn 6, so_tick), (swIn 7, so_note), (swIn 8, so_retired), (swIn 9, so_grace), (swIn 10, so_keys), (swIn 11, so_unmark), (swIn 12, so_past), (swIn 13, so_others), (swIn 14, so_part), (swIn 15, so_close), (swIn 16, so_closed), (swIn 17, so_nought), (swIn 18, so_free), (swIn 19, so_later), (swIn 20, so_done)]
noncomputable def sumsS1 : Sums := withT sumsF3 351 stepL
theorem sumsS1_ok : SumsOk sumsS1 := withT_ok sumsF3_ok sumsF3_ok 60 (by kernel_rfl) fun a ha => by
  simp only [stepL, List.mem_cons, List.not_mem_nil, or_false] at ha
  rcases ha with rfl | rfl | rfl | rfl | rfl | rfl | rfl | rfl | rfl | rfl | rfl | rfl | rfl | rfl | rfl | rfl | rfl | rfl | rfl | rfl | rfl
  · exact so_enter_st
  · exact so_number_st
  · exact so_agedL_st
  · exact so_agedS_st
  · exact so_die_st
  · exact so_dead_st
  · exact so_tick_st
  · exact so_note_st
  · exact so_retired_st
  · exact so_grace_st
  · exact so_keys_st
  · exact so_unmark_st
  · exact so_past_st
  · exact so_others_st
  · exact so_part_st
  · exact so_close_st
  · exact so_closed_st
  · exact so_nought_st
  · exact so_free_st
  · exact so_later_st
  · exact so_done_st
end Go.Proofs.YtifojacfedjedaaGreat.Bound
