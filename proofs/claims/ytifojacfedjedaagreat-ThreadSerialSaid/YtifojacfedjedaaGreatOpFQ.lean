/- A step of one that begins, by the program: forms by kinds. No condition. -/
import Derived.Test.YtifojacfedjedaaGreatTalSQ
namespace Go.Proofs.YtifojacfedjedaaGreat.Bound
open Go.Proofs.YtifojacfedjedaaGreat.Ev Go.Proofs.YtifojacfedjedaaGreat.ChartMath
set_option linter.unusedVariables false
set_option linter.unusedSimpArgs false
/-- The kinds of an Open's state: 0 look, 1 take, 2 tally, 3 help (number), 4 help (look), 5 help (lay), 6 help (settle), 7 note, 8 start, 9 done. -/
def opFn : List FuncId := [82, 137, 189, 218, 218, 218, 218, 216, 240]
def heFn : List FuncId := [0, 0, 0, 241, 273, 290, 289]
def opSub (k b : Nat) : List (Nat × TypeId × CPat) := cond (Nat.blt k 2) [(b, 3, .vals [i6])] (cond (Nat.blt 2 k && Nat.blt k 7) [(b, 315, .vals [.func (nthD 0 heFn k) [] [], u6, u6, u6, i6])] [])
def opKnown (k sw b : Nat) : List (Nat × Pat) := [(0, cond (Nat.beq k 9) .nilFunc (.func (nthD 0 opFn k) [.ptr sw 0 none] [])), (6, i6), (7, u6), (8, u6)] ++ cond (Nat.beq k 9) [] [(2, i6)] ++ cond (Nat.blt k 2) [(1, .func 132 [] [.ptr b 0 none])] [] ++ cond (Nat.beq k 0 || Nat.beq k 9) [] [(3, u6)] ++ cond (Nat.beq k 7 || Nat.beq k 8) [(4, u6)] [] ++ cond (Nat.blt 2 k && Nat.blt k 7) [(5, .ptr b 0 none)] []
def opC (k sw b : Nat) : Nat × TypeId × CPat := (sw, 194, partC 9 (opKnown k sw b))
def opOut (m k : Nat) : SPat := ⟨[(0, .tuple [])], 1, opC k 0 (m + 2) :: opSub k (m + 2) ++ [(m, 126, memK (m + 1)), (m + 1, 22, .ints .u64)], m + 2 + (opSub k 0).length, upTo (m + 2) []⟩
def opIn (k : Nat) : FForm :=
  let m := (opSub k 1).length + 1
  ⟨[.ptr 0 0 none, .ptr m 0 none], opC k 0 1 :: opSub k 1 ++ [(m, 126, memK (m + 1)), (m + 1, 22, .ints .u64)], (upTo 10 []).map (opOut m)⟩
end Go.Proofs.YtifojacfedjedaaGreat.Bound
