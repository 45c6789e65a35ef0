/- A Read, a Write, a Commit, an Abort, by the program: forms by kinds. No condition. -/
import Derived.Test.YtifojacfedjedaaGreatOpFQ
namespace Go.Proofs.YtifojacfedjedaaGreat.Bound
open Go.Proofs.YtifojacfedjedaaGreat.Ev Go.Proofs.YtifojacfedjedaaGreat.ChartMath
set_option linter.unusedVariables false
set_option linter.unusedSimpArgs false
def enB (b : Nat) : List (Nat × TypeId × CPat) := [(b, 254, .vals [i6, u6, u6, .slice (b + 1) 0 none, .bool, .bool, i6, u6]), (b + 1, 3, .ints .i64)]
def leB (b : Nat) : Nat × TypeId × CPat := (b, 293, .vals [i6, u6, i6, .bool, .bool])
def joB (j b : Nat) : Nat × TypeId × CPat := (b, 329, .vals [i6, i6, i6, u6, .func (nthD 0 [292, 306, 314] j) [.ptr b 0 none] [], u6, i6])
def jnB (b : Nat) : Nat × TypeId × CPat := (b, 333, .vals [i6, i6, i6, u6, .bool, .bool])
def heB (j b : Nat) : Nat × TypeId × CPat := (b, 315, .vals [.func (nthD 0 [241, 273, 290, 289] j) [] [], u6, u6, u6, i6])
def bnd (f : FuncId) (sw : Nat) : Pat := .func f [.ptr sw 0 none] []
def isIn (k : Nat) (l : List Nat) : Bool := l.any (Nat.beq k)
def onK (k : Nat) (l : List Nat) (x : List (Nat × Pat)) : List (Nat × Pat) := cond (isIn k l) x []
/-- A Read: 0 enter, 1 snapshot, 2 look, 3 mark, 4 join (look), 5 join (number), 6 join (lay), 7 own, 8 leave, 9 done. -/
def rdFn : List FuncId := [85, 143, 195, 222, 276, 276, 276, 296]
def nxB (b : Nat) : List (Nat × TypeId × CPat) := [(b, 3, .vals [i6]), (b + 1, 74, .vals [.slice (b + 2) 0 none]), (b + 2, 3, .ints .i64)]
def rdSub (k sw b : Nat) : List (Nat × TypeId × CPat) := nthD [] [enB b, [], [], [], nxB b ++ [joB 0 (b + 3)], nxB b ++ [joB 1 (b + 3)], nxB b ++ [joB 2 (b + 3)], nxB b ++ [jnB (b + 3)], [(b, 155, .vals [.ptr sw 0 none]), (b + 1, 28, .vals [i6]), leB (b + 2)], []] k
def rdStep (k sw b : Nat) : Pat := cond (Nat.beq k 9) .nilFunc (cond (Nat.beq k 8) (.func 291 [] [.ptr b 0 none, .ptr (b + 1) 0 none]) (bnd (nthD 0 rdFn k) sw))
def rdKnown (k sw b : Nat) : List (Nat × Pat) := (0, rdStep k sw b) :: onK k [0, 1, 2, 3, 4, 5, 6, 7] [(1, i6), (2, i6)] ++ onK k [0] [(5, .ptr b 0 none)] ++ onK k [2, 3, 4, 5, 6, 7] [(3, u6)] ++ onK k [3] [(4, u6)] ++ onK k [4, 5, 6, 7] [(6, .func 251 [] [.ptr b 0 none, .ptr (b + 1) 0 none]), (7, i6)] ++ onK k [4, 5, 6] [(8, .ptr (b + 3) 0 none)] ++ onK k [7] [(9, .ptr (b + 3) 0 none)] ++ onK k [8] [(10, .ptr (b + 2) 0 none)] ++ onK k [9] [(11, i6)]
def rdC (k sw b : Nat) : Nat × TypeId × CPat := (sw, 201, partC 12 (rdKnown k sw b))
/-- A Write: 0 enter, 1 snapshot, 2 look, 3 rival, 4 number, 5 mark, 6 join (look), 7 join (number), 8 join (lay), 9 own, 10 leave, 11 done. -/
def wrFn : List FuncId := [86, 145, 197, 255, 279, 256, 299, 299, 299, 310]
def slB1 (b : Nat) : Nat × TypeId × CPat := (b, 3, .ints .i64)
def wrSub (k sw b : Nat) : List (Nat × TypeId × CPat) := nthD [] [enB b, [], [], [slB1 b], [slB1 b], [], [slB1 b, joB 0 (b + 1)], [slB1 b, joB 1 (b + 1)], [slB1 b, joB 2 (b + 1)], [slB1 b, jnB (b + 1)], [(b, 157, .vals [.ptr sw 0 none]), (b + 1, 28, .vals [i6]), leB (b + 2)], []] k
def wrStep (k sw b : Nat) : Pat := cond (Nat.beq k 11) .nilFunc (cond (Nat.beq k 10) (.func 297 [] [.ptr b 0 none, .ptr (b + 1) 0 none]) (bnd (nthD 0 wrFn k) sw))
def wrKnown (k sw b : Nat) : List (Nat × Pat) := (0, wrStep k sw b) :: onK k [0, 1, 2, 3, 4, 5, 6, 7, 8, 9] [(1, i6), (2, i6)] ++ onK k [0] [(5, .ptr b 0 none)] ++ onK k [2, 3, 4, 5, 6, 7, 8, 9] [(3, u6)] ++ onK k [3, 4, 5] [(4, u6)] ++ onK k [3, 4] [(6, .sliceN b none)] ++ onK k [6, 7, 8, 9] [(7, .sliceN b none)] ++ onK k [6, 7, 8] [(8, .ptr (b + 1) 0 none)] ++ onK k [9] [(9, .ptr (b + 1) 0 none)] ++ onK k [10] [(10, .ptr (b + 2) 0 none)] ++ onK k [11] [(11, i6)]
def wrC (k sw b : Nat) : Nat × TypeId × CPat := (sw, 204, partC 12 (wrKnown k sw b))
/-- A Commit: 0 enter, 1 judge, 2 doom, 3 promise, 4 count, 5 to 8 help, 9 number, 10 to 13 note, 14 leave, 15 done. -/
def cmFn : List FuncId := [0, 88, 151, 149, 198, 228, 228, 228, 228, 229, 259, 259, 259, 259]
def clB (sw b : Nat) : Nat × TypeId × CPat := (b, 256, .vals [.ptr sw 0 none])
def cmLv (sw b : Nat) : List (Nat × TypeId × CPat) := [clB sw b, (b + 1, 43, .vals [i6, u6, u6]), leB (b + 2)]
def cmSub (k sw b : Nat) : List (Nat × TypeId × CPat) := nthD [] [[clB sw b, (b + 1, 108, .vals [bnd 88 sw])] ++ enB (b + 2), [], [], [], [], [heB 0 b], [heB 1 b], [heB 2 b], [heB 3 b], [], [heB 0 b], [heB 1 b], [heB 2 b], [heB 3 b], cmLv sw b, []] k
def cmStep (k sw b : Nat) : Pat := cond (Nat.beq k 15) .nilFunc (cond (Nat.beq k 14) (.func 153 [] [.ptr b 0 none, .ptr (b + 1) 0 none]) (cond (Nat.beq k 0) (.func 146 [] [.ptr b 0 none, .ptr (b + 1) 0 none]) (bnd (nthD 0 cmFn k) sw)))
def cmKnown (k sw b : Nat) : List (Nat × Pat) := (0, cmStep k sw b) :: onK k [0, 1, 2, 3, 4, 5, 6, 7, 8, 9, 10, 11, 12, 13] [(1, i6)] ++ onK k [0] [(2, .ptr (b + 2) 0 none)] ++ onK k [14] [(3, .ptr (b + 2) 0 none)] ++ onK k [15] [(4, i6), (5, u6), (6, u6)] ++ onK k [2, 3] [(7, u6)] ++ onK k [9, 10, 11, 12, 13] [(8, u6)] ++ onK k [5, 6, 7, 8, 10, 11, 12, 13] [(9, .ptr b 0 none)]
def cmC (k sw b : Nat) : Nat × TypeId × CPat := (sw, 208, partC 10 (cmKnown k sw b))
/-- An Abort: 0 enter, 1 then, 2 leave, 3 done. -/
def abSub (k sw b : Nat) : List (Nat × TypeId × CPat) := nthD [] [[clB sw b, (b + 1, 108, .vals [.func 89 [] [.ptr (b + 2) 0 none]]), (b + 2, 161, .vals [.ptr sw 0 none])] ++ enB (b + 3), [(b, 161, .vals [.ptr sw 0 none])], cmLv sw b, []] k
def abStep (k sw b : Nat) : Pat := nthD .nilFunc [.func 146 [] [.ptr b 0 none, .ptr (b + 1) 0 none], .func 89 [] [.ptr b 0 none], .func 153 [] [.ptr b 0 none, .ptr (b + 1) 0 none]] k
def abKnown (k sw b : Nat) : List (Nat × Pat) := (0, abStep k sw b) :: onK k [0, 1] [(1, i6)] ++ onK k [0] [(2, .ptr (b + 3) 0 none)] ++ onK k [2] [(3, .ptr (b + 2) 0 none)] ++ onK k [3] [(4, i6), (5, u6), (6, u6)]
def abC (k sw b : Nat) : Nat × TypeId × CPat := (sw, 211, partC 7 (abKnown k sw b))
/-- Forms of a machine's step: whose block is 0, and what lies beside it from 1 on; then the memory. -/
def mcOut (C : Nat → Nat → Nat → Nat × TypeId × CPat) (S : Nat → Nat → Nat → List (Nat × TypeId × CPat)) (m k : Nat) : SPat := ⟨[(0, .tuple [])], 1, C k 0 (m + 2) :: S k 0 (m + 2) ++ [(m, 126, memK (m + 1)), (m + 1, 22, .ints .u64)], m + 2 + (S k 0 0).length, upTo (m + 2) []⟩
def mcIn (C : Nat → Nat → Nat → Nat × TypeId × CPat) (S : Nat → Nat → Nat → List (Nat × TypeId × CPat)) (n k : Nat) : FForm :=
  let m := (S k 0 1).length + 1
  ⟨[.ptr 0 0 none, .ptr m 0 none], C k 0 1 :: S k 0 1 ++ [(m, 126, memK (m + 1)), (m + 1, 22, .ints .u64)], (upTo n []).map (mcOut C S m)⟩
def rdIn (k : Nat) : FForm := mcIn rdC rdSub 10 k
def wrIn (k : Nat) : FForm := mcIn wrC wrSub 12 k
def cmIn (k : Nat) : FForm := mcIn cmC cmSub 16 k
def abIn (k : Nat) : FForm := mcIn abC abSub 4 k
end Go.Proofs.YtifojacfedjedaaGreat.Bound
