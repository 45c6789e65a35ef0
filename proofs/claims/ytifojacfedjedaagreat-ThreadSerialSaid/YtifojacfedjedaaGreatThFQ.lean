/- A Thread, by the program: forms by kinds. No condition. -/
import Derived.Test.YtifojacfedjedaaGreatMcFQ
import Derived.Test.YtifojacfedjedaaGreatMcOQ
namespace Go.Proofs.YtifojacfedjedaaGreat.Bound
open Go.Proofs.YtifojacfedjedaaGreat.Ev Go.Proofs.YtifojacfedjedaaGreat.ChartMath
set_option linter.unusedVariables false
set_option linter.unusedSimpArgs false
/-- Machines: 0 an Open, 1 a Read, 2 a Write, 3 a Commit, 4 an Abort, 5 a Sweep. -/
def mcSubs (M k sw b : Nat) : List (Nat × TypeId × CPat) := nthD [] [opSub k b, rdSub k sw b, wrSub k sw b, cmSub k sw b, abSub k sw b, swSub k sw b] M
def mcBlk (M k sw b : Nat) : Nat × TypeId × CPat := nthD (0, 0, .ints .i64) [opC k sw b, rdC k sw b, wrC k sw b, cmC k sw b, abC k sw b, swC k sw b] M
def mcTy (M : Nat) : TypeId := nthD 0 [153, 155, 157, 159, 161, 163] M
/-- A machine's last kind: it is done. -/
def mcDone (M : Nat) : Nat := nthD 0 [9, 9, 11, 15, 3, 20] M
/-- A machine's own atoms. -/
def mcOw (M k : Nat) (u : Nat → Int) (bo : Nat → Bool) (na : Nat → Nat) (wl : Nat → List Int) : List Atom := atomsT u bo na wl (tgB (mcBlk M k 0 1 :: mcSubs M k 0 1)) 0 0 0 0
/-- A thread's phases: 0 idle, 1 pin (load), 2 pin (lay), 3 work, 4 leave. -/
def thStepP (ph th : Nat) : Pat := nthD .nilFunc [.nilFunc, bnd 35 th, bnd 35 th, bnd 93 th, bnd 94 th] ph
def thKnown (ph M th pn mc : Nat) : List (Nat × Pat) := [(0, i6), (1, i6), (2, i6), (3, i6), (4, u6), (5, i6), (6, thStepP ph th)] ++ onK ph [1, 2] [(7, .ptr pn 0 none)] ++ onK ph [1, 2, 3, 4] [(8, .iface (mcTy M) (.ptr mc 0 none))] ++ [(9, i6), (10, u6), (11, u6)]
def pinB (ph b : Nat) : Nat × TypeId × CPat := (b, 166, .vals [bnd (nthD 0 [0, 62, 92] ph) b, i6, u6])
def thB (ph M k th b : Nat) : List (Nat × TypeId × CPat) := (th, 113, partC 12 (thKnown ph M th b (cond (isIn ph [1, 2]) (b + 1) b))) :: cond (isIn ph [1, 2]) (pinB ph b :: mcBlk M k (b + 1) (b + 2) :: mcSubs M k (b + 1) (b + 2)) (cond (Nat.beq ph 0) [] (mcBlk M k b (b + 1) :: mcSubs M k b (b + 1)))
def thLen (ph M k : Nat) : Nat := (thB ph M k 0 0).length - 1
def memBk (m : Nat) : List (Nat × TypeId × CPat) := [(m, 126, memK (m + 1)), (m + 1, 22, .ints .u64)]
def thOut (m : Nat) (q : Nat × Nat × Nat) : SPat := ⟨[(0, .bool)], 1, thB q.1 q.2.1 q.2.2 0 (m + 2) ++ memBk m, m + 2 + thLen q.1 q.2.1 q.2.2, upTo (m + 2) []⟩
/-- What may come next. -/
def thNext (ph M k : Nat) : List (Nat × Nat × Nat) := nthD [] [[(0, 0, 0)], [(2, M, k)], [(cond (Nat.beq k (mcDone M)) 4 3, M, k)], (upTo (mcDone M + 1) []).map (fun j => (cond (Nat.beq j (mcDone M)) 4 3, M, j)), [(0, 0, 0)]] ph
def thIn (ph M k : Nat) : FForm :=
  let m := thLen ph M k + 1
  ⟨[.ptr 0 0 none, .ptr m 0 none], thB ph M k 0 1 ++ memBk m, (thNext ph M k).map (thOut m)⟩
/-- A thread's own atoms: the world's numbers, its number, what it told last; its pin's. -/
def thA (t : Nat → Int) : List Atom := [.i (t 0), .i (t 1), .i (t 2), .i (t 3), .i (t 4), .i (t 5), .i (t 6), .i (t 7), .i (t 8)]
def pinA (p e : Int) : List Atom := [.i p, .i e]
end Go.Proofs.YtifojacfedjedaaGreat.Bound
