/- What is written meanwhile, where nothing is. No condition. -/
import Derived.Test.YtifojacfedjedaaGreatStepsBQ
namespace Go.Proofs.YtifojacfedjedaaGreat.Bound
open Go.Proofs.YtifojacfedjedaaGreat.Ev Go.Proofs.YtifojacfedjedaaGreat.ChartMath
set_option linter.unusedVariables false
set_option linter.unusedSimpArgs false
def PokedN : FForm := ⟨[.ptr 0 0 none, rmem2, .nilSlice, .int .i64], memB ++ [(2, 22, .ints .u64)], [⟨[(0, rmem3)], 1, memB ++ [(3, 22, .ints .u64)], 4, [0, 1, 2]⟩]⟩
def pokeN_out : List Atom → Tree (Nat × List Atom)
  | .i T' :: .i S' :: .i K' :: .i G' :: .i Q' :: .n l2 :: .n l' :: .i many' :: .i tk' :: .i ts' :: .i to' :: .i told' :: .i tnew' :: .b td' :: .i step :: .i T :: .i S :: .i K :: .i G :: .i Q :: .n l :: .n c :: .i tk :: .i ts :: .i to :: .i told :: .i tnew :: .b td :: .i many :: .ws ws :: .ws ws' :: [] => .leaf (0, [.i T', .i S', .i K', .i G', .i Q', .n l2, .n l', .i many', .i tk', .i ts', .i to', .i told', .i tnew', .b td', .i T, .i S, .i K, .i G, .i Q, .n l, .n c, .i tk, .i ts, .i to, .i told, .i tnew, .b td, .i many, .ws ws, .ws ws'])
  | _ => .bad
theorem pokeN_is (T' S' K' G' Q' : Int) (l2 l' : Nat) (many' tk' ts' to' told' tnew' : Int) (td' : Bool) (step T S K G Q : Int) (l c : Nat) (tk ts to told tnew : Int) (td : Bool) (many : Int) (ws ws' : List Int) : (endF (ev sumsT1 60 26) PokedN [.i T', .i S', .i K', .i G', .i Q', .n l2, .n l', .i many', .i tk', .i ts', .i to', .i told', .i tnew', .b td', .i step, .i T, .i S, .i K, .i G, .i Q, .n l, .n c, .i tk, .i ts, .i to, .i told, .i tnew, .b td, .i many, .ws ws, .ws ws']).get = some (0, [.i T', .i S', .i K', .i G', .i Q', .n l2, .n l', .i many', .i tk', .i ts', .i to', .i told', .i tnew', .b td', .i T, .i S, .i K, .i G, .i Q, .n l, .n c, .i tk, .i ts, .i to, .i told, .i tnew, .b td, .i many, .ws ws, .ws ws']) := by kernel_rfl
theorem pokeN_step (x : List Atom) (r : Nat × List Atom) (h : (pokeN_out x).get = some r) : (endF (ev sumsT1 60 26) PokedN x).get = some r := by
  unfold pokeN_out at h
  split at h
  · rw [← h]
    exact pokeN_is ..
  · cases h
noncomputable def sumsA2 : Sums := withCall sumsA 26 (canon (orSum (fun args H => (matF PokedF args H).isSome) (tsum PokedF pokef_out) (tsum PokedN pokeN_out)))
theorem sumsA2_ok : SumsOk sumsA2 := withCall_ok sumsA_ok (canon_ok (orSum_ok (tsum_ok (ev_sound poke_ok 60 26) pokef_step) (tsum_ok (ev_sound sumsT1_ok 60 26) pokeN_step))) (by kernel_rfl)
end Go.Proofs.YtifojacfedjedaaGreat.Bound
