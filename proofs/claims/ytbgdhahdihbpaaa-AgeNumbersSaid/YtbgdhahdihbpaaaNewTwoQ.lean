/- A new age, and that it lies behind what was there. Conditions stand in the statement. -/
import Derived.Test.YtbgdhahdihbpaaaPackG
namespace Go.Proofs.Ytbgdhahdihbpaaa.Age
open Go.RowKit Go.IntWalk Go.Proofs.Ytbgdhahdihbpaaa.Own Go.Proofs.Ytbgdhahdihbpaaa.Model Go.Proofs.Ytbgdhahdihbpaaa.Store Go.Proofs.Ytbgdhahdihbpaaa.Status
theorem new_c2 (t s k g q slot number : Int) (W : World) (B : Nat) (hs : s ≤ 900) (h0 : 0 ≤ s) (hB : B ≤ W.heap.size) :
    Calls Try.prog 10 #[.agg #[.int .i64 t, .int .i64 s, .int .i64 k, .int .i64 g, .int .u64 q], .int .i64 slot, .int .u64 number] W
      fun e W' => ∃ a k1 k2 k3, e = .returned (.pointer (some ⟨a, 0, none⟩)) ∧ AgeAt W' a k1 k2 k3 (AgeS.new s slot number) ∧ Below W.heap.size W W' ∧ W.heap.size ≤ a ∧ W.heap.size ≤ k1 ∧ W.heap.size ≤ k2 ∧ W.heap.size ≤ k3 ∧ B ≤ a ∧ B ≤ k1 := by
  refine (new_c t s k g q slot number W hs h0).mono ?_
  rintro e W' ⟨a, k1, k2, k3, rfl, hA, hb, g0, g1, g2, g3⟩
  exact ⟨a, k1, k2, k3, rfl, hA, hb, g0, g1, g2, g3, by omega, by omega⟩
end Go.Proofs.Ytbgdhahdihbpaaa.Age
