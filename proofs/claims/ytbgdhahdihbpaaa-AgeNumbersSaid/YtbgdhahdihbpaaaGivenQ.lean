/- A row of words that was handed in. Conditions stand in the statements. -/
import Derived.Test.YtbgdhahdihbpaaaOpenQ
import Derived.Test.YtbgdhahdihbpaaaPackF
namespace Go.Proofs.Ytbgdhahdihbpaaa.Open
open Go.RowKit Go.IntWalk Go.Proofs.Ytbgdhahdihbpaaa.Own Go.Proofs.Ytbgdhahdihbpaaa.Model Go.Proofs.Ytbgdhahdihbpaaa.Store

theorem IsRow.later {W W' : World} {a : Option Addr} {n cap : Nat} {zs : List Int} (h : IsRow .u64 W a n cap zs) (k : Below W.heap.size W W') : IsRow .u64 W' a n cap zs := by
  rcases h with h | ⟨x, rfl, h1, h2, h3, h4, h5⟩
  · exact .inl h
  · refine .inr ⟨x, rfl, h1, h2, h3, fun i hi => ?_, h5⟩
    have hl := World.block_lt_of_cell? _ _ (h4 i hi)
    rw [k.cell hl]
    exact h4 i hi
theorem IsRow.given {W : World} {a : Option Addr} {n cap : Nat} {zs : List Int} {c : Cfg} (h : IsRow .u64 W a n cap zs) (hr : c.Rt) (hn : (n : Int) = c.len) :
    ∃ bb off ws, a = some ⟨bb, off, none⟩ ∧ Lies W ⟨bb, off, none⟩ ws ∧ ws.length = n ∧ (∀ x ∈ ws, 0 ≤ x ∧ x < 18446744073709551616) ∧ n ≤ cap := by
  have hp : 7 ≤ c.len := by obtain ⟨t1, t2, s1, s2, k1, k2, _⟩ := hr; unfold Cfg.len; omega
  rcases h with ⟨_, rfl, _⟩ | ⟨x, rfl, h1, h2, h3, h4, h5⟩
  · omega
  · have h0 := h4 0 (by omega)
    rw [Addr.add_zero'] at h0
    have hsp := World.cell?_spot h0
    obtain ⟨bb, off, sp⟩ := x
    cases hsp
    refine ⟨bb, off, zs.take n, rfl, ⟨fun j hj => ?_, World.block_lt_of_cell? _ _ h0⟩, by simp; omega, ?_, h1⟩
    · have hj' : j < zs.length := by simp at hj; omega
      rw [h4 j hj']
      simp [List.getD_eq_getElem?_getD, List.getElem?_eq_getElem hj']
    · intro x hx
      have := h5 x (List.mem_of_mem_take hx)
      simp [Lit.wf, IntKind.min, IntKind.max, IntKind.signed, IntKind.bits] at this
      omega
end Go.Proofs.Ytbgdhahdihbpaaa.Open
