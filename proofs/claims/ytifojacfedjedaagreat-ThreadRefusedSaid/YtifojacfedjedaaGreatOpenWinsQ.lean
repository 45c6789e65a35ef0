/- Rows of numbers that are handed in, opened: where they lie. Condition: the value is one that can be read as data. -/
import Derived.Test.YtifojacfedjedaaGreatOpenQ
import Derived.ChangeSlices
namespace Go.Proofs.YtifojacfedjedaaGreat.Open
open Go.ChangeShapes Go.WideShapes Go.ChangeAt Go.RowKit Go.Joins
set_option maxRecDepth 100000
/-- A row of numbers, in a block. -/
def IsWin (k : IntKind) (w : World) (a : Option Addr) (len cap : Nat) (zs : List Int) : Prop :=
  (a = none ∧ len = 0 ∧ cap = 0 ∧ zs = []) ∨
  ∃ b off cs t fr, a = some ⟨b, off, none⟩ ∧ len ≤ cap ∧ cap ≤ maxLen ∧ zs.length = cap ∧ w.heap[b]? = some (.cells cs t fr) ∧ (∀ i, i < zs.length → cs[off + i]? = some (.int k (zs.getD i 0))) ∧ ∀ n ∈ zs, (Lit.int k n).wf = true
theorem win_of_row {P : Program} {k : IntKind} {w : World} {a : Option Addr} {len cap : Nat} {zs : List Int} {r : Reach} {b0 : Nat} {t e : TypeId} (hu : P.underlying t = some (.slice e)) (hv : Value.okWide P w r b0 t (.slice a len cap)) (h : IsRow k w a len cap zs) : IsWin k w a len cap zs := by
  rcases h with h | ⟨x, rfl, h1, h2, h3, h4, h5⟩
  · exact .inl h
  · right
    have hh : w.has P r b0 x e cap := by
      simp only [Value.okWide, hu, Cell.okWide, Cell.ok] at hv
      exact hv.2.2
    obtain ⟨_, hs, row, cells, hsh, _⟩ := hh
    obtain ⟨b, off, sp⟩ := x
    simp only at hs hsh
    subst hs
    unfold World.shape? at hsh
    split at hsh
    · rename_i cs t' fr hb
      refine ⟨b, off, cs, t', fr, rfl, h1, h2, h3, hb, fun i hi => ?_, h5⟩
      have := h4 i hi
      have e : (⟨b, off, none⟩ : Addr).add i = ⟨b, off + i, none⟩ := by
        unfold Addr.add
        by_cases h : i = 0
        · subst h; rfl
        · simp [h]
      rw [e] at this
      simp only [World.cell?, hb] at this
      exact this
    · cases hsh
end Go.Proofs.YtifojacfedjedaaGreat.Open
