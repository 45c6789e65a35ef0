/- Values that are handed in, opened: two numbers. Condition: the value is one that can be read as data. -/
import Derived.Test.YtfccbghmagohaaaGreatOpenQ
namespace Go.Proofs.YtfccbghmagohaaaGreat.Open
open Go.ChangeShapes Go.WideShapes Go.ChangeAt Go.RowKit Go.Joins
set_option maxRecDepth 100000
theorem open_pair {H : Type} {enc : TypeId × Value → H} {w : World} {base : Nat} {spare : Nat → Bool} {held : Bool} {r : Reach} {b0 : Nat} {v : Value} {d : DataW H} {p : List MemPlace}
    (hv : Value.okWide Tryz.prog w r b0 44 v) (h : DataW.Trod enc Tryz.prog w base spare held 44 v d p) :
    ∃ x y : Int, v = .agg #[.int .i64 x, .int .i64 y] ∧ (Lit.int .i64 x).wf = true ∧ (Lit.int .i64 y).wf = true := by
  have hv' : ∃ cs, v = .agg cs ∧ cs.size = Tryz.prog.cellsOf 44 := by
    simp only [Value.okWide, Tryz.underlying44] at hv
    obtain ⟨cs, h1, h2, _⟩ := hv
    exact ⟨cs, h1, h2⟩
  obtain ⟨cs, rfl, hsz⟩ := hv'
  obtain ⟨c0, c1, rfl⟩ := array2 (hsz.trans (show Tryz.prog.cellsOf 44 = 2 by kernel_rfl))
  obtain ⟨fuel, hf⟩ := h
  obtain ⟨xs, n, _, _, _, hlen, hk⟩ := DataW.trod_array Tryz.underlying44 hf
  obtain ⟨y0, y1, rfl⟩ := list2 hlen
  have h0 := hk 0 (by omega)
  have h1 := hk 1 (by omega)
  simp [Value.cells, cellsI] at h0 h1
  obtain ⟨x, e0, _, w0⟩ := DataW.trod_int Tryz.underlying3 h0
  obtain ⟨y, e1, _, w1⟩ := DataW.trod_int Tryz.underlying3 h1
  simp at e0 e1
  subst e0 e1
  exact ⟨x, y, rfl, w0, w1⟩
end Go.Proofs.YtfccbghmagohaaaGreat.Open
