/- Values that are handed in, opened: an operation. Condition: the value is one that can be read as data. -/
import Derived.Test.YtifojacfedjedaaGreatOpenQ
namespace Go.Proofs.YtifojacfedjedaaGreat.Open
open Go.ChangeShapes Go.WideShapes Go.ChangeAt Go.RowKit Go.Joins
set_option maxRecDepth 100000
theorem cellsOp : Tryz.prog.cellsOf 26 = 3 := by kernel_rfl
theorem open_op {H : Type} {enc : TypeId × Value → H} {w : World} {base : Nat} {spare : Nat → Bool} {held : Bool} {r : Reach} {b0 : Nat} {v : Value} {d : DataW H} {p : List MemPlace}
    (hv : Value.okWide Tryz.prog w r b0 26 v) (h : DataW.Trod enc Tryz.prog w base spare held 26 v d p) :
    ∃ (x y z : Int), v = .agg #[.int .i64 x, .int .u64 y, .int .i64 z] ∧ (Lit.int .i64 x).wf = true ∧ (Lit.int .u64 y).wf = true ∧ (Lit.int .i64 z).wf = true := by
  obtain ⟨cs, rfl, hsz⟩ := okWide_struct Tryz.underlying26 hv
  obtain ⟨c0, c1, c2, rfl⟩ := array3 (hsz.trans cellsOp)
  obtain ⟨fuel, hf⟩ := h
  obtain ⟨xs, n, _, _, _, hlen, hk⟩ := DataW.trod_struct Tryz.underlying26 hf
  obtain ⟨y0, y1, y2, rfl⟩ := list3 (show xs.length = 3 from hlen)
  have h0 := hk 0 _ rfl
  have h1 := hk 1 _ rfl
  have h2 := hk 2 _ rfl
  simp [Value.cells, cellsI, cellsU] at h0 h1 h2
  obtain ⟨x, e0, _, w0⟩ := DataW.trod_int Tryz.underlying3 h0
  obtain ⟨y, e1, _, w1⟩ := DataW.trod_int Tryz.underlying22 h1
  obtain ⟨z, e2, _, w2⟩ := DataW.trod_int Tryz.underlying3 h2
  simp at e0 e1 e2
  subst e0 e1 e2
  exact ⟨x, y, z, rfl, w0, w1, w2⟩
end Go.Proofs.YtifojacfedjedaaGreat.Open
