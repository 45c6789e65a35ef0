/- The config of a world, handed in by value, is five numbers, each of its kind. Condition: the value is one that can be read as data. -/
import Derived.Test.YtfdfcdlbojnamaaRows
import Derived.WalkKit
import Derived.ProofKit
import Derived.Lib.SmallJoins
import Derived.OpenShut
namespace Go.Proofs.Ytfdfcdlbojnamaa.Open
open Go.ChangeShapes Go.WideShapes Go.ChangeAt Go.RowKit Go.Joins

theorem array5 {α : Type} {cs : Array α} (h : cs.size = 5) : ∃ c0 c1 c2 c3 c4, cs = #[c0, c1, c2, c3, c4] := by
  obtain ⟨l⟩ := cs
  match l, h with
  | [c0, c1, c2, c3, c4], _ => exact ⟨c0, c1, c2, c3, c4, rfl⟩
theorem cells24 : Try.prog.cellsOf 24 = 5 := by kernel_rfl
theorem cells3 : Try.prog.cellsOf 3 = 1 := by kernel_rfl
theorem cells22 : Try.prog.cellsOf 22 = 1 := by kernel_rfl

theorem list5 {α : Type} {xs : List α} (h : xs.length = 5) : ∃ y0 y1 y2 y3 y4, xs = [y0, y1, y2, y3, y4] := by
  match xs, h with
  | [y0, y1, y2, y3, y4], _ => exact ⟨y0, y1, y2, y3, y4, rfl⟩

theorem open_config {H : Type} {enc : TypeId × Value → H} {w : World} {base : Nat} {spare : Nat → Bool} {held : Bool} {r : Reach} {b0 : Nat} {v : Value} {d : DataW H} {p : List MemPlace}
    (hv : Value.okWide Try.prog w r b0 24 v) (h : DataW.Trod enc Try.prog w base spare held 24 v d p) :
    ∃ T S K G Q : Int, v = .agg #[.int .i64 T, .int .i64 S, .int .i64 K, .int .i64 G, .int .u64 Q] ∧ (Lit.int .i64 T).wf = true ∧ (Lit.int .i64 S).wf = true ∧ (Lit.int .i64 K).wf = true ∧ (Lit.int .i64 G).wf = true ∧ (Lit.int .u64 Q).wf = true := by
  obtain ⟨cs, rfl, hsz⟩ := okWide_struct Try.underlying24 hv
  obtain ⟨c0, c1, c2, c3, c4, rfl⟩ := array5 (hsz.trans cells24)
  obtain ⟨fuel, hf⟩ := h
  obtain ⟨xs, n, _, _, _, hlen, hk⟩ := DataW.trod_struct Try.underlying24 hf
  obtain ⟨y0, y1, y2, y3, y4, rfl⟩ := list5 (show xs.length = 5 from hlen)
  have h0 := hk 0 _ rfl
  have h1 := hk 1 _ rfl
  have h2 := hk 2 _ rfl
  have h3 := hk 3 _ rfl
  have h4 := hk 4 _ rfl
  simp [Value.cells, cells3, cells22] at h0 h1 h2 h3 h4
  obtain ⟨T, e0, _, w0⟩ := DataW.trod_int Try.underlying3 h0
  obtain ⟨S, e1, _, w1⟩ := DataW.trod_int Try.underlying3 h1
  obtain ⟨K, e2, _, w2⟩ := DataW.trod_int Try.underlying3 h2
  obtain ⟨G, e3, _, w3⟩ := DataW.trod_int Try.underlying3 h3
  obtain ⟨Q, e4, _, w4⟩ := DataW.trod_int Try.underlying22 h4
  simp at e0 e1 e2 e3 e4
  subst e0 e1 e2 e3 e4
  exact ⟨T, S, K, G, Q, rfl, w0, w1, w2, w3, w4⟩

theorem array2 {α : Type} {cs : Array α} (h : cs.size = 2) : ∃ c0 c1, cs = #[c0, c1] := by
  obtain ⟨l⟩ := cs
  match l, h with
  | [c0, c1], _ => exact ⟨c0, c1, rfl⟩

theorem cells39 : Try.prog.cellsOf 39 = 2 := by kernel_rfl
/-- A pair, handed in by value, is two numbers. -/
theorem open_pair {H : Type} {enc : TypeId × Value → H} {w : World} {base : Nat} {spare : Nat → Bool} {held : Bool} {r : Reach} {b0 : Nat} {v : Value} {d : DataW H} {p : List MemPlace}
    (hv : Value.okWide Try.prog w r b0 39 v) (h : DataW.Trod enc Try.prog w base spare held 39 v d p) :
    ∃ x y : Int, v = .agg #[.int .i64 x, .int .i64 y] ∧ (Lit.int .i64 x).wf = true ∧ (Lit.int .i64 y).wf = true := by
  have hv' : ∃ cs, v = .agg cs ∧ cs.size = Try.prog.cellsOf 39 := by
    simp only [Value.okWide, Try.underlying39] at hv
    obtain ⟨cs, h1, h2, _⟩ := hv
    exact ⟨cs, h1, h2⟩
  obtain ⟨cs, rfl, hsz⟩ := hv'
  obtain ⟨c0, c1, rfl⟩ := array2 (hsz.trans cells39)
  obtain ⟨fuel, hf⟩ := h
  obtain ⟨xs, n, _, _, _, hlen, hk⟩ := DataW.trod_array Try.underlying39 hf
  obtain ⟨y0, y1, rfl⟩ : ∃ y0 y1, xs = [y0, y1] := by
    match xs, hlen with
    | [y0, y1], _ => exact ⟨y0, y1, rfl⟩
  have h0 := hk 0 (by omega)
  have h1 := hk 1 (by omega)
  simp [Value.cells, cells3] at h0 h1
  obtain ⟨x, e0, _, w0⟩ := DataW.trod_int Try.underlying3 h0
  obtain ⟨y, e1, _, w1⟩ := DataW.trod_int Try.underlying3 h1
  simp at e0 e1
  subst e0 e1
  exact ⟨x, y, rfl, w0, w1⟩
end Go.Proofs.Ytfdfcdlbojnamaa.Open
