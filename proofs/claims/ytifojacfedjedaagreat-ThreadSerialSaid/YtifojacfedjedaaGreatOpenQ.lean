/- Values that are handed in, opened: each number of its kind. Condition: the value is one that can be read as data. -/
import Derived.Test.YtifojacfedjedaaGreatRows
import Derived.WalkKit
import Derived.ProofKit
import Derived.Lib.SmallJoins
import Derived.OpenShut
namespace Go.Proofs.YtifojacfedjedaaGreat.Open
open Go.ChangeShapes Go.WideShapes Go.ChangeAt Go.RowKit Go.Joins
set_option maxRecDepth 100000

theorem array5 {α : Type} {cs : Array α} (h : cs.size = 5) : ∃ c0 c1 c2 c3 c4, cs = #[c0, c1, c2, c3, c4] := by
  obtain ⟨l⟩ := cs
  match l, h with
  | [c0, c1, c2, c3, c4], _ => exact ⟨c0, c1, c2, c3, c4, rfl⟩
theorem array4 {α : Type} {cs : Array α} (h : cs.size = 4) : ∃ c0 c1 c2 c3, cs = #[c0, c1, c2, c3] := by
  obtain ⟨l⟩ := cs
  match l, h with
  | [c0, c1, c2, c3], _ => exact ⟨c0, c1, c2, c3, rfl⟩
theorem array3 {α : Type} {cs : Array α} (h : cs.size = 3) : ∃ c0 c1 c2, cs = #[c0, c1, c2] := by
  obtain ⟨l⟩ := cs
  match l, h with
  | [c0, c1, c2], _ => exact ⟨c0, c1, c2, rfl⟩
theorem array2 {α : Type} {cs : Array α} (h : cs.size = 2) : ∃ c0 c1, cs = #[c0, c1] := by
  obtain ⟨l⟩ := cs
  match l, h with
  | [c0, c1], _ => exact ⟨c0, c1, rfl⟩
theorem list5 {α : Type} {xs : List α} (h : xs.length = 5) : ∃ y0 y1 y2 y3 y4, xs = [y0, y1, y2, y3, y4] := by
  match xs, h with
  | [y0, y1, y2, y3, y4], _ => exact ⟨y0, y1, y2, y3, y4, rfl⟩
theorem list4 {α : Type} {xs : List α} (h : xs.length = 4) : ∃ y0 y1 y2 y3, xs = [y0, y1, y2, y3] := by
  match xs, h with
  | [y0, y1, y2, y3], _ => exact ⟨y0, y1, y2, y3, rfl⟩
theorem list3 {α : Type} {xs : List α} (h : xs.length = 3) : ∃ y0 y1 y2, xs = [y0, y1, y2] := by
  match xs, h with
  | [y0, y1, y2], _ => exact ⟨y0, y1, y2, rfl⟩
theorem list2 {α : Type} {xs : List α} (h : xs.length = 2) : ∃ y0 y1, xs = [y0, y1] := by
  match xs, h with
  | [y0, y1], _ => exact ⟨y0, y1, rfl⟩
theorem cellsC : Tryz.prog.cellsOf 24 = 5 := by kernel_rfl
theorem cellsI : Tryz.prog.cellsOf 3 = 1 := by kernel_rfl
theorem cellsU : Tryz.prog.cellsOf 22 = 1 := by kernel_rfl

theorem open_config {H : Type} {enc : TypeId × Value → H} {w : World} {base : Nat} {spare : Nat → Bool} {held : Bool} {r : Reach} {b0 : Nat} {v : Value} {d : DataW H} {p : List MemPlace}
    (hv : Value.okWide Tryz.prog w r b0 24 v) (h : DataW.Trod enc Tryz.prog w base spare held 24 v d p) :
    ∃ T S K G Q : Int, v = .agg #[.int .i64 T, .int .i64 S, .int .i64 K, .int .i64 G, .int .u64 Q] ∧ (Lit.int .i64 T).wf = true ∧ (Lit.int .i64 S).wf = true ∧ (Lit.int .i64 K).wf = true ∧ (Lit.int .i64 G).wf = true ∧ (Lit.int .u64 Q).wf = true := by
  obtain ⟨cs, rfl, hsz⟩ := okWide_struct Tryz.underlying24 hv
  obtain ⟨c0, c1, c2, c3, c4, rfl⟩ := array5 (hsz.trans cellsC)
  obtain ⟨fuel, hf⟩ := h
  obtain ⟨xs, n, _, _, _, hlen, hk⟩ := DataW.trod_struct Tryz.underlying24 hf
  obtain ⟨y0, y1, y2, y3, y4, rfl⟩ := list5 (show xs.length = 5 from hlen)
  have h0 := hk 0 _ rfl
  have h1 := hk 1 _ rfl
  have h2 := hk 2 _ rfl
  have h3 := hk 3 _ rfl
  have h4 := hk 4 _ rfl
  simp [Value.cells, cellsI, cellsU] at h0 h1 h2 h3 h4
  obtain ⟨T, e0, _, w0⟩ := DataW.trod_int Tryz.underlying3 h0
  obtain ⟨S, e1, _, w1⟩ := DataW.trod_int Tryz.underlying3 h1
  obtain ⟨K, e2, _, w2⟩ := DataW.trod_int Tryz.underlying3 h2
  obtain ⟨G, e3, _, w3⟩ := DataW.trod_int Tryz.underlying3 h3
  obtain ⟨Q, e4, _, w4⟩ := DataW.trod_int Tryz.underlying22 h4
  simp at e0 e1 e2 e3 e4
  subst e0 e1 e2 e3 e4
  exact ⟨T, S, K, G, Q, rfl, w0, w1, w2, w3, w4⟩

def IsRow (k : IntKind) (w : World) (a : Option Addr) (len cap : Nat) (zs : List Int) : Prop :=
  (a = none ∧ len = 0 ∧ cap = 0 ∧ zs = []) ∨
  ∃ x, a = some x ∧ len ≤ cap ∧ cap ≤ maxLen ∧ zs.length = cap ∧ (∀ i, i < zs.length → w.cell? (x.add i) = some (.int k (zs.getD i 0))) ∧ ∀ n ∈ zs, (Lit.int k n).wf = true
end Go.Proofs.YtifojacfedjedaaGreat.Open
