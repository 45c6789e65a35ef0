/- Values that are handed in, opened: a life, with its two rows. Condition: the value is one that can be read as data. -/
import Derived.Test.YthllilbmaidhgaaRows
import Derived.WalkKit
import Derived.ProofKit
import Derived.Lib.SmallJoins
import Derived.OpenShut
import Derived.ChangeSlices
namespace Go.Proofs.Ythllilbmaidhgaa.Open
open Go.ChangeShapes Go.WideShapes Go.ChangeAt Go.RowKit Go.Joins
set_option maxRecDepth 100000
theorem array4 {α : Type} {cs : Array α} (h : cs.size = 4) : ∃ c0 c1 c2 c3, cs = #[c0, c1, c2, c3] := by
  obtain ⟨l⟩ := cs
  match l, h with
  | [c0, c1, c2, c3], _ => exact ⟨c0, c1, c2, c3, rfl⟩
theorem list4 {α : Type} {xs : List α} (h : xs.length = 4) : ∃ y0 y1 y2 y3, xs = [y0, y1, y2, y3] := by
  match xs, h with
  | [y0, y1, y2, y3], _ => exact ⟨y0, y1, y2, y3, rfl⟩
theorem cellsI : Try.prog.cellsOf 3 = 1 := by kernel_rfl
def IsRow (k : IntKind) (w : World) (a : Option Addr) (len cap : Nat) (zs : List Int) : Prop :=
  (a = none ∧ len = 0 ∧ cap = 0 ∧ zs = []) ∨
  ∃ x, a = some x ∧ len ≤ cap ∧ cap ≤ maxLen ∧ zs.length = cap ∧ (∀ i, i < zs.length → w.cell? (x.add i) = some (.int k (zs.getD i 0))) ∧ ∀ n ∈ zs, (Lit.int k n).wf = true
/-- A row of numbers, in a block. -/
def IsWin (k : IntKind) (w : World) (a : Option Addr) (len cap : Nat) (zs : List Int) : Prop :=
  (a = none ∧ len = 0 ∧ cap = 0 ∧ zs = []) ∨
  ∃ b off cs t fr, a = some ⟨b, off, none⟩ ∧ len ≤ cap ∧ cap ≤ maxLen ∧ zs.length = cap ∧ w.heap[b]? = some (.cells cs t fr) ∧ (∀ i, i < zs.length → cs[off + i]? = some (.int k (zs.getD i 0))) ∧ ∀ n ∈ zs, (Lit.int k n).wf = true
theorem win_of_row {P : Program} {k : IntKind} {w : World} {a : Option Addr} {len cap : Nat} {zs : List Int} {r : Reach} {b0 : Nat} {t e : TypeId} (hu : P.underlying t = some (.slice e)) (hv : Value.okWide P w r b0 t (.slice a len cap)) (h : IsRow k w a len cap zs) : IsWin k w a len cap zs := by
  rcases h with h | ⟨x, rfl, h1, h2, h3, h4, h5⟩
  · exact .inl h
  · right
    have hh : w.has P r b0 x e cap := by
      simp only [Value.okWide, hu, Cell.okWide, Cell.ok] at hv
      exact hv.2.2
    obtain ⟨_, hs, row, cells, hsh, _⟩ := hh
    obtain ⟨b, off, sp⟩ := x
    simp only at hs hsh
    subst hs
    unfold World.shape? at hsh
    split at hsh
    · rename_i cs t' fr hb
      refine ⟨b, off, cs, t', fr, rfl, h1, h2, h3, hb, fun i hi => ?_, h5⟩
      have := h4 i hi
      have e : (⟨b, off, none⟩ : Addr).add i = ⟨b, off + i, none⟩ := by
        unfold Addr.add
        by_cases h : i = 0
        · subst h; rfl
        · simp [h]
      rw [e] at this
      simp only [World.cell?, hb] at this
      exact this
    · cases hsh
theorem cellsL : Try.prog.cellsOf 34 = 4 := by kernel_rfl
theorem cellsIs : Try.prog.cellsOf 32 = 1 := by kernel_rfl
theorem typesL : Try.prog.cellTypes Try.prog.depth 34 = some [3, 3, 32, 32] := by kernel_rfl
theorem open_row {H : Type} {enc : TypeId × Value → H} {w : World} {base : Nat} {spare : Nat → Bool} (hsp : ∀ b, spare b = true) {held : Bool} {fuel : Nat} {v : Value} {x : DataW H × List MemPlace}
    (h : DataW.trod enc Try.prog w base spare held fuel 32 [v] = some x) : ∃ a len cap zs, v = .slice a len cap ∧ IsRow .i64 w a len cap zs := by
  rcases open_ints Try.underlying32 Try.underlying3 (by kernel_rfl) h with ⟨hcs, _⟩ | ⟨x, l, c, zs, hcs, _, hl, hm, hz, _, hcell, hwz⟩
  · simp at hcs
    exact ⟨none, 0, 0, [], hcs, .inl ⟨rfl, rfl, rfl, rfl⟩⟩
  · simp at hcs
    exact ⟨some x, l, c, zs, hcs, .inr ⟨_, rfl, hl, hm, by simpa [hsp] using hz, hcell, hwz⟩⟩
theorem open_life {H : Type} {enc : TypeId × Value → H} {w : World} {base : Nat} {spare : Nat → Bool} (hsp : ∀ b, spare b = true) {held : Bool} {r : Reach} {b0 : Nat} {v : Value} {d : DataW H} {p : List MemPlace}
    (hv : Value.okWide Try.prog w r b0 34 v) (h : DataW.Trod enc Try.prog w base spare held 34 v d p) :
    ∃ (x y : Int) (A : Option Addr) (n c : Nat) (zs : List Int) (A' : Option Addr) (n' c' : Nat) (zs' : List Int), v = .agg #[.int .i64 x, .int .i64 y, .slice A n c, .slice A' n' c'] ∧ IsWin .i64 w A n c zs ∧ IsWin .i64 w A' n' c' zs' := by
  have hv0 := hv
  obtain ⟨cs, rfl, hsz⟩ := okWide_struct Try.underlying34 hv
  obtain ⟨c0, c1, c2, c3, rfl⟩ := array4 (hsz.trans cellsL)
  obtain ⟨fuel, hf⟩ := h
  obtain ⟨xs, n, _, _, _, hlen, hk⟩ := DataW.trod_struct Try.underlying34 hf
  obtain ⟨y0, y1, y2, y3, rfl⟩ := list4 (show xs.length = 4 from hlen)
  have h0 := hk 0 _ rfl
  have h1 := hk 1 _ rfl
  have h2 := hk 2 _ rfl
  have h3 := hk 3 _ rfl
  simp [Value.cells, cellsI, cellsIs] at h0 h1 h2 h3
  obtain ⟨x, e0, _, w0⟩ := DataW.trod_int Try.underlying3 h0
  obtain ⟨y, e1, _, w1⟩ := DataW.trod_int Try.underlying3 h1
  simp at e0 e1
  subst e0 e1
  obtain ⟨A, n, c, zs, rfl, hA⟩ := open_row hsp h2
  obtain ⟨A', n', c', zs', rfl, hA'⟩ := open_row hsp h3
  have hrow : Row.okWide Try.prog w r b0 34 #[.int .i64 x, .int .i64 y, .slice A n c, .slice A' n' c'] := by
    have hu := Try.underlying34
    simp only [Value.okWide, hu] at hv0
    obtain ⟨cs, q1, _, q2⟩ := hv0
    cases q1
    exact q2
  obtain ⟨ts, t1, _, t2⟩ := hrow
  rw [typesL] at t1
  cases t1
  have hu := Try.underlying32
  have cell : ∀ (j : Nat) (X : Option Addr) (l k : Nat), (#[Value.int .i64 x, .int .i64 y, .slice A n c, .slice A' n' c'] : Array Value)[j]? = some (.slice X l k) → (j = 2 ∨ j = 3) → Value.okWide Try.prog w r b0 32 (.slice X l k) := by
    intro j X l k hj hjj
    obtain ⟨u, u1, u2⟩ := t2 j _ hj
    have hut : u = 32 := by rcases hjj with rfl | rfl <;> simpa using u1.symm
    subst hut
    simp only [Value.okWide, hu]
    exact u2
  exact ⟨x, y, A, n, c, zs, A', n', c', zs', rfl, win_of_row hu (cell 2 _ _ _ rfl (.inl rfl)) hA, win_of_row hu (cell 3 _ _ _ rfl (.inr rfl)) hA'⟩
end Go.Proofs.Ythllilbmaidhgaa.Open
