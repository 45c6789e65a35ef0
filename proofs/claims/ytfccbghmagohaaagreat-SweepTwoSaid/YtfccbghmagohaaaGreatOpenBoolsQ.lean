/- Values that are handed in, opened: a row of truths, as records of one cell. Condition: the value is one that can be read as data. -/
import Derived.Test.YtfccbghmagohaaaGreatOpenWinsQ
namespace Go.Proofs.YtfccbghmagohaaaGreat.Open
open Go.ChangeShapes Go.WideShapes Go.ChangeAt Go.RowKit Go.Joins
set_option maxRecDepth 100000
theorem cellsBo : Tryz.prog.cellsOf 4 = 1 := by kernel_rfl
/-- A row of truths, in a block: each is a record of one number, 1 or 0. -/
def IsBools (w : World) (a : Option Addr) (len cap : Nat) (rs : List (List Int)) : Prop :=
  (a = none ∧ len = 0 ∧ cap = 0 ∧ rs = []) ∨
  ∃ b off cs t fr, a = some ⟨b, off, none⟩ ∧ len ≤ cap ∧ w.heap[b]? = some (.cells cs t fr) ∧ rs.length = len ∧
    ∀ j, j < len → ∃ x : Bool, rs[j]? = some [if x = true then 1 else 0] ∧ cs[off + j]? = some (.bool x)
theorem add_offB (b off n : Nat) : (⟨b, off, none⟩ : Addr).add n = ⟨b, off + n, none⟩ := by
  unfold Addr.add
  by_cases h : n = 0
  · subst h; rfl
  · simp [h]
theorem open_bools {H : Type} {enc : TypeId × Value → H} {w : World} {base : Nat} {spare : Nat → Bool} {held : Bool} {r : Reach} {b0 : Nat} {v : Value} {d : DataW H} {p : List MemPlace}
    (hv : Value.okWide Tryz.prog w r b0 25 v) (h : DataW.Trod enc Tryz.prog w base spare held 25 v d p) :
    ∃ (A : Option Addr) (n c : Nat) (rs : List (List Int)), v = .slice A n c ∧ IsBools w A n c rs := by
  have hu := Tryz.underlying25
  obtain ⟨fuel, hf⟩ := h
  obtain ⟨a, l, cap, rfl⟩ := okWide_slice hu hv
  rcases DataW.trod_slice hu hf with ⟨e3, _⟩ | ⟨a', l', cap', elems, rest, m, _, e3, _, hb, hl, _, hel, hat, _⟩
  · simp [Value.cells] at e3
    obtain ⟨rfl, rfl, rfl⟩ := e3
    exact ⟨none, 0, 0, [], rfl, .inl ⟨rfl, rfl, rfl, rfl⟩⟩
  · simp [Value.cells] at e3
    obtain ⟨rfl, rfl, rfl⟩ := e3
    have each : ∀ j, j < l → ∃ x : Bool, w.cell? (a'.add j) = some (.bool x) := by
      intro j hj
      have hj' := hat j hj
      rw [cellsBo, List.getElem?_eq_getElem (by omega), Option.bind_eq_some_iff] at hj'
      obtain ⟨cs, c1, c2⟩ := hj'
      obtain ⟨x, rfl, _⟩ := DataW.trod_bool Tryz.underlying4 c2
      obtain ⟨_, _, c3⟩ := World.cells?_some c1
      have q0 := c3 0 (by omega)
      simp at q0
      refine ⟨x, ?_⟩
      simpa [Addr.add] using q0
    have hh : a'.spot = none ∧ ∃ cs t fr, w.heap[a'.block]? = some (.cells cs t fr) := by
      have hw : w.has Tryz.prog r b0 a' 4 cap := by
        simp only [Value.okWide, hu, Cell.okWide, Cell.ok] at hv
        exact hv.2.2
      obtain ⟨_, hs, row, cells, hsh, _⟩ := hw
      refine ⟨hs, ?_⟩
      unfold World.shape? at hsh
      split at hsh
      · rename_i cs t' fr hb
        exact ⟨cs, t', fr, hb⟩
      · cases hsh
    obtain ⟨hs, cs, t', fr, hb'⟩ := hh
    obtain ⟨b, off, sp⟩ := a'
    simp only at hs hb'
    subst hs
    have pick : ∃ rs : List (List Int), rs.length = l ∧ ∀ j, j < l → ∃ x : Bool, rs[j]? = some [if x = true then 1 else 0] ∧ cs[off + j]? = some (.bool x) := by
      have upto : ∀ k, k ≤ l → ∃ rs : List (List Int), rs.length = k ∧ ∀ j, j < k → ∃ x : Bool, rs[j]? = some [if x = true then 1 else 0] ∧ cs[off + j]? = some (.bool x) := by
        intro k
        induction k with
        | zero => exact fun _ => ⟨[], rfl, fun j hj => by omega⟩
        | succ k ih =>
          intro hk
          obtain ⟨rs, r1, r2⟩ := ih (by omega)
          obtain ⟨x, e⟩ := each k (by omega)
          rw [add_offB] at e
          simp only [World.cell?, hb'] at e
          refine ⟨rs ++ [[if x = true then 1 else 0]], by simp [r1], fun j hj => ?_⟩
          by_cases hjk : j < k
          · obtain ⟨x', q1, q2⟩ := r2 j hjk
            exact ⟨x', by rw [List.getElem?_append_left (by omega)]; exact q1, q2⟩
          · have : j = k := by omega
            subst this
            exact ⟨x, by rw [List.getElem?_append_right (by omega), r1]; simp, e⟩
      exact upto l (Nat.le_refl _)
    obtain ⟨rs, r1, r2⟩ := pick
    exact ⟨some ⟨b, off, none⟩, l, cap, rs, rfl, .inr ⟨b, off, cs, t', fr, rfl, hl, hb', r1, r2⟩⟩
end Go.Proofs.YtfccbghmagohaaaGreat.Open
