/- Values that are handed in, opened: a play, with what is written meanwhile as records. Condition: the value is one that can be read as data. -/
import Derived.Test.YtfmhlldfpohokaaGreatOpenWinsQ
namespace Go.Proofs.YtfmhlldfpohokaaGreat.Open
open Go.ChangeShapes Go.WideShapes Go.ChangeAt Go.RowKit Go.Joins
set_option maxRecDepth 100000
theorem cellsP : Tryz.prog.cellsOf 28 = 4 := by kernel_rfl
theorem cellsPs : Tryz.prog.cellsOf 26 = 1 := by kernel_rfl
theorem cellsPoke : Tryz.prog.cellsOf 97 = 4 := by kernel_rfl
theorem typesP : Tryz.prog.cellTypes Tryz.prog.depth 28 = some [3, 22, 3, 26] := by kernel_rfl
/-- A row of records of three whole numbers, and a word, in a block. -/
def IsPokes (w : World) (a : Option Addr) (len cap : Nat) (rs : List (List Int)) : Prop :=
  (a = none ∧ len = 0 ∧ cap = 0 ∧ rs = []) ∨
  ∃ b off cs t fr, a = some ⟨b, off, none⟩ ∧ len ≤ cap ∧ w.heap[b]? = some (.cells cs t fr) ∧ rs.length = len ∧
    ∀ j, j < len → ∃ x y z v : Int, rs[j]? = some [x, y, z, v] ∧ (Lit.int .u64 v).wf = true ∧ cs[off + j * 4]? = some (.int .i64 x) ∧ cs[off + j * 4 + 1]? = some (.int .i64 y) ∧ cs[off + j * 4 + 2]? = some (.int .i64 z) ∧ cs[off + j * 4 + 3]? = some (.int .u64 v)
theorem open_poke {H : Type} {enc : TypeId × Value → H} {w : World} {base : Nat} {spare : Nat → Bool} {held : Bool} {fuel : Nat} {cs : List Value} {x : DataW H × List MemPlace}
    (h : DataW.trod enc Tryz.prog w base spare held fuel 97 cs = some x) :
    ∃ (x y z v : Int), cs = [.int .i64 x, .int .i64 y, .int .i64 z, .int .u64 v] ∧ (Lit.int .u64 v).wf = true := by
  obtain ⟨xs, n, _, _, hsz, hlen, hk⟩ := DataW.trod_struct Tryz.underlying97 h
  rw [cellsPoke] at hsz
  obtain ⟨c0, c1, c2, c3, rfl⟩ := list4 hsz
  obtain ⟨y0, y1, y2, y3, rfl⟩ := list4 (show xs.length = 4 from hlen)
  have h0 := hk 0 _ rfl
  have h1 := hk 1 _ rfl
  have h2 := hk 2 _ rfl
  have h3 := hk 3 _ rfl
  simp [cellsI, cellsU] at h0 h1 h2 h3
  obtain ⟨x, e0, _, w0⟩ := DataW.trod_int Tryz.underlying3 h0
  obtain ⟨y, e1, _, w1⟩ := DataW.trod_int Tryz.underlying3 h1
  obtain ⟨z, e2, _, w2⟩ := DataW.trod_int Tryz.underlying3 h2
  obtain ⟨v, e3, _, w3⟩ := DataW.trod_int Tryz.underlying22 h3
  simp at e0 e1 e2 e3
  subst e0 e1 e2 e3
  exact ⟨x, y, z, v, rfl, w3⟩
theorem add_off (b off n : Nat) : (⟨b, off, none⟩ : Addr).add n = ⟨b, off + n, none⟩ := by
  unfold Addr.add
  by_cases h : n = 0
  · subst h; rfl
  · simp [h]
theorem open_play {H : Type} {enc : TypeId × Value → H} {w : World} {base : Nat} {spare : Nat → Bool} {held : Bool} {r : Reach} {b0 : Nat} {v : Value} {d : DataW H} {p : List MemPlace}
    (hv : Value.okWide Tryz.prog w r b0 28 v) (h : DataW.Trod enc Tryz.prog w base spare held 28 v d p) :
    ∃ (x y z : Int) (A : Option Addr) (n c : Nat) (rs : List (List Int)), v = .agg #[.int .i64 x, .int .u64 y, .int .i64 z, .slice A n c] ∧ (Lit.int .i64 x).wf = true ∧ (Lit.int .u64 y).wf = true ∧ (Lit.int .i64 z).wf = true ∧ IsPokes w A n c rs := by
  have hv0 := hv
  obtain ⟨cs, rfl, hsz⟩ := okWide_struct Tryz.underlying28 hv
  obtain ⟨c0, c1, c2, c3, rfl⟩ := array4 (hsz.trans cellsP)
  obtain ⟨fuel, hf⟩ := h
  obtain ⟨xs, n, _, _, _, hlen, hk⟩ := DataW.trod_struct Tryz.underlying28 hf
  obtain ⟨y0, y1, y2, y3, rfl⟩ := list4 (show xs.length = 4 from hlen)
  have h0 := hk 0 _ rfl
  have h1 := hk 1 _ rfl
  have h2 := hk 2 _ rfl
  have h3 := hk 3 _ rfl
  simp [Value.cells, cellsI, cellsU, cellsPs] at h0 h1 h2 h3
  obtain ⟨x, e0, _, w0⟩ := DataW.trod_int Tryz.underlying3 h0
  obtain ⟨y, e1, _, w1⟩ := DataW.trod_int Tryz.underlying22 h1
  obtain ⟨z, e2, _, w2⟩ := DataW.trod_int Tryz.underlying3 h2
  simp at e0 e1 e2
  subst e0 e1 e2
  rcases DataW.trod_slice Tryz.underlying26 h3 with ⟨e3, _⟩ | ⟨a, l, cap, elems, rest, m, _, e3, _, hb, hl, _, hel, hat, _⟩
  · simp at e3; subst e3; exact ⟨x, y, z, none, 0, 0, [], rfl, w0, w1, w2, .inl ⟨rfl, rfl, rfl, rfl⟩⟩
  · simp at e3
    subst e3
    -- each record
    have each : ∀ j, j < l → ∃ x y z v : Int, (Lit.int .u64 v).wf = true ∧ w.cell? (a.add (j * 4)) = some (.int .i64 x) ∧ w.cell? ((a.add (j * 4)).add 1) = some (.int .i64 y) ∧ w.cell? ((a.add (j * 4)).add 2) = some (.int .i64 z) ∧ w.cell? ((a.add (j * 4)).add 3) = some (.int .u64 v) := by
      intro j hj
      have hj' := hat j hj
      rw [cellsPoke, List.getElem?_eq_getElem (by omega), Option.bind_eq_some_iff] at hj'
      obtain ⟨cs, c1, c2⟩ := hj'
      obtain ⟨x, y, z, v, rfl, hv⟩ := open_poke c2
      obtain ⟨_, _, c3⟩ := World.cells?_some c1
      have q0 := c3 0 (by omega)
      have q1 := c3 1 (by omega)
      have q2 := c3 2 (by omega)
      have q3 := c3 3 (by omega)
      simp at q1 q2 q3
      refine ⟨x, y, z, v, hv, ?_, q1, q2, q3⟩
      simpa [Addr.add] using q0
    -- where they lie
    have hh : a.spot = none ∧ ∃ cs t fr, w.heap[a.block]? = some (.cells cs t fr) := by
      have hrow : Row.okWide Tryz.prog w r b0 28 #[.int .i64 x, .int .u64 y, .int .i64 z, .slice (some a) l cap] := by
        have hu := Tryz.underlying28
        simp only [Value.okWide, hu] at hv0
        obtain ⟨cs, q1, _, q2⟩ := hv0
        cases q1
        exact q2
      obtain ⟨ts, t1, _, t2⟩ := hrow
      rw [typesP] at t1
      cases t1
      obtain ⟨u, u1, u2⟩ := t2 3 (.slice (some a) l cap) rfl
      simp at u1
      subst u1
      have hu := Tryz.underlying26
      have hw : w.has Tryz.prog r b0 a 97 cap := by
        simp only [Cell.okWide, hu, Cell.ok] at u2
        exact u2.2.2
      obtain ⟨_, hs, row, cells, hsh, _⟩ := hw
      refine ⟨hs, ?_⟩
      unfold World.shape? at hsh
      split at hsh
      · rename_i cs t' fr hb
        exact ⟨cs, t', fr, hb⟩
      · cases hsh
    obtain ⟨hs, cs, t', fr, hb'⟩ := hh
    obtain ⟨b, off, sp⟩ := a
    simp only at hs hb'
    subst hs
    have pick : ∃ rs : List (List Int), rs.length = l ∧ ∀ j, j < l → ∃ x y z v : Int, rs[j]? = some [x, y, z, v] ∧ (Lit.int .u64 v).wf = true ∧ cs[off + j * 4]? = some (.int .i64 x) ∧ cs[off + j * 4 + 1]? = some (.int .i64 y) ∧ cs[off + j * 4 + 2]? = some (.int .i64 z) ∧ cs[off + j * 4 + 3]? = some (.int .u64 v) := by
      clear hat hel h3 hk hf
      have upto : ∀ k, k ≤ l → ∃ rs : List (List Int), rs.length = k ∧ ∀ j, j < k → ∃ x y z v : Int, rs[j]? = some [x, y, z, v] ∧ (Lit.int .u64 v).wf = true ∧ cs[off + j * 4]? = some (.int .i64 x) ∧ cs[off + j * 4 + 1]? = some (.int .i64 y) ∧ cs[off + j * 4 + 2]? = some (.int .i64 z) ∧ cs[off + j * 4 + 3]? = some (.int .u64 v) := by
        intro k
        induction k with
        | zero => exact fun _ => ⟨[], rfl, fun j hj => by omega⟩
        | succ k ih =>
          intro hk
          obtain ⟨rs, r1, r2⟩ := ih (by omega)
          obtain ⟨x, y, z, v, e1, e2, e3, e4, e5⟩ := each k (by omega)
          simp only [add_off, World.cell?, hb'] at e2 e3 e4 e5
          refine ⟨rs ++ [[x, y, z, v]], by simp [r1], fun j hj => ?_⟩
          by_cases hjk : j < k
          · obtain ⟨x', y', z', v', q1, q2⟩ := r2 j hjk
            exact ⟨x', y', z', v', by rw [List.getElem?_append_left (by omega)]; exact q1, q2⟩
          · have : j = k := by omega
            subst this
            exact ⟨x, y, z, v, by rw [List.getElem?_append_right (by omega), r1]; simp, e1, e2, e3, e4, e5⟩
      exact upto l (Nat.le_refl _)
    obtain ⟨rs, r1, r2⟩ := pick
    exact ⟨x, y, z, some ⟨b, off, none⟩, l, cap, rs, rfl, w0, w1, w2, .inr ⟨b, off, cs, t', fr, rfl, hl, hb', r1, r2⟩⟩
end Go.Proofs.YtfmhlldfpohokaaGreat.Open
