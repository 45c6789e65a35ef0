/- Records that are handed in, as windows of the evaluator's. No condition. -/
import Derived.Test.YtfmhlldfpohokaaGreatPokedQ
import Derived.Test.YtfmhlldfpohokaaGreatOpenPokesQ
import Derived.Test.YtfmhlldfpohokaaGreatStepsBQ
namespace Go.Proofs.YtfmhlldfpohokaaGreat.Bound
open Go.RowKit Go.Proofs.YtfmhlldfpohokaaGreat.Ev
set_option linter.unusedVariables false
theorem seen_flat {cs : Array Value} : ∀ (rs : List (List Int)) (off : Nat), (∀ j, j < rs.length → ∃ x y z v : Int, rs[j]? = some [x, y, z, v] ∧ (Lit.int .u64 v).wf = true ∧ cs[off + j * 4]? = some (.int .i64 x) ∧ cs[off + j * 4 + 1]? = some (.int .i64 y) ∧ cs[off + j * 4 + 2]? = some (.int .i64 z) ∧ cs[off + j * 4 + 3]? = some (.int .u64 v)) →
    ∀ (j : Nat) v, (rs.flatMap (encR pokeR 0))[j]? = some v → cs[off + j]? = some v
  | [], off, _, j, v, h => by simp at h
  | r :: rs, off, hr, j, v, h => by
    obtain ⟨x, y, z, u, h0, _, h1, h2, h3, h4⟩ := hr 0 (by simp)
    simp at h0
    subst h0
    have e : (([x, y, z, u] :: rs).flatMap (encR pokeR 0)) = [.int .i64 x, .int .i64 y, .int .i64 z, .int .u64 u] ++ rs.flatMap (encR pokeR 0) := rfl
    rw [e] at h
    simp only [Nat.zero_mul, Nat.add_zero] at h1 h2 h3 h4
    by_cases hj : j < 4
    · rw [List.getElem?_append_left (by simpa using hj)] at h
      match j, hj with
      | 0, _ => simp at h; subst h; exact h1
      | 1, _ => simp at h; subst h; exact h2
      | 2, _ => simp at h; subst h; exact h3
      | 3, _ => simp at h; subst h; exact h4
    · rw [List.getElem?_append_right (by simp; omega)] at h
      simp only [List.length_cons, List.length_nil] at h
      have := seen_flat rs (off + 4) (fun k hk => by
        obtain ⟨x', y', z', v', q0, q1, q2, q3, q4, q5⟩ := hr (k + 1) (by simpa using hk)
        refine ⟨x', y', z', v', by simpa using q0, q1, ?_, ?_, ?_, ?_⟩
        · rw [← q2]; congr 1; omega
        · rw [← q3]; congr 1; omega
        · rw [← q4]; congr 1; omega
        · rw [← q5]; congr 1; omega) (j - 4) v h
      rw [← this]
      congr 1
      omega
theorem seen_pokes {W : World} {b off room : Nat} {rs : List (List Int)} {len : Nat} {cs : Array Value} {t : TypeId} {fr : Nat × Nat} (hb : W.heap[b]? = some (.cells cs t fr)) (hl : rs.length = len)
    (hr : ∀ j, j < len → ∃ x y z v : Int, rs[j]? = some [x, y, z, v] ∧ (Lit.int .u64 v).wf = true ∧ cs[off + j * 4]? = some (.int .i64 x) ∧ cs[off + j * 4 + 1]? = some (.int .i64 y) ∧ cs[off + j * 4 + 2]? = some (.int .i64 z) ∧ cs[off + j * 4 + 3]? = some (.int .u64 v)) :
    Seen W ⟨b, room, off, .recs pokeR rs⟩ ∧ pokesOk rs := by
  refine ⟨⟨plainL_recs _, rfl, cs, t, fr, hb, fun j v hv => seen_flat rs off (by rw [hl]; exact hr) j v hv⟩, fun p hp => ?_⟩
  obtain ⟨j, hj⟩ := List.getElem?_of_mem hp
  obtain ⟨x, y, z, v, h0, h1, _⟩ := hr j (by have := (List.getElem?_eq_some_iff.1 hj).1; omega)
  rw [hj] at h0
  cases h0
  simp [Lit.wf, IntKind.has, IntKind.min, IntKind.max, IntKind.signed, IntKind.bits] at h1
  simp
  omega
theorem seen_none {W : World} {b off room : Nat} {cs : Array Value} {t : TypeId} {fr : Nat × Nat} (hb : W.heap[b]? = some (.cells cs t fr)) : Seen W ⟨b, room, off, .recs pokeR []⟩ :=
  ⟨rfl, rfl, cs, t, fr, hb, fun j v hv => by simp [Cells.list] at hv⟩
end Go.Proofs.YtfmhlldfpohokaaGreat.Bound
