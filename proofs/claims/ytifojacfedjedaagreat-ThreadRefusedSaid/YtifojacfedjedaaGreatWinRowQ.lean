/- Rows that are handed in, as windows of the evaluator's. No condition. -/
import Derived.Test.YtifojacfedjedaaGreatEvCQ
import Derived.Test.YtifojacfedjedaaGreatOpenWinsQ
namespace Go.Proofs.YtifojacfedjedaaGreat.Ev
open Go.RowKit
set_option linter.unusedVariables false
theorem plainL_ints' {k : IntKind} : ∀ ws : List Int, plainL (ws.map (Value.int k)) = true
  | [] => rfl
  | x :: l => by simp only [List.map_cons, plainL, plain, plainL_ints' l]; rfl
theorem seen_ints {W : World} {b off len cap room : Nat} {k : IntKind} {zs : List Int} {cs : Array Value} {t : TypeId} {fr : Nat × Nat} (h1 : len ≤ cap) (h2 : zs.length = cap) (hb : W.heap[b]? = some (.cells cs t fr)) (hc : ∀ i, i < zs.length → cs[off + i]? = some (.int k (zs.getD i 0))) :
    Seen W ⟨b, room, off, .ints k (zs.take len)⟩ := by
  refine ⟨plainL_ints' _, rfl, cs, t, fr, hb, fun j v hv => ?_⟩
  simp only [Cells.list, List.getElem?_map, List.getElem?_take] at hv
  split at hv
  · rename_i hj
    have hlt : j < zs.length := by omega
    rw [List.getElem?_eq_getElem hlt] at hv
    simp at hv
    subst hv
    rw [hc j hlt, List.getD_eq_getElem?_getD, List.getElem?_eq_getElem hlt]
    rfl
  · simp at hv
theorem words_take {zs : List Int} {len : Nat} (h : ∀ n ∈ zs, (Lit.int .u64 n).wf = true) : ∀ n ∈ zs.take len, 0 ≤ n ∧ n < 18446744073709551616 := fun n hn => by
  have := h n (List.mem_of_mem_take hn)
  simp [Lit.wf, IntKind.has, IntKind.min, IntKind.max, IntKind.signed, IntKind.bits] at this
  omega
end Go.Proofs.YtifojacfedjedaaGreat.Ev
