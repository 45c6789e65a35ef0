/- A new age of any world, right or not: there is one, and no block is changed. No condition. -/
import Derived.Test.YtbgdhahdihbpaaaEvBQ
namespace Go.Proofs.Ytbgdhahdihbpaaa.Ev
open Go.RowKit
set_option linter.unusedVariables false
/-- What the evaluator answers to plain values, a call answers, up to the blocks' places; no block is changed. -/
theorem calls_some {sums : FuncId → Option Sum} (hs : SumsOk sums) (n : Nat) (f : FuncId) (args : List Value) (v : Value) (ha : plainL args = true) (h : outV (ev sums n f args ⟨.nil, 0⟩) = some v) (W : World) :
    Calls Try.prog f ⟨args⟩ W fun e W' => (∃ ρ, e = .returned (conc ρ v)) ∧ Below W.heap.size W W' := by
  obtain ⟨H', L, hg⟩ := outV_get h
  have hr : Reps Try.prog (fun _ => False) ⟨fun _ => 0, fun _ => 0⟩ (TH.sem ⟨.nil, 0⟩) W := ⟨fun i b hb => (by cases hb), fun i j b b' hb => (by cases hb), fun i b hb => (by cases hb), fun i hi => hi.elim⟩
  have hc := (ev_sound hs n f).calls args ⟨.nil, 0⟩ v H' L hg (fun _ => False) ⟨fun _ => 0, fun _ => 0⟩ W hr (scL_plain _ _ ha)
  rw [concL_plain _ _ ha] at hc
  refine hc.mono ?_
  rintro e W' ⟨K', ρ', rfl, _, _, hf, _, _⟩
  exact ⟨⟨ρ', rfl⟩, ⟨hf.os, hf.tape, hf.output, hf.size, fun k hk => hf.off k hk (fun i _ hi => absurd (show (TH.sem ⟨.nil, 0⟩).get i = none from rfl) hi)⟩⟩
theorem new_ev (T S K G Q slot number : Int) : outV (ev noSums 60 10 [.agg #[.int .i64 T, .int .i64 S, .int .i64 K, .int .i64 G, .int .u64 Q], .int .i64 slot, .int .u64 number] ⟨.nil, 0⟩) =
    bif IntKind.i64.wrap (-1 + 1) == slot then (bif !decide (IntKind.i64.wrap (IntKind.i64.wrap (-1 + 1) + 1) < S) then some (.pointer (some ⟨8, 0, none⟩)) else some (.pointer (some ⟨8, 0, none⟩)))
    else (bif !decide (IntKind.i64.wrap (-1 + 1) < S) then some (.pointer (some ⟨8, 0, none⟩)) else some (.pointer (some ⟨8, 0, none⟩))) := by kernel_rfl
theorem new_any (T S K G Q slot number : Int) (W : World) :
    Calls Try.prog 10 #[.agg #[.int .i64 T, .int .i64 S, .int .i64 K, .int .i64 G, .int .u64 Q], .int .i64 slot, .int .u64 number] W fun e W' => ∃ a, e = .returned (.pointer (some ⟨a, 0, none⟩)) ∧ Below W.heap.size W W' := by
  refine (calls_some noSums_ok 60 _ _ (.pointer (some ⟨8, 0, none⟩)) rfl (by rw [new_ev]; cases (IntKind.i64.wrap (-1 + 1) == slot) <;> (first | (cases (!decide (IntKind.i64.wrap (-1 + 1) < S)) <;> rfl) | (cases (!decide (IntKind.i64.wrap (IntKind.i64.wrap (-1 + 1) + 1) < S)) <;> rfl))) W).mono ?_
  rintro e W' ⟨⟨ρ, rfl⟩, hb⟩
  exact ⟨ρ.blk 8, by simp [conc], hb⟩
end Go.Proofs.Ytbgdhahdihbpaaa.Ev
