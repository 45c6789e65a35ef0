/- EV: a contract over plain values, used as a sum. Conditions stand in the statement. -/
import Derived.Test.YtkgofabpmppglaaGreatEvB
namespace Go.Proofs.YtkgofabpmppglaaGreat.Ev
open Go.RowKit
set_option linter.unusedVariables false
def pureSum (s : List Value → Option Value) : Sum := fun args H => ofOpt (s args) fun v => .leaf (v, H, [])
theorem pureSum_ok {P : Program} {f : FuncId} {s : List Value → Option Value} (hp : ∀ args v, s args = some v → plainL args = true ∧ plain v = true)
    (h : ∀ args v W, s args = some v → Calls P f ⟨args⟩ W fun e W' => e = .returned v ∧ Below W.heap.size W W') : SoundSum P f (pureSum s) := by
  refine ⟨fun args H v H' L hg K ρ w hr hsc => ?_, fun args H v H' L hg => ?_⟩
  · unfold pureSum at hg
    cases hs : s args with
    | none => rw [hs] at hg; simp [ofOpt] at hg
    | some u =>
      rw [hs] at hg
      simp [ofOpt] at hg
      obtain ⟨rfl, rfl, rfl⟩ := hg
      obtain ⟨p1, p2⟩ := hp _ _ hs
      rw [concL_plain _ _ p1]
      refine (h args u w hs).mono ?_
      rintro e w' ⟨rfl, hb⟩
      refine ⟨K, ρ, by rw [conc_plain _ _ p2], sc_plain _ _ p2, ⟨fun i b hi => ?_, hr.inj, hr.known, hr.low⟩, ⟨Same.refl _ _, Nat.le_refl _, hb.os, hb.tape, hb.output, hb.size, fun b hlt _ => hb.block b hlt, fun i hi hn => ?_, fun i _ _ => rfl, fun i _ hn => hn⟩, fun _ x => x, fun _ x => .inl x⟩
      · obtain ⟨ex, h1, h2⟩ := hr.blk i b hi
        exact ⟨ex, by rw [hb.block _ (hr.lt hi)]; exact h1, h2⟩
      · cases hg2 : H.sem.get i with
        | none => exact absurd hg2 hn
        | some b => exact absurd (hr.known i b hg2).1 hi
  · unfold pureSum at hg
    cases hs : s args with
    | none => rw [hs] at hg; simp [ofOpt] at hg
    | some u =>
      rw [hs] at hg
      simp [ofOpt] at hg
      obtain ⟨rfl, rfl, rfl⟩ := hg
      exact ⟨Nat.le_refl _, fun i _ _ => rfl⟩
/-- A pure function, by the evaluator. -/
theorem pure_of_ev {sums : Sums} (hs : SumsOk sums) (n : Nat) {f : FuncId} {s : List Value → Option Value} (h : ∀ args v, s args = some v → plainL args = true ∧ plain v = true ∧ outV (ev sums n f args ⟨.nil, 0⟩) = some v) : SoundSum Tryz.prog f (pureSum s) :=
  pureSum_ok (fun args v hv => ⟨(h args v hv).1, (h args v hv).2.1⟩) (fun args v W hv => calls_plain hs n f args v (h args v hv).1 (h args v hv).2.1 (h args v hv).2.2 W)
/-- It is used. -/
noncomputable def withPure (sums : Sums) (f : Nat) (s : List Value → Option Value) : Sums := withCall sums f (pureSum s)
theorem withPure_ok {sums sums' : Sums} (hs : SumsOk sums) (hs' : SumsOk sums') (n : Nat) {f : FuncId} {s : List Value → Option Value} (hf : (fns f).isSome = true) (h : ∀ args v, s args = some v → plainL args = true ∧ plain v = true ∧ outV (ev sums' n f args ⟨.nil, 0⟩) = some v) : SumsOk (withPure sums f s) :=
  withCall_ok hs (pure_of_ev hs' n h) hf
end Go.Proofs.YtkgofabpmppglaaGreat.Ev
