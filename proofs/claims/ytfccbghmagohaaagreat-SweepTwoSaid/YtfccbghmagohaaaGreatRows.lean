/-
  No cell of these rows narrows 'for every input' (looked for: loops, veiled, ifaces, maps, wideKeys, modest, calm, conditions, laid).
  DERIVED. THE GIVEN ROWS OF THIS SEAT. 6 by the template 'for every input the law returns true; each argument reads behind the call as it read before'; 0 by the template 'total and deterministic' (their statements: YtfccbghmagohaaaGreatTotals.lean).
  GIVEN WITH THE SEED: the statements are not yours to turn. If you find one false, say at which input.
  Laid BY PROGRAM, IN A SANDBOX (cutbox-rows.mjs): the forced cells as the released guide's own fill.sh prints them over the translation 425313fe26f5acb8… (all of the seat's roots in one cut). By AI agents, Wed Nov 11 2026. No macro, syntax, notation, axiom, sorry.
-/
import Derived.Test.YtfccbghmagohaaaGreatChecked
import GoSem.Claim
import GoSem.ClaimJoined
import GoSem.ClaimMapViews
import Derived.JoinedTies
import Derived.KernelRfl
namespace Go.Proofs.YtfccbghmagohaaaGreat
/- THE CELL 'sum', in the pinned program and in every row, IS THE sha256 OF THE DUMP (.gsa) THAT YtfccbghmagohaaaGreatProg.lean LOADS. Nothing in Lean hashes anything: it is a label: what it is worth is what the hold of that sum in a sandbox is worth. -/
noncomputable def Tryz.pinned : Pinned := { name := "ytfccbghmagohaaagreat", sum := "425313fe26f5acb8e3c6196b6c1e2ee111cfd4246d95a1b4d3a8acbf454fe95d", checked := Tryz.checked }
namespace Rows
def none {H : Type} : Left H := { results := [], args := [] }

/-- 'umpirelaw16.SweepTwo': WHATEVER THE INPUT: true; the input reads as it did. -/
def sweepTwoSpec : ChangeSpec := { name := "sweepTwo", fn := fun _ => fun
  | [d1, d2] => { results := [.lit (.bool true)], args := [d1, d2] }
  | _ => none }
def sweepTwoRow : OpenClaim := { program := "ytfccbghmagohaaagreat", sum := "425313fe26f5acb8e3c6196b6c1e2ee111cfd4246d95a1b4d3a8acbf454fe95d", func := "umpire/umpirelaw16.SweepTwo", spec := "sweepTwo", unfollowed := true, recurses := true, apart := false }
def SweepTwoSaid : Prop := sweepTwoRow.holds Tryz.pinned (OpenSpec.ofChange sweepTwoSpec)

/-- ITS FALSE NEIGHBOUR: 'it returns false'. Refute it at one input. -/
def sweepTwoWrong : ChangeSpec := { name := "sweepTwo", fn := fun _ => fun
  | [d1, d2] => { results := [.lit (.bool false)], args := [d1, d2] }
  | _ => none }
def SweepTwoWrongFalsely : Prop := sweepTwoRow.holds Tryz.pinned (OpenSpec.ofChange sweepTwoWrong)

/-- 'umpirelaw16.SweepGoes': WHATEVER THE INPUT: true; the input reads as it did. -/
def sweepGoesSpec : ChangeSpec := { name := "sweepGoes", fn := fun _ => fun
  | [d1, d2, d3] => { results := [.lit (.bool true)], args := [d1, d2, d3] }
  | _ => none }
def sweepGoesRow : OpenClaim := { program := "ytfccbghmagohaaagreat", sum := "425313fe26f5acb8e3c6196b6c1e2ee111cfd4246d95a1b4d3a8acbf454fe95d", func := "umpire/umpirelaw16.SweepGoes", spec := "sweepGoes", unfollowed := true, recurses := true, apart := false }
def SweepGoesSaid : Prop := sweepGoesRow.holds Tryz.pinned (OpenSpec.ofChange sweepGoesSpec)

/-- ITS FALSE NEIGHBOUR: 'it returns false'. Refute it at one input. -/
def sweepGoesWrong : ChangeSpec := { name := "sweepGoes", fn := fun _ => fun
  | [d1, d2, d3] => { results := [.lit (.bool false)], args := [d1, d2, d3] }
  | _ => none }
def SweepGoesWrongFalsely : Prop := sweepGoesRow.holds Tryz.pinned (OpenSpec.ofChange sweepGoesWrong)

/-- 'umpirelaw16.SweepKnows': WHATEVER THE INPUT: true; the input reads as it did. -/
def sweepKnowsSpec : ChangeSpec := { name := "sweepKnows", fn := fun _ => fun
  | [d1, d2, d3] => { results := [.lit (.bool true)], args := [d1, d2, d3] }
  | _ => none }
def sweepKnowsRow : OpenClaim := { program := "ytfccbghmagohaaagreat", sum := "425313fe26f5acb8e3c6196b6c1e2ee111cfd4246d95a1b4d3a8acbf454fe95d", func := "umpire/umpirelaw16.SweepKnows", spec := "sweepKnows", unfollowed := true, recurses := true, apart := false }
def SweepKnowsSaid : Prop := sweepKnowsRow.holds Tryz.pinned (OpenSpec.ofChange sweepKnowsSpec)

/-- ITS FALSE NEIGHBOUR: 'it returns false'. Refute it at one input. -/
def sweepKnowsWrong : ChangeSpec := { name := "sweepKnows", fn := fun _ => fun
  | [d1, d2, d3] => { results := [.lit (.bool false)], args := [d1, d2, d3] }
  | _ => none }
def SweepKnowsWrongFalsely : Prop := sweepKnowsRow.holds Tryz.pinned (OpenSpec.ofChange sweepKnowsWrong)

/-- 'umpirelaw16.SweepOnce': WHATEVER THE INPUT: true; the input reads as it did. -/
def sweepOnceSpec : ChangeSpec := { name := "sweepOnce", fn := fun _ => fun
  | [d1, d2, d3] => { results := [.lit (.bool true)], args := [d1, d2, d3] }
  | _ => none }
def sweepOnceRow : OpenClaim := { program := "ytfccbghmagohaaagreat", sum := "425313fe26f5acb8e3c6196b6c1e2ee111cfd4246d95a1b4d3a8acbf454fe95d", func := "umpire/umpirelaw16.SweepOnce", spec := "sweepOnce", unfollowed := true, recurses := true, apart := false }
def SweepOnceSaid : Prop := sweepOnceRow.holds Tryz.pinned (OpenSpec.ofChange sweepOnceSpec)

/-- ITS FALSE NEIGHBOUR: 'it returns false'. Refute it at one input. -/
def sweepOnceWrong : ChangeSpec := { name := "sweepOnce", fn := fun _ => fun
  | [d1, d2, d3] => { results := [.lit (.bool false)], args := [d1, d2, d3] }
  | _ => none }
def SweepOnceWrongFalsely : Prop := sweepOnceRow.holds Tryz.pinned (OpenSpec.ofChange sweepOnceWrong)

/-- 'umpirelaw16.SweepSteps': WHATEVER THE INPUT: true; the input reads as it did. -/
def sweepStepsSpec : ChangeSpec := { name := "sweepSteps", fn := fun _ => fun
  | [d1, d2, d3] => { results := [.lit (.bool true)], args := [d1, d2, d3] }
  | _ => none }
def sweepStepsRow : OpenClaim := { program := "ytfccbghmagohaaagreat", sum := "425313fe26f5acb8e3c6196b6c1e2ee111cfd4246d95a1b4d3a8acbf454fe95d", func := "umpire/umpirelaw16.SweepSteps", spec := "sweepSteps", unfollowed := true, recurses := true, apart := false }
def SweepStepsSaid : Prop := sweepStepsRow.holds Tryz.pinned (OpenSpec.ofChange sweepStepsSpec)

/-- ITS FALSE NEIGHBOUR: 'it returns false'. Refute it at one input. -/
def sweepStepsWrong : ChangeSpec := { name := "sweepSteps", fn := fun _ => fun
  | [d1, d2, d3] => { results := [.lit (.bool false)], args := [d1, d2, d3] }
  | _ => none }
def SweepStepsWrongFalsely : Prop := sweepStepsRow.holds Tryz.pinned (OpenSpec.ofChange sweepStepsWrong)

/-- 'umpirelaw16.SweepAlone': WHATEVER THE INPUT: true; the input reads as it did. -/
def sweepAloneSpec : ChangeSpec := { name := "sweepAlone", fn := fun _ => fun
  | [d1, d2, d3] => { results := [.lit (.bool true)], args := [d1, d2, d3] }
  | _ => none }
def sweepAloneRow : OpenClaim := { program := "ytfccbghmagohaaagreat", sum := "425313fe26f5acb8e3c6196b6c1e2ee111cfd4246d95a1b4d3a8acbf454fe95d", func := "umpire/umpirelaw16.SweepAlone", spec := "sweepAlone", unfollowed := true, recurses := true, apart := false }
def SweepAloneSaid : Prop := sweepAloneRow.holds Tryz.pinned (OpenSpec.ofChange sweepAloneSpec)

/-- ITS FALSE NEIGHBOUR: 'it returns false'. Refute it at one input. -/
def sweepAloneWrong : ChangeSpec := { name := "sweepAlone", fn := fun _ => fun
  | [d1, d2, d3] => { results := [.lit (.bool false)], args := [d1, d2, d3] }
  | _ => none }
def SweepAloneWrongFalsely : Prop := sweepAloneRow.holds Tryz.pinned (OpenSpec.ofChange sweepAloneWrong)

/- THE SECOND FORM. 'bulk': how many values and letters a reading holds, each counted each time it is reached (what is shared counts as often as it is met; a slice's spare places count too). A statement '..UptoSaid' is the law's where the arguments, and the package variables that the reading takes, are together of bulk at most 1048576: NARROWER than '..Said'. Prove '..Said' where nothing that the law and all that it calls make is longer than what came in: it says more and counts as full. Else prove '..UptoSaid'. A law counts once. -/
mutual
def uptoBulk {H : Type} : DataW H → Nat
  | .lit (.string bytes) => bytes.length + 1
  | .lit _ => 1
  | .nil => 1
  | .ptr d => uptoBulk d + 1
  | .slice elems spare => uptoBulkAll elems + uptoBulkAll spare + 1
  | .agg parts => uptoBulkAll parts + 1
  | .iface _ d => uptoBulk d + 1
  | .map entries => uptoBulkEntries entries + 1
  | .held _ => 1
def uptoBulkAll {H : Type} : List (DataW H) → Nat
  | [] => 0
  | d :: r => uptoBulk d + uptoBulkAll r
def uptoBulkEntries {H : Type} : List (Lit × DataW H) → Nat
  | [] => 0
  | x :: r => uptoBulkEntry x + uptoBulkEntries r
def uptoBulkEntry {H : Type} : Lit × DataW H → Nat
  | (.string bytes, d) => bytes.length + uptoBulk d + 1
  | (_, d) => uptoBulk d + 1
 end
def uptoSmall : (H : Type) → List (DataW H) → Bool := fun _ ds => decide (uptoBulkAll ds ≤ 1048576)
def OpenSpec.upto (s : _root_.Go.ChangeSpec) : _root_.Go.OpenSpec := { _root_.Go.OpenSpec.ofChange s with cond := some uptoSmall }

/-- 'umpirelaw16.SweepTwo', WHERE WHAT IT READS IS OF BULK AT MOST 1048576: true; the input reads as it did. -/
def sweepTwoUptoRow : OpenClaim := { program := "ytfccbghmagohaaagreat", sum := "425313fe26f5acb8e3c6196b6c1e2ee111cfd4246d95a1b4d3a8acbf454fe95d", func := "umpire/umpirelaw16.SweepTwo", spec := "sweepTwo", unfollowed := true, recurses := true, apart := false, narrowed := true }
def SweepTwoUptoSaid : Prop := sweepTwoUptoRow.holds Tryz.pinned (OpenSpec.upto sweepTwoSpec)

/-- 'umpirelaw16.SweepGoes', WHERE WHAT IT READS IS OF BULK AT MOST 1048576: true; the input reads as it did. -/
def sweepGoesUptoRow : OpenClaim := { program := "ytfccbghmagohaaagreat", sum := "425313fe26f5acb8e3c6196b6c1e2ee111cfd4246d95a1b4d3a8acbf454fe95d", func := "umpire/umpirelaw16.SweepGoes", spec := "sweepGoes", unfollowed := true, recurses := true, apart := false, narrowed := true }
def SweepGoesUptoSaid : Prop := sweepGoesUptoRow.holds Tryz.pinned (OpenSpec.upto sweepGoesSpec)

/-- 'umpirelaw16.SweepKnows', WHERE WHAT IT READS IS OF BULK AT MOST 1048576: true; the input reads as it did. -/
def sweepKnowsUptoRow : OpenClaim := { program := "ytfccbghmagohaaagreat", sum := "425313fe26f5acb8e3c6196b6c1e2ee111cfd4246d95a1b4d3a8acbf454fe95d", func := "umpire/umpirelaw16.SweepKnows", spec := "sweepKnows", unfollowed := true, recurses := true, apart := false, narrowed := true }
def SweepKnowsUptoSaid : Prop := sweepKnowsUptoRow.holds Tryz.pinned (OpenSpec.upto sweepKnowsSpec)

/-- 'umpirelaw16.SweepOnce', WHERE WHAT IT READS IS OF BULK AT MOST 1048576: true; the input reads as it did. -/
def sweepOnceUptoRow : OpenClaim := { program := "ytfccbghmagohaaagreat", sum := "425313fe26f5acb8e3c6196b6c1e2ee111cfd4246d95a1b4d3a8acbf454fe95d", func := "umpire/umpirelaw16.SweepOnce", spec := "sweepOnce", unfollowed := true, recurses := true, apart := false, narrowed := true }
def SweepOnceUptoSaid : Prop := sweepOnceUptoRow.holds Tryz.pinned (OpenSpec.upto sweepOnceSpec)

/-- 'umpirelaw16.SweepSteps', WHERE WHAT IT READS IS OF BULK AT MOST 1048576: true; the input reads as it did. -/
def sweepStepsUptoRow : OpenClaim := { program := "ytfccbghmagohaaagreat", sum := "425313fe26f5acb8e3c6196b6c1e2ee111cfd4246d95a1b4d3a8acbf454fe95d", func := "umpire/umpirelaw16.SweepSteps", spec := "sweepSteps", unfollowed := true, recurses := true, apart := false, narrowed := true }
def SweepStepsUptoSaid : Prop := sweepStepsUptoRow.holds Tryz.pinned (OpenSpec.upto sweepStepsSpec)

/-- 'umpirelaw16.SweepAlone', WHERE WHAT IT READS IS OF BULK AT MOST 1048576: true; the input reads as it did. -/
def sweepAloneUptoRow : OpenClaim := { program := "ytfccbghmagohaaagreat", sum := "425313fe26f5acb8e3c6196b6c1e2ee111cfd4246d95a1b4d3a8acbf454fe95d", func := "umpire/umpirelaw16.SweepAlone", spec := "sweepAlone", unfollowed := true, recurses := true, apart := false, narrowed := true }
def SweepAloneUptoSaid : Prop := sweepAloneUptoRow.holds Tryz.pinned (OpenSpec.upto sweepAloneSpec)

end Rows
end Go.Proofs.YtfccbghmagohaaaGreat
