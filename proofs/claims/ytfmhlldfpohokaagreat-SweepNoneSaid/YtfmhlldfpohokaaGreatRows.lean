/-
  No cell of these rows narrows 'for every input' (looked for: loops, veiled, ifaces, maps, wideKeys, modest, calm, conditions, laid).
  DERIVED. THE GIVEN ROWS OF THIS SEAT. 3 by the template 'for every input the law returns true; each argument reads behind the call as it read before'; 0 by the template 'total and deterministic' (their statements: YtfmhlldfpohokaaGreatTotals.lean).
  GIVEN WITH THE SEED: the statements are not yours to turn. If you find one false, say at which input.
  Laid BY PROGRAM, IN A SANDBOX (cutbox-rows.mjs): the forced cells as the released guide's own fill.sh prints them over the translation e3971068d948f461… (all of the seat's roots in one cut). By AI agents, Wed Nov 11 2026. No macro, syntax, notation, axiom, sorry.
-/
import Derived.Test.YtfmhlldfpohokaaGreatChecked
import GoSem.Claim
import GoSem.ClaimJoined
import GoSem.ClaimMapViews
import Derived.JoinedTies
import Derived.KernelRfl
namespace Go.Proofs.YtfmhlldfpohokaaGreat
/- THE CELL 'sum', in the pinned program and in every row, IS THE sha256 OF THE DUMP (.gsa) THAT YtfmhlldfpohokaaGreatProg.lean LOADS. Nothing in Lean hashes anything: it is a label: what it is worth is what the hold of that sum in a sandbox is worth. -/
noncomputable def Tryz.pinned : Pinned := { name := "ytfmhlldfpohokaagreat", sum := "e3971068d948f4612658b5a29d98a438ead1022ff91195431c47ef8384f569bb", checked := Tryz.checked }
namespace Rows
def none {H : Type} : Left H := { results := [], args := [] }

/-- 'umpirelaw16.SweepSteps': WHATEVER THE INPUT: true; the input reads as it did. -/
def sweepStepsSpec : ChangeSpec := { name := "sweepSteps", fn := fun _ => fun
  | [d1, d2, d3] => { results := [.lit (.bool true)], args := [d1, d2, d3] }
  | _ => none }
def sweepStepsRow : OpenClaim := { program := "ytfmhlldfpohokaagreat", sum := "e3971068d948f4612658b5a29d98a438ead1022ff91195431c47ef8384f569bb", func := "umpire/umpirelaw16.SweepSteps", spec := "sweepSteps", unfollowed := true, recurses := true, apart := false }
def SweepStepsSaid : Prop := sweepStepsRow.holds Tryz.pinned (OpenSpec.ofChange sweepStepsSpec)

/-- ITS FALSE NEIGHBOUR: 'it returns false'. Refute it at one input. -/
def sweepStepsWrong : ChangeSpec := { name := "sweepSteps", fn := fun _ => fun
  | [d1, d2, d3] => { results := [.lit (.bool false)], args := [d1, d2, d3] }
  | _ => none }
def SweepStepsWrongFalsely : Prop := sweepStepsRow.holds Tryz.pinned (OpenSpec.ofChange sweepStepsWrong)

/-- 'umpirelaw16.SweepAlone': WHATEVER THE INPUT: true; the input reads as it did. -/
def sweepAloneSpec : ChangeSpec := { name := "sweepAlone", fn := fun _ => fun
  | [d1, d2, d3] => { results := [.lit (.bool true)], args := [d1, d2, d3] }
  | _ => none }
def sweepAloneRow : OpenClaim := { program := "ytfmhlldfpohokaagreat", sum := "e3971068d948f4612658b5a29d98a438ead1022ff91195431c47ef8384f569bb", func := "umpire/umpirelaw16.SweepAlone", spec := "sweepAlone", unfollowed := true, recurses := true, apart := false }
def SweepAloneSaid : Prop := sweepAloneRow.holds Tryz.pinned (OpenSpec.ofChange sweepAloneSpec)

/-- ITS FALSE NEIGHBOUR: 'it returns false'. Refute it at one input. -/
def sweepAloneWrong : ChangeSpec := { name := "sweepAlone", fn := fun _ => fun
  | [d1, d2, d3] => { results := [.lit (.bool false)], args := [d1, d2, d3] }
  | _ => none }
def SweepAloneWrongFalsely : Prop := sweepAloneRow.holds Tryz.pinned (OpenSpec.ofChange sweepAloneWrong)

/-- 'umpirelaw16.SweepNone': WHATEVER THE INPUT: true; the input reads as it did. -/
def sweepNoneSpec : ChangeSpec := { name := "sweepNone", fn := fun _ => fun
  | [d1, d2, d3] => { results := [.lit (.bool true)], args := [d1, d2, d3] }
  | _ => none }
def sweepNoneRow : OpenClaim := { program := "ytfmhlldfpohokaagreat", sum := "e3971068d948f4612658b5a29d98a438ead1022ff91195431c47ef8384f569bb", func := "umpire/umpirelaw16.SweepNone", spec := "sweepNone", unfollowed := true, recurses := true, apart := false }
def SweepNoneSaid : Prop := sweepNoneRow.holds Tryz.pinned (OpenSpec.ofChange sweepNoneSpec)

/-- ITS FALSE NEIGHBOUR: 'it returns false'. Refute it at one input. -/
def sweepNoneWrong : ChangeSpec := { name := "sweepNone", fn := fun _ => fun
  | [d1, d2, d3] => { results := [.lit (.bool false)], args := [d1, d2, d3] }
  | _ => none }
def SweepNoneWrongFalsely : Prop := sweepNoneRow.holds Tryz.pinned (OpenSpec.ofChange sweepNoneWrong)

/- THE SECOND FORM. 'bulk': how many values and letters a reading holds, each counted each time it is reached (what is shared counts as often as it is met; a slice's spare places count too). A statement '..UptoSaid' is the law's where the arguments, and the package variables that the reading takes, are together of bulk at most 1048576: NARROWER than '..Said'. Prove '..Said' where nothing that the law and all that it calls make is longer than what came in: it says more and counts as full. Else prove '..UptoSaid'. A law counts once. -/
mutual
def uptoBulk {H : Type} : DataW H → Nat
  | .lit (.string bytes) => bytes.length + 1
  | .lit _ => 1
  | .nil => 1
  | .ptr d => uptoBulk d + 1
  | .slice elems spare => uptoBulkAll elems + uptoBulkAll spare + 1
  | .agg parts => uptoBulkAll parts + 1
  | .iface _ d => uptoBulk d + 1
  | .map entries => uptoBulkEntries entries + 1
  | .held _ => 1
def uptoBulkAll {H : Type} : List (DataW H) → Nat
  | [] => 0
  | d :: r => uptoBulk d + uptoBulkAll r
def uptoBulkEntries {H : Type} : List (Lit × DataW H) → Nat
  | [] => 0
  | x :: r => uptoBulkEntry x + uptoBulkEntries r
def uptoBulkEntry {H : Type} : Lit × DataW H → Nat
  | (.string bytes, d) => bytes.length + uptoBulk d + 1
  | (_, d) => uptoBulk d + 1
 end
def uptoSmall : (H : Type) → List (DataW H) → Bool := fun _ ds => decide (uptoBulkAll ds ≤ 1048576)
def OpenSpec.upto (s : _root_.Go.ChangeSpec) : _root_.Go.OpenSpec := { _root_.Go.OpenSpec.ofChange s with cond := some uptoSmall }

/-- 'umpirelaw16.SweepSteps', WHERE WHAT IT READS IS OF BULK AT MOST 1048576: true; the input reads as it did. -/
def sweepStepsUptoRow : OpenClaim := { program := "ytfmhlldfpohokaagreat", sum := "e3971068d948f4612658b5a29d98a438ead1022ff91195431c47ef8384f569bb", func := "umpire/umpirelaw16.SweepSteps", spec := "sweepSteps", unfollowed := true, recurses := true, apart := false, narrowed := true }
def SweepStepsUptoSaid : Prop := sweepStepsUptoRow.holds Tryz.pinned (OpenSpec.upto sweepStepsSpec)

/-- 'umpirelaw16.SweepAlone', WHERE WHAT IT READS IS OF BULK AT MOST 1048576: true; the input reads as it did. -/
def sweepAloneUptoRow : OpenClaim := { program := "ytfmhlldfpohokaagreat", sum := "e3971068d948f4612658b5a29d98a438ead1022ff91195431c47ef8384f569bb", func := "umpire/umpirelaw16.SweepAlone", spec := "sweepAlone", unfollowed := true, recurses := true, apart := false, narrowed := true }
def SweepAloneUptoSaid : Prop := sweepAloneUptoRow.holds Tryz.pinned (OpenSpec.upto sweepAloneSpec)

/-- 'umpirelaw16.SweepNone', WHERE WHAT IT READS IS OF BULK AT MOST 1048576: true; the input reads as it did. -/
def sweepNoneUptoRow : OpenClaim := { program := "ytfmhlldfpohokaagreat", sum := "e3971068d948f4612658b5a29d98a438ead1022ff91195431c47ef8384f569bb", func := "umpire/umpirelaw16.SweepNone", spec := "sweepNone", unfollowed := true, recurses := true, apart := false, narrowed := true }
def SweepNoneUptoSaid : Prop := sweepNoneUptoRow.holds Tryz.pinned (OpenSpec.upto sweepNoneSpec)

end Rows
end Go.Proofs.YtfmhlldfpohokaaGreat
