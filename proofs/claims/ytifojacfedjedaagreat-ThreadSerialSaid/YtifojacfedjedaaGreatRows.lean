/-
  No cell of these rows narrows 'for every input' (looked for: loops, veiled, ifaces, maps, wideKeys, modest, calm, conditions, laid).
  DERIVED. THE GIVEN ROWS OF THIS SEAT. 6 by the template 'for every input the law returns true; each argument reads behind the call as it read before'; 0 by the template 'total and deterministic' (their statements: YtifojacfedjedaaGreatTotals.lean).
  GIVEN WITH THE SEED: the statements are not yours to turn. If you find one false, say at which input.
  Laid BY PROGRAM, IN A SANDBOX (cutbox-rows.mjs): the forced cells as the released guide's own fill.sh prints them over the translation 3d16d7c805fd1ae4… (all of the seat's roots in one cut). By AI agents, Wed Nov 11 2026. No macro, syntax, notation, axiom, sorry.
-/
import Derived.Test.YtifojacfedjedaaGreatChecked
import GoSem.Claim
import GoSem.ClaimJoined
import GoSem.ClaimMapViews
import Derived.JoinedTies
import Derived.KernelRfl
namespace Go.Proofs.YtifojacfedjedaaGreat
/- THE CELL 'sum', in the pinned program and in every row, IS THE sha256 OF THE DUMP (.gsa) THAT YtifojacfedjedaaGreatProg.lean LOADS. Nothing in Lean hashes anything: it is a label: what it is worth is what the hold of that sum in a sandbox is worth. -/
noncomputable def Tryz.pinned : Pinned := { name := "ytifojacfedjedaagreat", sum := "3d16d7c805fd1ae48818524e03407825b4ec61e72911f4f9aef153224a845d83", checked := Tryz.checked }
namespace Rows
def none {H : Type} : Left H := { results := [], args := [] }

/-- 'umpirelaw17.ThreadPins': WHATEVER THE INPUT: true; the input reads as it did. -/
def threadPinsSpec : ChangeSpec := { name := "threadPins", fn := fun _ => fun
  | [d1, d2, d3] => { results := [.lit (.bool true)], args := [d1, d2, d3] }
  | _ => none }
def threadPinsRow : OpenClaim := { program := "ytifojacfedjedaagreat", sum := "3d16d7c805fd1ae48818524e03407825b4ec61e72911f4f9aef153224a845d83", func := "umpire/umpirelaw17.ThreadPins", spec := "threadPins", unfollowed := true, recurses := true, apart := false }
def ThreadPinsSaid : Prop := threadPinsRow.holds Tryz.pinned (OpenSpec.ofChange threadPinsSpec)

/-- ITS FALSE NEIGHBOUR: 'it returns false'. Refute it at one input. -/
def threadPinsWrong : ChangeSpec := { name := "threadPins", fn := fun _ => fun
  | [d1, d2, d3] => { results := [.lit (.bool false)], args := [d1, d2, d3] }
  | _ => none }
def ThreadPinsWrongFalsely : Prop := threadPinsRow.holds Tryz.pinned (OpenSpec.ofChange threadPinsWrong)

/-- 'umpirelaw17.ThreadLife': WHATEVER THE INPUT: true; the input reads as it did. -/
def threadLifeSpec : ChangeSpec := { name := "threadLife", fn := fun _ => fun
  | [d1, d2, d3] => { results := [.lit (.bool true)], args := [d1, d2, d3] }
  | _ => none }
def threadLifeRow : OpenClaim := { program := "ytifojacfedjedaagreat", sum := "3d16d7c805fd1ae48818524e03407825b4ec61e72911f4f9aef153224a845d83", func := "umpire/umpirelaw17.ThreadLife", spec := "threadLife", unfollowed := true, recurses := true, apart := false }
def ThreadLifeSaid : Prop := threadLifeRow.holds Tryz.pinned (OpenSpec.ofChange threadLifeSpec)

/-- ITS FALSE NEIGHBOUR: 'it returns false'. Refute it at one input. -/
def threadLifeWrong : ChangeSpec := { name := "threadLife", fn := fun _ => fun
  | [d1, d2, d3] => { results := [.lit (.bool false)], args := [d1, d2, d3] }
  | _ => none }
def ThreadLifeWrongFalsely : Prop := threadLifeRow.holds Tryz.pinned (OpenSpec.ofChange threadLifeWrong)

/-- 'umpirelaw17.ThreadSerial': WHATEVER THE INPUT: true; the input reads as it did. -/
def threadSerialSpec : ChangeSpec := { name := "threadSerial", fn := fun _ => fun
  | [d1, d2] => { results := [.lit (.bool true)], args := [d1, d2] }
  | _ => none }
def threadSerialRow : OpenClaim := { program := "ytifojacfedjedaagreat", sum := "3d16d7c805fd1ae48818524e03407825b4ec61e72911f4f9aef153224a845d83", func := "umpire/umpirelaw17.ThreadSerial", spec := "threadSerial", unfollowed := true, recurses := true, apart := false }
def ThreadSerialSaid : Prop := threadSerialRow.holds Tryz.pinned (OpenSpec.ofChange threadSerialSpec)

/-- ITS FALSE NEIGHBOUR: 'it returns false'. Refute it at one input. -/
def threadSerialWrong : ChangeSpec := { name := "threadSerial", fn := fun _ => fun
  | [d1, d2] => { results := [.lit (.bool false)], args := [d1, d2] }
  | _ => none }
def ThreadSerialWrongFalsely : Prop := threadSerialRow.holds Tryz.pinned (OpenSpec.ofChange threadSerialWrong)

/-- 'umpirelaw17.ThreadBusy': WHATEVER THE INPUT: true; the input reads as it did. -/
def threadBusySpec : ChangeSpec := { name := "threadBusy", fn := fun _ => fun
  | [d1, d2, d3] => { results := [.lit (.bool true)], args := [d1, d2, d3] }
  | _ => none }
def threadBusyRow : OpenClaim := { program := "ytifojacfedjedaagreat", sum := "3d16d7c805fd1ae48818524e03407825b4ec61e72911f4f9aef153224a845d83", func := "umpire/umpirelaw17.ThreadBusy", spec := "threadBusy", unfollowed := true, recurses := true, apart := false }
def ThreadBusySaid : Prop := threadBusyRow.holds Tryz.pinned (OpenSpec.ofChange threadBusySpec)

/-- ITS FALSE NEIGHBOUR: 'it returns false'. Refute it at one input. -/
def threadBusyWrong : ChangeSpec := { name := "threadBusy", fn := fun _ => fun
  | [d1, d2, d3] => { results := [.lit (.bool false)], args := [d1, d2, d3] }
  | _ => none }
def ThreadBusyWrongFalsely : Prop := threadBusyRow.holds Tryz.pinned (OpenSpec.ofChange threadBusyWrong)

/-- 'umpirelaw17.ThreadRefused': WHATEVER THE INPUT: true; the input reads as it did. -/
def threadRefusedSpec : ChangeSpec := { name := "threadRefused", fn := fun _ => fun
  | [d1, d2, d3] => { results := [.lit (.bool true)], args := [d1, d2, d3] }
  | _ => none }
def threadRefusedRow : OpenClaim := { program := "ytifojacfedjedaagreat", sum := "3d16d7c805fd1ae48818524e03407825b4ec61e72911f4f9aef153224a845d83", func := "umpire/umpirelaw17.ThreadRefused", spec := "threadRefused", unfollowed := true, recurses := true, apart := false }
def ThreadRefusedSaid : Prop := threadRefusedRow.holds Tryz.pinned (OpenSpec.ofChange threadRefusedSpec)

/-- ITS FALSE NEIGHBOUR: 'it returns false'. Refute it at one input. -/
def threadRefusedWrong : ChangeSpec := { name := "threadRefused", fn := fun _ => fun
  | [d1, d2, d3] => { results := [.lit (.bool false)], args := [d1, d2, d3] }
  | _ => none }
def ThreadRefusedWrongFalsely : Prop := threadRefusedRow.holds Tryz.pinned (OpenSpec.ofChange threadRefusedWrong)

/-- 'umpirelaw17.ThreadSteps': WHATEVER THE INPUT: true; the input reads as it did. -/
def threadStepsSpec : ChangeSpec := { name := "threadSteps", fn := fun _ => fun
  | [d1, d2, d3] => { results := [.lit (.bool true)], args := [d1, d2, d3] }
  | _ => none }
def threadStepsRow : OpenClaim := { program := "ytifojacfedjedaagreat", sum := "3d16d7c805fd1ae48818524e03407825b4ec61e72911f4f9aef153224a845d83", func := "umpire/umpirelaw17.ThreadSteps", spec := "threadSteps", unfollowed := true, recurses := true, apart := false }
def ThreadStepsSaid : Prop := threadStepsRow.holds Tryz.pinned (OpenSpec.ofChange threadStepsSpec)

/-- ITS FALSE NEIGHBOUR: 'it returns false'. Refute it at one input. -/
def threadStepsWrong : ChangeSpec := { name := "threadSteps", fn := fun _ => fun
  | [d1, d2, d3] => { results := [.lit (.bool false)], args := [d1, d2, d3] }
  | _ => none }
def ThreadStepsWrongFalsely : Prop := threadStepsRow.holds Tryz.pinned (OpenSpec.ofChange threadStepsWrong)

/- THE SECOND FORM. 'bulk': how many values and letters a reading holds, each counted each time it is reached (what is shared counts as often as it is met; a slice's spare places count too). A statement '..UptoSaid' is the law's where the arguments, and the package variables that the reading takes, are together of bulk at most 1048576: NARROWER than '..Said'. Prove '..Said' where nothing that the law and all that it calls make is longer than what came in: it says more and counts as full. Else prove '..UptoSaid'. A law counts once. -/
mutual
def uptoBulk {H : Type} : DataW H → Nat
  | .lit (.string bytes) => bytes.length + 1
  | .lit _ => 1
  | .nil => 1
  | .ptr d => uptoBulk d + 1
  | .slice elems spare => uptoBulkAll elems + uptoBulkAll spare + 1
  | .agg parts => uptoBulkAll parts + 1
  | .iface _ d => uptoBulk d + 1
  | .map entries => uptoBulkEntries entries + 1
  | .held _ => 1
def uptoBulkAll {H : Type} : List (DataW H) → Nat
  | [] => 0
  | d :: r => uptoBulk d + uptoBulkAll r
def uptoBulkEntries {H : Type} : List (Lit × DataW H) → Nat
  | [] => 0
  | x :: r => uptoBulkEntry x + uptoBulkEntries r
def uptoBulkEntry {H : Type} : Lit × DataW H → Nat
  | (.string bytes, d) => bytes.length + uptoBulk d + 1
  | (_, d) => uptoBulk d + 1
 end
def uptoSmall : (H : Type) → List (DataW H) → Bool := fun _ ds => decide (uptoBulkAll ds ≤ 1048576)
def OpenSpec.upto (s : _root_.Go.ChangeSpec) : _root_.Go.OpenSpec := { _root_.Go.OpenSpec.ofChange s with cond := some uptoSmall }

/-- 'umpirelaw17.ThreadPins', WHERE WHAT IT READS IS OF BULK AT MOST 1048576: true; the input reads as it did. -/
def threadPinsUptoRow : OpenClaim := { program := "ytifojacfedjedaagreat", sum := "3d16d7c805fd1ae48818524e03407825b4ec61e72911f4f9aef153224a845d83", func := "umpire/umpirelaw17.ThreadPins", spec := "threadPins", unfollowed := true, recurses := true, apart := false, narrowed := true }
def ThreadPinsUptoSaid : Prop := threadPinsUptoRow.holds Tryz.pinned (OpenSpec.upto threadPinsSpec)

/-- 'umpirelaw17.ThreadLife', WHERE WHAT IT READS IS OF BULK AT MOST 1048576: true; the input reads as it did. -/
def threadLifeUptoRow : OpenClaim := { program := "ytifojacfedjedaagreat", sum := "3d16d7c805fd1ae48818524e03407825b4ec61e72911f4f9aef153224a845d83", func := "umpire/umpirelaw17.ThreadLife", spec := "threadLife", unfollowed := true, recurses := true, apart := false, narrowed := true }
def ThreadLifeUptoSaid : Prop := threadLifeUptoRow.holds Tryz.pinned (OpenSpec.upto threadLifeSpec)

/-- 'umpirelaw17.ThreadSerial', WHERE WHAT IT READS IS OF BULK AT MOST 1048576: true; the input reads as it did. -/
def threadSerialUptoRow : OpenClaim := { program := "ytifojacfedjedaagreat", sum := "3d16d7c805fd1ae48818524e03407825b4ec61e72911f4f9aef153224a845d83", func := "umpire/umpirelaw17.ThreadSerial", spec := "threadSerial", unfollowed := true, recurses := true, apart := false, narrowed := true }
def ThreadSerialUptoSaid : Prop := threadSerialUptoRow.holds Tryz.pinned (OpenSpec.upto threadSerialSpec)

/-- 'umpirelaw17.ThreadBusy', WHERE WHAT IT READS IS OF BULK AT MOST 1048576: true; the input reads as it did. -/
def threadBusyUptoRow : OpenClaim := { program := "ytifojacfedjedaagreat", sum := "3d16d7c805fd1ae48818524e03407825b4ec61e72911f4f9aef153224a845d83", func := "umpire/umpirelaw17.ThreadBusy", spec := "threadBusy", unfollowed := true, recurses := true, apart := false, narrowed := true }
def ThreadBusyUptoSaid : Prop := threadBusyUptoRow.holds Tryz.pinned (OpenSpec.upto threadBusySpec)

/-- 'umpirelaw17.ThreadRefused', WHERE WHAT IT READS IS OF BULK AT MOST 1048576: true; the input reads as it did. -/
def threadRefusedUptoRow : OpenClaim := { program := "ytifojacfedjedaagreat", sum := "3d16d7c805fd1ae48818524e03407825b4ec61e72911f4f9aef153224a845d83", func := "umpire/umpirelaw17.ThreadRefused", spec := "threadRefused", unfollowed := true, recurses := true, apart := false, narrowed := true }
def ThreadRefusedUptoSaid : Prop := threadRefusedUptoRow.holds Tryz.pinned (OpenSpec.upto threadRefusedSpec)

/-- 'umpirelaw17.ThreadSteps', WHERE WHAT IT READS IS OF BULK AT MOST 1048576: true; the input reads as it did. -/
def threadStepsUptoRow : OpenClaim := { program := "ytifojacfedjedaagreat", sum := "3d16d7c805fd1ae48818524e03407825b4ec61e72911f4f9aef153224a845d83", func := "umpire/umpirelaw17.ThreadSteps", spec := "threadSteps", unfollowed := true, recurses := true, apart := false, narrowed := true }
def ThreadStepsUptoSaid : Prop := threadStepsUptoRow.holds Tryz.pinned (OpenSpec.upto threadStepsSpec)

end Rows
end Go.Proofs.YtifojacfedjedaaGreat
