/-
  No cell of these rows narrows 'for every input' (looked for: loops, veiled, ifaces, maps, wideKeys, modest, calm, conditions, laid).
  DERIVED. THE GIVEN ROWS OF THIS SEAT. 6 by the template 'for every input the law returns true; each argument reads behind the call as it read before'; 0 by the template 'total and deterministic' (their statements: YtbgdhahdihbpaaaTotals.lean).
  GIVEN WITH THE SEED: the statements are not yours to turn. If you find one false, say at which input.
  Laid BY PROGRAM, IN A SANDBOX (cutbox-rows.mjs): the forced cells as the released guide's own fill.sh prints them over the translation ff0ac00d6fc8235b… (all of the seat's roots in one cut). By AI agents, Wed Nov 11 2026. No macro, syntax, notation, axiom, sorry.
-/
import Derived.Test.YtbgdhahdihbpaaaChecked
import GoSem.Claim
import GoSem.ClaimJoined
import GoSem.ClaimMapViews
import Derived.JoinedTies
import Derived.KernelRfl
namespace Go.Proofs.Ytbgdhahdihbpaaa
/- THE CELL 'sum', in the pinned program and in every row, IS THE sha256 OF THE DUMP (.gsa) THAT YtbgdhahdihbpaaaProg.lean LOADS. Nothing in Lean hashes anything: it is a label: what it is worth is what the hold of that sum in a sandbox is worth. -/
noncomputable def Try.pinned : Pinned := { name := "ytbgdhahdihbpaaa", sum := "ff0ac00d6fc8235bc37d1357ebb8a74fcfe883f4b6a379b94fa3e2601309537a", checked := Try.checked }
namespace Rows
def none {H : Type} : Left H := { results := [], args := [] }

/-- 'umpirelaw15.AgeAlone': WHATEVER THE INPUT: true; the input reads as it did. -/
def ageAloneSpec : ChangeSpec := { name := "ageAlone", fn := fun _ => fun
  | [d1, d2, d3] => { results := [.lit (.bool true)], args := [d1, d2, d3] }
  | _ => none }
def ageAloneRow : OpenClaim := { program := "ytbgdhahdihbpaaa", sum := "ff0ac00d6fc8235bc37d1357ebb8a74fcfe883f4b6a379b94fa3e2601309537a", func := "umpire/umpirelaw15.AgeAlone", spec := "ageAlone", unfollowed := true, recurses := true, apart := false }
def AgeAloneSaid : Prop := ageAloneRow.holds Try.pinned (OpenSpec.ofChange ageAloneSpec)

/-- ITS FALSE NEIGHBOUR: 'it returns false'. Refute it at one input. -/
def ageAloneWrong : ChangeSpec := { name := "ageAlone", fn := fun _ => fun
  | [d1, d2, d3] => { results := [.lit (.bool false)], args := [d1, d2, d3] }
  | _ => none }
def AgeAloneWrongFalsely : Prop := ageAloneRow.holds Try.pinned (OpenSpec.ofChange ageAloneWrong)

/-- 'umpirelaw15.AgeOldest': WHATEVER THE INPUT: true; the input reads as it did. -/
def ageOldestSpec : ChangeSpec := { name := "ageOldest", fn := fun _ => fun
  | [d1, d2] => { results := [.lit (.bool true)], args := [d1, d2] }
  | _ => none }
def ageOldestRow : OpenClaim := { program := "ytbgdhahdihbpaaa", sum := "ff0ac00d6fc8235bc37d1357ebb8a74fcfe883f4b6a379b94fa3e2601309537a", func := "umpire/umpirelaw15.AgeOldest", spec := "ageOldest", unfollowed := true, recurses := true, apart := false }
def AgeOldestSaid : Prop := ageOldestRow.holds Try.pinned (OpenSpec.ofChange ageOldestSpec)

/-- ITS FALSE NEIGHBOUR: 'it returns false'. Refute it at one input. -/
def ageOldestWrong : ChangeSpec := { name := "ageOldest", fn := fun _ => fun
  | [d1, d2] => { results := [.lit (.bool false)], args := [d1, d2] }
  | _ => none }
def AgeOldestWrongFalsely : Prop := ageOldestRow.holds Try.pinned (OpenSpec.ofChange ageOldestWrong)

/-- 'umpirelaw15.AgeNumbers': WHATEVER THE INPUT: true; the input reads as it did. -/
def ageNumbersSpec : ChangeSpec := { name := "ageNumbers", fn := fun _ => fun
  | [d1, d2, d3] => { results := [.lit (.bool true)], args := [d1, d2, d3] }
  | _ => none }
def ageNumbersRow : OpenClaim := { program := "ytbgdhahdihbpaaa", sum := "ff0ac00d6fc8235bc37d1357ebb8a74fcfe883f4b6a379b94fa3e2601309537a", func := "umpire/umpirelaw15.AgeNumbers", spec := "ageNumbers", unfollowed := true, recurses := true, apart := false }
def AgeNumbersSaid : Prop := ageNumbersRow.holds Try.pinned (OpenSpec.ofChange ageNumbersSpec)

/-- ITS FALSE NEIGHBOUR: 'it returns false'. Refute it at one input. -/
def ageNumbersWrong : ChangeSpec := { name := "ageNumbers", fn := fun _ => fun
  | [d1, d2, d3] => { results := [.lit (.bool false)], args := [d1, d2, d3] }
  | _ => none }
def AgeNumbersWrongFalsely : Prop := ageNumbersRow.holds Try.pinned (OpenSpec.ofChange ageNumbersWrong)

/-- 'umpirelaw15.AgeYoung': WHATEVER THE INPUT: true; the input reads as it did. -/
def ageYoungSpec : ChangeSpec := { name := "ageYoung", fn := fun _ => fun
  | [d1, d2, d3] => { results := [.lit (.bool true)], args := [d1, d2, d3] }
  | _ => none }
def ageYoungRow : OpenClaim := { program := "ytbgdhahdihbpaaa", sum := "ff0ac00d6fc8235bc37d1357ebb8a74fcfe883f4b6a379b94fa3e2601309537a", func := "umpire/umpirelaw15.AgeYoung", spec := "ageYoung", unfollowed := true, recurses := true, apart := false }
def AgeYoungSaid : Prop := ageYoungRow.holds Try.pinned (OpenSpec.ofChange ageYoungSpec)

/-- ITS FALSE NEIGHBOUR: 'it returns false'. Refute it at one input. -/
def ageYoungWrong : ChangeSpec := { name := "ageYoung", fn := fun _ => fun
  | [d1, d2, d3] => { results := [.lit (.bool false)], args := [d1, d2, d3] }
  | _ => none }
def AgeYoungWrongFalsely : Prop := ageYoungRow.holds Try.pinned (OpenSpec.ofChange ageYoungWrong)

/-- 'umpirelaw15.AgeStays': WHATEVER THE INPUT: true; the input reads as it did. -/
def ageStaysSpec : ChangeSpec := { name := "ageStays", fn := fun _ => fun
  | [d1, d2, d3] => { results := [.lit (.bool true)], args := [d1, d2, d3] }
  | _ => none }
def ageStaysRow : OpenClaim := { program := "ytbgdhahdihbpaaa", sum := "ff0ac00d6fc8235bc37d1357ebb8a74fcfe883f4b6a379b94fa3e2601309537a", func := "umpire/umpirelaw15.AgeStays", spec := "ageStays", unfollowed := true, recurses := true, apart := false }
def AgeStaysSaid : Prop := ageStaysRow.holds Try.pinned (OpenSpec.ofChange ageStaysSpec)

/-- ITS FALSE NEIGHBOUR: 'it returns false'. Refute it at one input. -/
def ageStaysWrong : ChangeSpec := { name := "ageStays", fn := fun _ => fun
  | [d1, d2, d3] => { results := [.lit (.bool false)], args := [d1, d2, d3] }
  | _ => none }
def AgeStaysWrongFalsely : Prop := ageStaysRow.holds Try.pinned (OpenSpec.ofChange ageStaysWrong)

/-- 'umpirelaw15.AgeSteps': WHATEVER THE INPUT: true; the input reads as it did. -/
def ageStepsSpec : ChangeSpec := { name := "ageSteps", fn := fun _ => fun
  | [d1, d2, d3] => { results := [.lit (.bool true)], args := [d1, d2, d3] }
  | _ => none }
def ageStepsRow : OpenClaim := { program := "ytbgdhahdihbpaaa", sum := "ff0ac00d6fc8235bc37d1357ebb8a74fcfe883f4b6a379b94fa3e2601309537a", func := "umpire/umpirelaw15.AgeSteps", spec := "ageSteps", unfollowed := true, recurses := true, apart := false }
def AgeStepsSaid : Prop := ageStepsRow.holds Try.pinned (OpenSpec.ofChange ageStepsSpec)

/-- ITS FALSE NEIGHBOUR: 'it returns false'. Refute it at one input. -/
def ageStepsWrong : ChangeSpec := { name := "ageSteps", fn := fun _ => fun
  | [d1, d2, d3] => { results := [.lit (.bool false)], args := [d1, d2, d3] }
  | _ => none }
def AgeStepsWrongFalsely : Prop := ageStepsRow.holds Try.pinned (OpenSpec.ofChange ageStepsWrong)

/- THE SECOND FORM. 'bulk': how many values and letters a reading holds, each counted each time it is reached (what is shared counts as often as it is met; a slice's spare places count too). A statement '..UptoSaid' is the law's where the arguments, and the package variables that the reading takes, are together of bulk at most 1048576: NARROWER than '..Said'. Prove '..Said' where nothing that the law and all that it calls make is longer than what came in: it says more and counts as full. Else prove '..UptoSaid'. A law counts once. -/
mutual
def uptoBulk {H : Type} : DataW H → Nat
  | .lit (.string bytes) => bytes.length + 1
  | .lit _ => 1
  | .nil => 1
  | .ptr d => uptoBulk d + 1
  | .slice elems spare => uptoBulkAll elems + uptoBulkAll spare + 1
  | .agg parts => uptoBulkAll parts + 1
  | .iface _ d => uptoBulk d + 1
  | .map entries => uptoBulkEntries entries + 1
  | .held _ => 1
def uptoBulkAll {H : Type} : List (DataW H) → Nat
  | [] => 0
  | d :: r => uptoBulk d + uptoBulkAll r
def uptoBulkEntries {H : Type} : List (Lit × DataW H) → Nat
  | [] => 0
  | x :: r => uptoBulkEntry x + uptoBulkEntries r
def uptoBulkEntry {H : Type} : Lit × DataW H → Nat
  | (.string bytes, d) => bytes.length + uptoBulk d + 1
  | (_, d) => uptoBulk d + 1
 end
def uptoSmall : (H : Type) → List (DataW H) → Bool := fun _ ds => decide (uptoBulkAll ds ≤ 1048576)
def OpenSpec.upto (s : _root_.Go.ChangeSpec) : _root_.Go.OpenSpec := { _root_.Go.OpenSpec.ofChange s with cond := some uptoSmall }

/-- 'umpirelaw15.AgeAlone', WHERE WHAT IT READS IS OF BULK AT MOST 1048576: true; the input reads as it did. -/
def ageAloneUptoRow : OpenClaim := { program := "ytbgdhahdihbpaaa", sum := "ff0ac00d6fc8235bc37d1357ebb8a74fcfe883f4b6a379b94fa3e2601309537a", func := "umpire/umpirelaw15.AgeAlone", spec := "ageAlone", unfollowed := true, recurses := true, apart := false, narrowed := true }
def AgeAloneUptoSaid : Prop := ageAloneUptoRow.holds Try.pinned (OpenSpec.upto ageAloneSpec)

/-- 'umpirelaw15.AgeOldest', WHERE WHAT IT READS IS OF BULK AT MOST 1048576: true; the input reads as it did. -/
def ageOldestUptoRow : OpenClaim := { program := "ytbgdhahdihbpaaa", sum := "ff0ac00d6fc8235bc37d1357ebb8a74fcfe883f4b6a379b94fa3e2601309537a", func := "umpire/umpirelaw15.AgeOldest", spec := "ageOldest", unfollowed := true, recurses := true, apart := false, narrowed := true }
def AgeOldestUptoSaid : Prop := ageOldestUptoRow.holds Try.pinned (OpenSpec.upto ageOldestSpec)

/-- 'umpirelaw15.AgeNumbers', WHERE WHAT IT READS IS OF BULK AT MOST 1048576: true; the input reads as it did. -/
def ageNumbersUptoRow : OpenClaim := { program := "ytbgdhahdihbpaaa", sum := "ff0ac00d6fc8235bc37d1357ebb8a74fcfe883f4b6a379b94fa3e2601309537a", func := "umpire/umpirelaw15.AgeNumbers", spec := "ageNumbers", unfollowed := true, recurses := true, apart := false, narrowed := true }
def AgeNumbersUptoSaid : Prop := ageNumbersUptoRow.holds Try.pinned (OpenSpec.upto ageNumbersSpec)

/-- 'umpirelaw15.AgeYoung', WHERE WHAT IT READS IS OF BULK AT MOST 1048576: true; the input reads as it did. -/
def ageYoungUptoRow : OpenClaim := { program := "ytbgdhahdihbpaaa", sum := "ff0ac00d6fc8235bc37d1357ebb8a74fcfe883f4b6a379b94fa3e2601309537a", func := "umpire/umpirelaw15.AgeYoung", spec := "ageYoung", unfollowed := true, recurses := true, apart := false, narrowed := true }
def AgeYoungUptoSaid : Prop := ageYoungUptoRow.holds Try.pinned (OpenSpec.upto ageYoungSpec)

/-- 'umpirelaw15.AgeStays', WHERE WHAT IT READS IS OF BULK AT MOST 1048576: true; the input reads as it did. -/
def ageStaysUptoRow : OpenClaim := { program := "ytbgdhahdihbpaaa", sum := "ff0ac00d6fc8235bc37d1357ebb8a74fcfe883f4b6a379b94fa3e2601309537a", func := "umpire/umpirelaw15.AgeStays", spec := "ageStays", unfollowed := true, recurses := true, apart := false, narrowed := true }
def AgeStaysUptoSaid : Prop := ageStaysUptoRow.holds Try.pinned (OpenSpec.upto ageStaysSpec)

/-- 'umpirelaw15.AgeSteps', WHERE WHAT IT READS IS OF BULK AT MOST 1048576: true; the input reads as it did. -/
def ageStepsUptoRow : OpenClaim := { program := "ytbgdhahdihbpaaa", sum := "ff0ac00d6fc8235bc37d1357ebb8a74fcfe883f4b6a379b94fa3e2601309537a", func := "umpire/umpirelaw15.AgeSteps", spec := "ageSteps", unfollowed := true, recurses := true, apart := false, narrowed := true }
def AgeStepsUptoSaid : Prop := ageStepsUptoRow.holds Try.pinned (OpenSpec.upto ageStepsSpec)

end Rows
end Go.Proofs.Ytbgdhahdihbpaaa
