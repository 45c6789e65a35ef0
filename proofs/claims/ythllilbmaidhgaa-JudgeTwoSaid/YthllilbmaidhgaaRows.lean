/-
  No cell of these rows narrows 'for every input' (looked for: loops, veiled, ifaces, maps, wideKeys, modest, calm, conditions, laid).
  DERIVED. THE GIVEN ROWS OF THIS SEAT. 4 by the template 'for every input the law returns true; each argument reads behind the call as it read before'; 0 by the template 'total and deterministic' (their statements: YthllilbmaidhgaaTotals.lean).
  GIVEN WITH THE SEED: the statements are not yours to turn. If you find one false, say at which input.
  Laid BY PROGRAM, IN A SANDBOX (cutbox-rows.mjs): the forced cells as the released guide's own fill.sh prints them over the translation 2dd26d9baee73b79… (all of the seat's roots in one cut). By AI agents, Wed Nov 11 2026. No macro, syntax, notation, axiom, sorry.
-/
import Derived.Test.YthllilbmaidhgaaChecked
import GoSem.Claim
import GoSem.ClaimJoined
import GoSem.ClaimMapViews
import Derived.JoinedTies
import Derived.KernelRfl
namespace Go.Proofs.Ythllilbmaidhgaa
/- THE CELL 'sum', in the pinned program and in every row, IS THE sha256 OF THE DUMP (.gsa) THAT YthllilbmaidhgaaProg.lean LOADS. Nothing in Lean hashes anything: it is a label: what it is worth is what the hold of that sum in a sandbox is worth. -/
noncomputable def Try.pinned : Pinned := { name := "ythllilbmaidhgaa", sum := "2dd26d9baee73b797d840baa46ef48222d064695517a47cb71a6026ebc7cf1de", checked := Try.checked }
namespace Rows
def none {H : Type} : Left H := { results := [], args := [] }

/-- 'umpirelaw20.JudgeLives': WHATEVER THE INPUT: true; the input reads as it did. -/
def judgeLivesSpec : ChangeSpec := { name := "judgeLives", fn := fun _ => fun
  | [d1, d2] => { results := [.lit (.bool true)], args := [d1, d2] }
  | _ => none }
def judgeLivesRow : OpenClaim := { program := "ythllilbmaidhgaa", sum := "2dd26d9baee73b797d840baa46ef48222d064695517a47cb71a6026ebc7cf1de", func := "umpire/umpirelaw20.JudgeLives", spec := "judgeLives", unfollowed := true, recurses := true, apart := false }
def JudgeLivesSaid : Prop := judgeLivesRow.holds Try.pinned (OpenSpec.ofChange judgeLivesSpec)

/-- ITS FALSE NEIGHBOUR: 'it returns false'. Refute it at one input. -/
def judgeLivesWrong : ChangeSpec := { name := "judgeLives", fn := fun _ => fun
  | [d1, d2] => { results := [.lit (.bool false)], args := [d1, d2] }
  | _ => none }
def JudgeLivesWrongFalsely : Prop := judgeLivesRow.holds Try.pinned (OpenSpec.ofChange judgeLivesWrong)

/-- 'umpirelaw20.JudgeTwo': WHATEVER THE INPUT: true; the input reads as it did. -/
def judgeTwoSpec : ChangeSpec := { name := "judgeTwo", fn := fun _ => fun
  | [d1, d2] => { results := [.lit (.bool true)], args := [d1, d2] }
  | _ => none }
def judgeTwoRow : OpenClaim := { program := "ythllilbmaidhgaa", sum := "2dd26d9baee73b797d840baa46ef48222d064695517a47cb71a6026ebc7cf1de", func := "umpire/umpirelaw20.JudgeTwo", spec := "judgeTwo", unfollowed := true, recurses := true, apart := false }
def JudgeTwoSaid : Prop := judgeTwoRow.holds Try.pinned (OpenSpec.ofChange judgeTwoSpec)

/-- ITS FALSE NEIGHBOUR: 'it returns false'. Refute it at one input. -/
def judgeTwoWrong : ChangeSpec := { name := "judgeTwo", fn := fun _ => fun
  | [d1, d2] => { results := [.lit (.bool false)], args := [d1, d2] }
  | _ => none }
def JudgeTwoWrongFalsely : Prop := judgeTwoRow.holds Try.pinned (OpenSpec.ofChange judgeTwoWrong)

/-- 'umpirelaw20.JudgeFails': WHATEVER THE INPUT: true; the input reads as it did. -/
def judgeFailsSpec : ChangeSpec := { name := "judgeFails", fn := fun _ => fun
  | [d1, d2] => { results := [.lit (.bool true)], args := [d1, d2] }
  | _ => none }
def judgeFailsRow : OpenClaim := { program := "ythllilbmaidhgaa", sum := "2dd26d9baee73b797d840baa46ef48222d064695517a47cb71a6026ebc7cf1de", func := "umpire/umpirelaw20.JudgeFails", spec := "judgeFails", unfollowed := true, recurses := true, apart := false }
def JudgeFailsSaid : Prop := judgeFailsRow.holds Try.pinned (OpenSpec.ofChange judgeFailsSpec)

/-- ITS FALSE NEIGHBOUR: 'it returns false'. Refute it at one input. -/
def judgeFailsWrong : ChangeSpec := { name := "judgeFails", fn := fun _ => fun
  | [d1, d2] => { results := [.lit (.bool false)], args := [d1, d2] }
  | _ => none }
def JudgeFailsWrongFalsely : Prop := judgeFailsRow.holds Try.pinned (OpenSpec.ofChange judgeFailsWrong)

/-- 'umpirelaw20.JudgeClashes': WHATEVER THE INPUT: true; the input reads as it did. -/
def judgeClashesSpec : ChangeSpec := { name := "judgeClashes", fn := fun _ => fun
  | [d1, d2] => { results := [.lit (.bool true)], args := [d1, d2] }
  | _ => none }
def judgeClashesRow : OpenClaim := { program := "ythllilbmaidhgaa", sum := "2dd26d9baee73b797d840baa46ef48222d064695517a47cb71a6026ebc7cf1de", func := "umpire/umpirelaw20.JudgeClashes", spec := "judgeClashes", unfollowed := true, recurses := true, apart := false }
def JudgeClashesSaid : Prop := judgeClashesRow.holds Try.pinned (OpenSpec.ofChange judgeClashesSpec)

/-- ITS FALSE NEIGHBOUR: 'it returns false'. Refute it at one input. -/
def judgeClashesWrong : ChangeSpec := { name := "judgeClashes", fn := fun _ => fun
  | [d1, d2] => { results := [.lit (.bool false)], args := [d1, d2] }
  | _ => none }
def JudgeClashesWrongFalsely : Prop := judgeClashesRow.holds Try.pinned (OpenSpec.ofChange judgeClashesWrong)

/- THE SECOND FORM. 'bulk': how many values and letters a reading holds, each counted each time it is reached (what is shared counts as often as it is met; a slice's spare places count too). A statement '..UptoSaid' is the law's where the arguments, and the package variables that the reading takes, are together of bulk at most 1048576: NARROWER than '..Said'. Prove '..Said' where nothing that the law and all that it calls make is longer than what came in: it says more and counts as full. Else prove '..UptoSaid'. A law counts once. -/
mutual
def uptoBulk {H : Type} : DataW H → Nat
  | .lit (.string bytes) => bytes.length + 1
  | .lit _ => 1
  | .nil => 1
  | .ptr d => uptoBulk d + 1
  | .slice elems spare => uptoBulkAll elems + uptoBulkAll spare + 1
  | .agg parts => uptoBulkAll parts + 1
  | .iface _ d => uptoBulk d + 1
  | .map entries => uptoBulkEntries entries + 1
  | .held _ => 1
def uptoBulkAll {H : Type} : List (DataW H) → Nat
  | [] => 0
  | d :: r => uptoBulk d + uptoBulkAll r
def uptoBulkEntries {H : Type} : List (Lit × DataW H) → Nat
  | [] => 0
  | x :: r => uptoBulkEntry x + uptoBulkEntries r
def uptoBulkEntry {H : Type} : Lit × DataW H → Nat
  | (.string bytes, d) => bytes.length + uptoBulk d + 1
  | (_, d) => uptoBulk d + 1
 end
def uptoSmall : (H : Type) → List (DataW H) → Bool := fun _ ds => decide (uptoBulkAll ds ≤ 1048576)
def OpenSpec.upto (s : _root_.Go.ChangeSpec) : _root_.Go.OpenSpec := { _root_.Go.OpenSpec.ofChange s with cond := some uptoSmall }

/-- 'umpirelaw20.JudgeLives', WHERE WHAT IT READS IS OF BULK AT MOST 1048576: true; the input reads as it did. -/
def judgeLivesUptoRow : OpenClaim := { program := "ythllilbmaidhgaa", sum := "2dd26d9baee73b797d840baa46ef48222d064695517a47cb71a6026ebc7cf1de", func := "umpire/umpirelaw20.JudgeLives", spec := "judgeLives", unfollowed := true, recurses := true, apart := false, narrowed := true }
def JudgeLivesUptoSaid : Prop := judgeLivesUptoRow.holds Try.pinned (OpenSpec.upto judgeLivesSpec)

/-- 'umpirelaw20.JudgeTwo', WHERE WHAT IT READS IS OF BULK AT MOST 1048576: true; the input reads as it did. -/
def judgeTwoUptoRow : OpenClaim := { program := "ythllilbmaidhgaa", sum := "2dd26d9baee73b797d840baa46ef48222d064695517a47cb71a6026ebc7cf1de", func := "umpire/umpirelaw20.JudgeTwo", spec := "judgeTwo", unfollowed := true, recurses := true, apart := false, narrowed := true }
def JudgeTwoUptoSaid : Prop := judgeTwoUptoRow.holds Try.pinned (OpenSpec.upto judgeTwoSpec)

/-- 'umpirelaw20.JudgeFails', WHERE WHAT IT READS IS OF BULK AT MOST 1048576: true; the input reads as it did. -/
def judgeFailsUptoRow : OpenClaim := { program := "ythllilbmaidhgaa", sum := "2dd26d9baee73b797d840baa46ef48222d064695517a47cb71a6026ebc7cf1de", func := "umpire/umpirelaw20.JudgeFails", spec := "judgeFails", unfollowed := true, recurses := true, apart := false, narrowed := true }
def JudgeFailsUptoSaid : Prop := judgeFailsUptoRow.holds Try.pinned (OpenSpec.upto judgeFailsSpec)

/-- 'umpirelaw20.JudgeClashes', WHERE WHAT IT READS IS OF BULK AT MOST 1048576: true; the input reads as it did. -/
def judgeClashesUptoRow : OpenClaim := { program := "ythllilbmaidhgaa", sum := "2dd26d9baee73b797d840baa46ef48222d064695517a47cb71a6026ebc7cf1de", func := "umpire/umpirelaw20.JudgeClashes", spec := "judgeClashes", unfollowed := true, recurses := true, apart := false, narrowed := true }
def JudgeClashesUptoSaid : Prop := judgeClashesUptoRow.holds Try.pinned (OpenSpec.upto judgeClashesSpec)

end Rows
end Go.Proofs.Ythllilbmaidhgaa
