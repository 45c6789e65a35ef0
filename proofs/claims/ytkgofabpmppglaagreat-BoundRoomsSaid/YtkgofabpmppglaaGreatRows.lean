/-
  No cell of these rows narrows 'for every input' (looked for: loops, veiled, ifaces, maps, wideKeys, modest, calm, conditions, laid).
  DERIVED. THE GIVEN ROWS OF THIS SEAT. 2 by the template 'for every input the law returns true; each argument reads behind the call as it read before'; 0 by the template 'total and deterministic' (their statements: YtkgofabpmppglaaGreatTotals.lean).
  GIVEN WITH THE SEED: the statements are not yours to turn. If you find one false, say at which input.
  Laid BY PROGRAM, IN A SANDBOX (cutbox-rows.mjs): the forced cells as the released guide's own fill.sh prints them over the translation 7ef673ac95d51ffd… (all of the seat's roots in one cut). By AI agents, Wed Nov 11 2026. No macro, syntax, notation, axiom, sorry.
-/
import Derived.Test.YtkgofabpmppglaaGreatChecked
import GoSem.Claim
import GoSem.ClaimJoined
import GoSem.ClaimMapViews
import Derived.JoinedTies
import Derived.KernelRfl
namespace Go.Proofs.YtkgofabpmppglaaGreat
/- THE CELL 'sum', in the pinned program and in every row, IS THE sha256 OF THE DUMP (.gsa) THAT YtkgofabpmppglaaGreatProg.lean LOADS. Nothing in Lean hashes anything: it is a label: what it is worth is what the hold of that sum in a sandbox is worth. -/
noncomputable def Tryz.pinned : Pinned := { name := "ytkgofabpmppglaagreat", sum := "7ef673ac95d51ffded8bb671c3c77450789719868ae419114d226b902b197b0e", checked := Tryz.checked }
namespace Rows
def none {H : Type} : Left H := { results := [], args := [] }

/-- 'umpirelaw21.BoundNumbers': WHATEVER THE INPUT: true; the input reads as it did. -/
def boundNumbersSpec : ChangeSpec := { name := "boundNumbers", fn := fun _ => fun
  | [d] => { results := [.lit (.bool true)], args := [d] }
  | _ => none }
def boundNumbersRow : OpenClaim := { program := "ytkgofabpmppglaagreat", sum := "7ef673ac95d51ffded8bb671c3c77450789719868ae419114d226b902b197b0e", func := "umpire/umpirelaw21.BoundNumbers", spec := "boundNumbers", unfollowed := true, recurses := true, apart := false }
def BoundNumbersSaid : Prop := boundNumbersRow.holds Tryz.pinned (OpenSpec.ofChange boundNumbersSpec)

/-- ITS FALSE NEIGHBOUR: 'it returns false'. Refute it at one input. -/
def boundNumbersWrong : ChangeSpec := { name := "boundNumbers", fn := fun _ => fun
  | [d] => { results := [.lit (.bool false)], args := [d] }
  | _ => none }
def BoundNumbersWrongFalsely : Prop := boundNumbersRow.holds Tryz.pinned (OpenSpec.ofChange boundNumbersWrong)

/-- 'umpirelaw21.BoundRooms': WHATEVER THE INPUT: true; the input reads as it did. -/
def boundRoomsSpec : ChangeSpec := { name := "boundRooms", fn := fun _ => fun
  | [d1, d2] => { results := [.lit (.bool true)], args := [d1, d2] }
  | _ => none }
def boundRoomsRow : OpenClaim := { program := "ytkgofabpmppglaagreat", sum := "7ef673ac95d51ffded8bb671c3c77450789719868ae419114d226b902b197b0e", func := "umpire/umpirelaw21.BoundRooms", spec := "boundRooms", unfollowed := true, recurses := true, apart := false }
def BoundRoomsSaid : Prop := boundRoomsRow.holds Tryz.pinned (OpenSpec.ofChange boundRoomsSpec)

/-- ITS FALSE NEIGHBOUR: 'it returns false'. Refute it at one input. -/
def boundRoomsWrong : ChangeSpec := { name := "boundRooms", fn := fun _ => fun
  | [d1, d2] => { results := [.lit (.bool false)], args := [d1, d2] }
  | _ => none }
def BoundRoomsWrongFalsely : Prop := boundRoomsRow.holds Tryz.pinned (OpenSpec.ofChange boundRoomsWrong)

/- THE SECOND FORM. 'bulk': how many values and letters a reading holds, each counted each time it is reached (what is shared counts as often as it is met; a slice's spare places count too). A statement '..UptoSaid' is the law's where the arguments, and the package variables that the reading takes, are together of bulk at most 1048576: NARROWER than '..Said'. Prove '..Said' where nothing that the law and all that it calls make is longer than what came in: it says more and counts as full. Else prove '..UptoSaid'. A law counts once. -/
mutual
def uptoBulk {H : Type} : DataW H → Nat
  | .lit (.string bytes) => bytes.length + 1
  | .lit _ => 1
  | .nil => 1
  | .ptr d => uptoBulk d + 1
  | .slice elems spare => uptoBulkAll elems + uptoBulkAll spare + 1
  | .agg parts => uptoBulkAll parts + 1
  | .iface _ d => uptoBulk d + 1
  | .map entries => uptoBulkEntries entries + 1
  | .held _ => 1
def uptoBulkAll {H : Type} : List (DataW H) → Nat
  | [] => 0
  | d :: r => uptoBulk d + uptoBulkAll r
def uptoBulkEntries {H : Type} : List (Lit × DataW H) → Nat
  | [] => 0
  | x :: r => uptoBulkEntry x + uptoBulkEntries r
def uptoBulkEntry {H : Type} : Lit × DataW H → Nat
  | (.string bytes, d) => bytes.length + uptoBulk d + 1
  | (_, d) => uptoBulk d + 1
 end
def uptoSmall : (H : Type) → List (DataW H) → Bool := fun _ ds => decide (uptoBulkAll ds ≤ 1048576)
def OpenSpec.upto (s : _root_.Go.ChangeSpec) : _root_.Go.OpenSpec := { _root_.Go.OpenSpec.ofChange s with cond := some uptoSmall }

/-- 'umpirelaw21.BoundNumbers', WHERE WHAT IT READS IS OF BULK AT MOST 1048576: true; the input reads as it did. -/
def boundNumbersUptoRow : OpenClaim := { program := "ytkgofabpmppglaagreat", sum := "7ef673ac95d51ffded8bb671c3c77450789719868ae419114d226b902b197b0e", func := "umpire/umpirelaw21.BoundNumbers", spec := "boundNumbers", unfollowed := true, recurses := true, apart := false, narrowed := true }
def BoundNumbersUptoSaid : Prop := boundNumbersUptoRow.holds Tryz.pinned (OpenSpec.upto boundNumbersSpec)

/-- 'umpirelaw21.BoundRooms', WHERE WHAT IT READS IS OF BULK AT MOST 1048576: true; the input reads as it did. -/
def boundRoomsUptoRow : OpenClaim := { program := "ytkgofabpmppglaagreat", sum := "7ef673ac95d51ffded8bb671c3c77450789719868ae419114d226b902b197b0e", func := "umpire/umpirelaw21.BoundRooms", spec := "boundRooms", unfollowed := true, recurses := true, apart := false, narrowed := true }
def BoundRoomsUptoSaid : Prop := boundRoomsUptoRow.holds Tryz.pinned (OpenSpec.upto boundRoomsSpec)

end Rows
end Go.Proofs.YtkgofabpmppglaaGreat
