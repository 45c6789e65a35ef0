/-
  No cell of these rows narrows 'for every input' (looked for: loops, veiled, ifaces, maps, wideKeys, modest, calm, conditions, laid).
  DERIVED. THE GIVEN ROWS OF THIS SEAT. 6 by the template 'for every input the law returns true; each argument reads behind the call as it read before'; 0 by the template 'total and deterministic' (their statements: YtfdfcdlbojnamaaTotals.lean).
  GIVEN WITH THE SEED: the statements are not yours to turn. If you find one false, say at which input.
  Laid BY PROGRAM, IN A SANDBOX (cutbox-rows.mjs): the forced cells as the released guide's own fill.sh prints them over the translation 19a196c19713a33f… (all of the seat's roots in one cut). By AI agents, Wed Nov 11 2026. No macro, syntax, notation, axiom, sorry.
-/
import Derived.Test.YtfdfcdlbojnamaaChecked
import GoSem.Claim
import GoSem.ClaimJoined
import GoSem.ClaimMapViews
import Derived.JoinedTies
import Derived.KernelRfl
namespace Go.Proofs.Ytfdfcdlbojnamaa
/- THE CELL 'sum', in the pinned program and in every row, IS THE sha256 OF THE DUMP (.gsa) THAT YtfdfcdlbojnamaaProg.lean LOADS. Nothing in Lean hashes anything: it is a label: what it is worth is what the hold of that sum in a sandbox is worth. -/
noncomputable def Try.pinned : Pinned := { name := "ytfdfcdlbojnamaa", sum := "19a196c19713a33ff331df755f7a507df50e12ef3b6d2af6b6ebfb952f5376f5", checked := Try.checked }
namespace Rows
def none {H : Type} : Left H := { results := [], args := [] }

/-- 'umpirelaw05.ChartRight': WHATEVER THE INPUT: true; the input reads as it did. -/
def chartRightSpec : ChangeSpec := { name := "chartRight", fn := fun _ => fun
  | [d] => { results := [.lit (.bool true)], args := [d] }
  | _ => none }
def chartRightRow : OpenClaim := { program := "ytfdfcdlbojnamaa", sum := "19a196c19713a33ff331df755f7a507df50e12ef3b6d2af6b6ebfb952f5376f5", func := "umpire/umpirelaw05.ChartRight", spec := "chartRight", apart := false }
def ChartRightSaid : Prop := chartRightRow.holds Try.pinned (OpenSpec.ofChange chartRightSpec)

/-- ITS FALSE NEIGHBOUR: 'it returns false'. Refute it at one input. -/
def chartRightWrong : ChangeSpec := { name := "chartRight", fn := fun _ => fun
  | [d] => { results := [.lit (.bool false)], args := [d] }
  | _ => none }
def ChartRightWrongFalsely : Prop := chartRightRow.holds Try.pinned (OpenSpec.ofChange chartRightWrong)

/-- 'umpirelaw05.ChartCells': WHATEVER THE INPUT: true; the input reads as it did. -/
def chartCellsSpec : ChangeSpec := { name := "chartCells", fn := fun _ => fun
  | [d1, d2, d3] => { results := [.lit (.bool true)], args := [d1, d2, d3] }
  | _ => none }
def chartCellsRow : OpenClaim := { program := "ytfdfcdlbojnamaa", sum := "19a196c19713a33ff331df755f7a507df50e12ef3b6d2af6b6ebfb952f5376f5", func := "umpire/umpirelaw05.ChartCells", spec := "chartCells", apart := false }
def ChartCellsSaid : Prop := chartCellsRow.holds Try.pinned (OpenSpec.ofChange chartCellsSpec)

/-- ITS FALSE NEIGHBOUR: 'it returns false'. Refute it at one input. -/
def chartCellsWrong : ChangeSpec := { name := "chartCells", fn := fun _ => fun
  | [d1, d2, d3] => { results := [.lit (.bool false)], args := [d1, d2, d3] }
  | _ => none }
def ChartCellsWrongFalsely : Prop := chartCellsRow.holds Try.pinned (OpenSpec.ofChange chartCellsWrong)

/-- 'umpirelaw05.ChartSpots': WHATEVER THE INPUT: true; the input reads as it did. -/
def chartSpotsSpec : ChangeSpec := { name := "chartSpots", fn := fun _ => fun
  | [d1, d2] => { results := [.lit (.bool true)], args := [d1, d2] }
  | _ => none }
def chartSpotsRow : OpenClaim := { program := "ytfdfcdlbojnamaa", sum := "19a196c19713a33ff331df755f7a507df50e12ef3b6d2af6b6ebfb952f5376f5", func := "umpire/umpirelaw05.ChartSpots", spec := "chartSpots", apart := false }
def ChartSpotsSaid : Prop := chartSpotsRow.holds Try.pinned (OpenSpec.ofChange chartSpotsSpec)

/-- ITS FALSE NEIGHBOUR: 'it returns false'. Refute it at one input. -/
def chartSpotsWrong : ChangeSpec := { name := "chartSpots", fn := fun _ => fun
  | [d1, d2] => { results := [.lit (.bool false)], args := [d1, d2] }
  | _ => none }
def ChartSpotsWrongFalsely : Prop := chartSpotsRow.holds Try.pinned (OpenSpec.ofChange chartSpotsWrong)

/-- 'umpirelaw05.ChartWhole': WHATEVER THE INPUT: true; the input reads as it did. -/
def chartWholeSpec : ChangeSpec := { name := "chartWhole", fn := fun _ => fun
  | [d] => { results := [.lit (.bool true)], args := [d] }
  | _ => none }
def chartWholeRow : OpenClaim := { program := "ytfdfcdlbojnamaa", sum := "19a196c19713a33ff331df755f7a507df50e12ef3b6d2af6b6ebfb952f5376f5", func := "umpire/umpirelaw05.ChartWhole", spec := "chartWhole", apart := false }
def ChartWholeSaid : Prop := chartWholeRow.holds Try.pinned (OpenSpec.ofChange chartWholeSpec)

/-- ITS FALSE NEIGHBOUR: 'it returns false'. Refute it at one input. -/
def chartWholeWrong : ChangeSpec := { name := "chartWhole", fn := fun _ => fun
  | [d] => { results := [.lit (.bool false)], args := [d] }
  | _ => none }
def ChartWholeWrongFalsely : Prop := chartWholeRow.holds Try.pinned (OpenSpec.ofChange chartWholeWrong)

/-- 'umpirelaw05.ChartApart': WHATEVER THE INPUT: true; the input reads as it did. -/
def chartApartSpec : ChangeSpec := { name := "chartApart", fn := fun _ => fun
  | [d1, d2, d3] => { results := [.lit (.bool true)], args := [d1, d2, d3] }
  | _ => none }
def chartApartRow : OpenClaim := { program := "ytfdfcdlbojnamaa", sum := "19a196c19713a33ff331df755f7a507df50e12ef3b6d2af6b6ebfb952f5376f5", func := "umpire/umpirelaw05.ChartApart", spec := "chartApart", apart := false }
def ChartApartSaid : Prop := chartApartRow.holds Try.pinned (OpenSpec.ofChange chartApartSpec)

/-- ITS FALSE NEIGHBOUR: 'it returns false'. Refute it at one input. -/
def chartApartWrong : ChangeSpec := { name := "chartApart", fn := fun _ => fun
  | [d1, d2, d3] => { results := [.lit (.bool false)], args := [d1, d2, d3] }
  | _ => none }
def ChartApartWrongFalsely : Prop := chartApartRow.holds Try.pinned (OpenSpec.ofChange chartApartWrong)

/-- 'umpirelaw05.ChartMore': WHATEVER THE INPUT: true; the input reads as it did. -/
def chartMoreSpec : ChangeSpec := { name := "chartMore", fn := fun _ => fun
  | [d1, d2, d3] => { results := [.lit (.bool true)], args := [d1, d2, d3] }
  | _ => none }
def chartMoreRow : OpenClaim := { program := "ytfdfcdlbojnamaa", sum := "19a196c19713a33ff331df755f7a507df50e12ef3b6d2af6b6ebfb952f5376f5", func := "umpire/umpirelaw05.ChartMore", spec := "chartMore", apart := false }
def ChartMoreSaid : Prop := chartMoreRow.holds Try.pinned (OpenSpec.ofChange chartMoreSpec)

/-- ITS FALSE NEIGHBOUR: 'it returns false'. Refute it at one input. -/
def chartMoreWrong : ChangeSpec := { name := "chartMore", fn := fun _ => fun
  | [d1, d2, d3] => { results := [.lit (.bool false)], args := [d1, d2, d3] }
  | _ => none }
def ChartMoreWrongFalsely : Prop := chartMoreRow.holds Try.pinned (OpenSpec.ofChange chartMoreWrong)

/- THE SECOND FORM. 'bulk': how many values and letters a reading holds, each counted each time it is reached (what is shared counts as often as it is met; a slice's spare places count too). A statement '..UptoSaid' is the law's where the arguments, and the package variables that the reading takes, are together of bulk at most 1048576: NARROWER than '..Said'. Prove '..Said' where nothing that the law and all that it calls make is longer than what came in: it says more and counts as full. Else prove '..UptoSaid'. A law counts once. -/
mutual
def uptoBulk {H : Type} : DataW H → Nat
  | .lit (.string bytes) => bytes.length + 1
  | .lit _ => 1
  | .nil => 1
  | .ptr d => uptoBulk d + 1
  | .slice elems spare => uptoBulkAll elems + uptoBulkAll spare + 1
  | .agg parts => uptoBulkAll parts + 1
  | .iface _ d => uptoBulk d + 1
  | .map entries => uptoBulkEntries entries + 1
  | .held _ => 1
def uptoBulkAll {H : Type} : List (DataW H) → Nat
  | [] => 0
  | d :: r => uptoBulk d + uptoBulkAll r
def uptoBulkEntries {H : Type} : List (Lit × DataW H) → Nat
  | [] => 0
  | x :: r => uptoBulkEntry x + uptoBulkEntries r
def uptoBulkEntry {H : Type} : Lit × DataW H → Nat
  | (.string bytes, d) => bytes.length + uptoBulk d + 1
  | (_, d) => uptoBulk d + 1
 end
def uptoSmall : (H : Type) → List (DataW H) → Bool := fun _ ds => decide (uptoBulkAll ds ≤ 1048576)
def OpenSpec.upto (s : _root_.Go.ChangeSpec) : _root_.Go.OpenSpec := { _root_.Go.OpenSpec.ofChange s with cond := some uptoSmall }

/-- 'umpirelaw05.ChartRight', WHERE WHAT IT READS IS OF BULK AT MOST 1048576: true; the input reads as it did. -/
def chartRightUptoRow : OpenClaim := { program := "ytfdfcdlbojnamaa", sum := "19a196c19713a33ff331df755f7a507df50e12ef3b6d2af6b6ebfb952f5376f5", func := "umpire/umpirelaw05.ChartRight", spec := "chartRight", apart := false, narrowed := true }
def ChartRightUptoSaid : Prop := chartRightUptoRow.holds Try.pinned (OpenSpec.upto chartRightSpec)

/-- 'umpirelaw05.ChartCells', WHERE WHAT IT READS IS OF BULK AT MOST 1048576: true; the input reads as it did. -/
def chartCellsUptoRow : OpenClaim := { program := "ytfdfcdlbojnamaa", sum := "19a196c19713a33ff331df755f7a507df50e12ef3b6d2af6b6ebfb952f5376f5", func := "umpire/umpirelaw05.ChartCells", spec := "chartCells", apart := false, narrowed := true }
def ChartCellsUptoSaid : Prop := chartCellsUptoRow.holds Try.pinned (OpenSpec.upto chartCellsSpec)

/-- 'umpirelaw05.ChartSpots', WHERE WHAT IT READS IS OF BULK AT MOST 1048576: true; the input reads as it did. -/
def chartSpotsUptoRow : OpenClaim := { program := "ytfdfcdlbojnamaa", sum := "19a196c19713a33ff331df755f7a507df50e12ef3b6d2af6b6ebfb952f5376f5", func := "umpire/umpirelaw05.ChartSpots", spec := "chartSpots", apart := false, narrowed := true }
def ChartSpotsUptoSaid : Prop := chartSpotsUptoRow.holds Try.pinned (OpenSpec.upto chartSpotsSpec)

/-- 'umpirelaw05.ChartWhole', WHERE WHAT IT READS IS OF BULK AT MOST 1048576: true; the input reads as it did. -/
def chartWholeUptoRow : OpenClaim := { program := "ytfdfcdlbojnamaa", sum := "19a196c19713a33ff331df755f7a507df50e12ef3b6d2af6b6ebfb952f5376f5", func := "umpire/umpirelaw05.ChartWhole", spec := "chartWhole", apart := false, narrowed := true }
def ChartWholeUptoSaid : Prop := chartWholeUptoRow.holds Try.pinned (OpenSpec.upto chartWholeSpec)

/-- 'umpirelaw05.ChartApart', WHERE WHAT IT READS IS OF BULK AT MOST 1048576: true; the input reads as it did. -/
def chartApartUptoRow : OpenClaim := { program := "ytfdfcdlbojnamaa", sum := "19a196c19713a33ff331df755f7a507df50e12ef3b6d2af6b6ebfb952f5376f5", func := "umpire/umpirelaw05.ChartApart", spec := "chartApart", apart := false, narrowed := true }
def ChartApartUptoSaid : Prop := chartApartUptoRow.holds Try.pinned (OpenSpec.upto chartApartSpec)

/-- 'umpirelaw05.ChartMore', WHERE WHAT IT READS IS OF BULK AT MOST 1048576: true; the input reads as it did. -/
def chartMoreUptoRow : OpenClaim := { program := "ytfdfcdlbojnamaa", sum := "19a196c19713a33ff331df755f7a507df50e12ef3b6d2af6b6ebfb952f5376f5", func := "umpire/umpirelaw05.ChartMore", spec := "chartMore", apart := false, narrowed := true }
def ChartMoreUptoSaid : Prop := chartMoreUptoRow.holds Try.pinned (OpenSpec.upto chartMoreSpec)

end Rows
end Go.Proofs.Ytfdfcdlbojnamaa
