/-
  No cell of these rows narrows 'for every input' (looked for: loops, veiled, ifaces, maps, wideKeys, modest, calm, conditions, laid).
  DERIVED. THE GIVEN ROWS OF THIS SEAT. 12 by the template 'for every input the law returns true; each argument reads behind the call as it read before'; 0 by the template 'total and deterministic' (their statements: YtnglbgdokdcefaaTotals.lean).
  GIVEN WITH THE SEED: the statements are not yours to turn. If you find one false, say at which input.
  Laid BY PROGRAM, IN A SANDBOX (cutbox-rows.mjs): the forced cells as the released guide's own fill.sh prints them over the translation bbfa6808f7259064… (all of the seat's roots in one cut). By AI agents, Wed Nov 11 2026. No macro, syntax, notation, axiom, sorry.
-/
import Derived.Test.YtnglbgdokdcefaaChecked
import GoSem.Claim
import GoSem.ClaimJoined
import GoSem.ClaimMapViews
import Derived.JoinedTies
import Derived.KernelRfl
namespace Go.Proofs.Ytnglbgdokdcefaa
/- THE CELL 'sum', in the pinned program and in every row, IS THE sha256 OF THE DUMP (.gsa) THAT YtnglbgdokdcefaaProg.lean LOADS. Nothing in Lean hashes anything: it is a label: what it is worth is what the hold of that sum in a sandbox is worth. -/
noncomputable def Try.pinned : Pinned := { name := "ytnglbgdokdcefaa", sum := "bbfa6808f72590643fbce4741c6235bc6f14b3fcc5477f7e91e88f5464888bdf", checked := Try.checked }
namespace Rows
def none {H : Type} : Left H := { results := [], args := [] }

/-- 'samaralaw01.CellSizes': WHATEVER THE INPUT: true; the input reads as it did. -/
def cellSizesSpec : ChangeSpec := { name := "cellSizes", fn := fun _ => fun
  | [d] => { results := [.lit (.bool true)], args := [d] }
  | _ => none }
def cellSizesRow : OpenClaim := { program := "ytnglbgdokdcefaa", sum := "bbfa6808f72590643fbce4741c6235bc6f14b3fcc5477f7e91e88f5464888bdf", func := "samara/samaralaw01.CellSizes", spec := "cellSizes", apart := false }
def CellSizesSaid : Prop := cellSizesRow.holds Try.pinned (OpenSpec.ofChange cellSizesSpec)

/-- ITS FALSE NEIGHBOUR: 'it returns false'. Refute it at one input. -/
def cellSizesWrong : ChangeSpec := { name := "cellSizes", fn := fun _ => fun
  | [d] => { results := [.lit (.bool false)], args := [d] }
  | _ => none }
def CellSizesWrongFalsely : Prop := cellSizesRow.holds Try.pinned (OpenSpec.ofChange cellSizesWrong)

/-- 'samaralaw01.CellLooks': WHATEVER THE INPUT: true; the input reads as it did. -/
def cellLooksSpec : ChangeSpec := { name := "cellLooks", fn := fun _ => fun
  | [d1, d2, d3] => { results := [.lit (.bool true)], args := [d1, d2, d3] }
  | _ => none }
def cellLooksRow : OpenClaim := { program := "ytnglbgdokdcefaa", sum := "bbfa6808f72590643fbce4741c6235bc6f14b3fcc5477f7e91e88f5464888bdf", func := "samara/samaralaw01.CellLooks", spec := "cellLooks", apart := false }
def CellLooksSaid : Prop := cellLooksRow.holds Try.pinned (OpenSpec.ofChange cellLooksSpec)

/-- ITS FALSE NEIGHBOUR: 'it returns false'. Refute it at one input. -/
def cellLooksWrong : ChangeSpec := { name := "cellLooks", fn := fun _ => fun
  | [d1, d2, d3] => { results := [.lit (.bool false)], args := [d1, d2, d3] }
  | _ => none }
def CellLooksWrongFalsely : Prop := cellLooksRow.holds Try.pinned (OpenSpec.ofChange cellLooksWrong)

/-- 'samaralaw01.CellAdds': WHATEVER THE INPUT: true; the input reads as it did. -/
def cellAddsSpec : ChangeSpec := { name := "cellAdds", fn := fun _ => fun
  | [d1, d2] => { results := [.lit (.bool true)], args := [d1, d2] }
  | _ => none }
def cellAddsRow : OpenClaim := { program := "ytnglbgdokdcefaa", sum := "bbfa6808f72590643fbce4741c6235bc6f14b3fcc5477f7e91e88f5464888bdf", func := "samara/samaralaw01.CellAdds", spec := "cellAdds", apart := false }
def CellAddsSaid : Prop := cellAddsRow.holds Try.pinned (OpenSpec.ofChange cellAddsSpec)

/-- ITS FALSE NEIGHBOUR: 'it returns false'. Refute it at one input. -/
def cellAddsWrong : ChangeSpec := { name := "cellAdds", fn := fun _ => fun
  | [d1, d2] => { results := [.lit (.bool false)], args := [d1, d2] }
  | _ => none }
def CellAddsWrongFalsely : Prop := cellAddsRow.holds Try.pinned (OpenSpec.ofChange cellAddsWrong)

/-- 'samaralaw01.CellSwaps': WHATEVER THE INPUT: true; the input reads as it did. -/
def cellSwapsSpec : ChangeSpec := { name := "cellSwaps", fn := fun _ => fun
  | [d1, d2, d3] => { results := [.lit (.bool true)], args := [d1, d2, d3] }
  | _ => none }
def cellSwapsRow : OpenClaim := { program := "ytnglbgdokdcefaa", sum := "bbfa6808f72590643fbce4741c6235bc6f14b3fcc5477f7e91e88f5464888bdf", func := "samara/samaralaw01.CellSwaps", spec := "cellSwaps", apart := false }
def CellSwapsSaid : Prop := cellSwapsRow.holds Try.pinned (OpenSpec.ofChange cellSwapsSpec)

/-- ITS FALSE NEIGHBOUR: 'it returns false'. Refute it at one input. -/
def cellSwapsWrong : ChangeSpec := { name := "cellSwaps", fn := fun _ => fun
  | [d1, d2, d3] => { results := [.lit (.bool false)], args := [d1, d2, d3] }
  | _ => none }
def CellSwapsWrongFalsely : Prop := cellSwapsRow.holds Try.pinned (OpenSpec.ofChange cellSwapsWrong)

/-- 'samaralaw01.CellPlays': WHATEVER THE INPUT: true; the input reads as it did. -/
def cellPlaysSpec : ChangeSpec := { name := "cellPlays", fn := fun _ => fun
  | [d1, d2] => { results := [.lit (.bool true)], args := [d1, d2] }
  | _ => none }
def cellPlaysRow : OpenClaim := { program := "ytnglbgdokdcefaa", sum := "bbfa6808f72590643fbce4741c6235bc6f14b3fcc5477f7e91e88f5464888bdf", func := "samara/samaralaw01.CellPlays", spec := "cellPlays", apart := false }
def CellPlaysSaid : Prop := cellPlaysRow.holds Try.pinned (OpenSpec.ofChange cellPlaysSpec)

/-- ITS FALSE NEIGHBOUR: 'it returns false'. Refute it at one input. -/
def cellPlaysWrong : ChangeSpec := { name := "cellPlays", fn := fun _ => fun
  | [d1, d2] => { results := [.lit (.bool false)], args := [d1, d2] }
  | _ => none }
def CellPlaysWrongFalsely : Prop := cellPlaysRow.holds Try.pinned (OpenSpec.ofChange cellPlaysWrong)

/-- 'samaralaw18.BuildCuts': WHATEVER THE INPUT: true; the input reads as it did. -/
def buildCutsSpec : ChangeSpec := { name := "buildCuts", fn := fun _ => fun
  | [d] => { results := [.lit (.bool true)], args := [d] }
  | _ => none }
def buildCutsRow : OpenClaim := { program := "ytnglbgdokdcefaa", sum := "bbfa6808f72590643fbce4741c6235bc6f14b3fcc5477f7e91e88f5464888bdf", func := "samara/samaralaw18.BuildCuts", spec := "buildCuts", recurses := true, apart := false }
def BuildCutsSaid : Prop := buildCutsRow.holds Try.pinned (OpenSpec.ofChange buildCutsSpec)

/-- ITS FALSE NEIGHBOUR: 'it returns false'. Refute it at one input. -/
def buildCutsWrong : ChangeSpec := { name := "buildCuts", fn := fun _ => fun
  | [d] => { results := [.lit (.bool false)], args := [d] }
  | _ => none }
def BuildCutsWrongFalsely : Prop := buildCutsRow.holds Try.pinned (OpenSpec.ofChange buildCutsWrong)

/-- 'samaralaw15.SlotOwn': WHATEVER THE INPUT: true; the input reads as it did. -/
def slotOwnSpec : ChangeSpec := { name := "slotOwn", fn := fun _ => fun
  | [d] => { results := [.lit (.bool true)], args := [d] }
  | _ => none }
def slotOwnRow : OpenClaim := { program := "ytnglbgdokdcefaa", sum := "bbfa6808f72590643fbce4741c6235bc6f14b3fcc5477f7e91e88f5464888bdf", func := "samara/samaralaw15.SlotOwn", spec := "slotOwn", apart := false }
def SlotOwnSaid : Prop := slotOwnRow.holds Try.pinned (OpenSpec.ofChange slotOwnSpec)

/-- ITS FALSE NEIGHBOUR: 'it returns false'. Refute it at one input. -/
def slotOwnWrong : ChangeSpec := { name := "slotOwn", fn := fun _ => fun
  | [d] => { results := [.lit (.bool false)], args := [d] }
  | _ => none }
def SlotOwnWrongFalsely : Prop := slotOwnRow.holds Try.pinned (OpenSpec.ofChange slotOwnWrong)

/-- 'samaralaw15.SlotAreas': WHATEVER THE INPUT: true; the input reads as it did. -/
def slotAreasSpec : ChangeSpec := { name := "slotAreas", fn := fun _ => fun
  | [d1, d2] => { results := [.lit (.bool true)], args := [d1, d2] }
  | _ => none }
def slotAreasRow : OpenClaim := { program := "ytnglbgdokdcefaa", sum := "bbfa6808f72590643fbce4741c6235bc6f14b3fcc5477f7e91e88f5464888bdf", func := "samara/samaralaw15.SlotAreas", spec := "slotAreas", apart := false }
def SlotAreasSaid : Prop := slotAreasRow.holds Try.pinned (OpenSpec.ofChange slotAreasSpec)

/-- ITS FALSE NEIGHBOUR: 'it returns false'. Refute it at one input. -/
def slotAreasWrong : ChangeSpec := { name := "slotAreas", fn := fun _ => fun
  | [d1, d2] => { results := [.lit (.bool false)], args := [d1, d2] }
  | _ => none }
def SlotAreasWrongFalsely : Prop := slotAreasRow.holds Try.pinned (OpenSpec.ofChange slotAreasWrong)

/-- 'samaralaw15.SlotWords': WHATEVER THE INPUT: true; the input reads as it did. -/
def slotWordsSpec : ChangeSpec := { name := "slotWords", fn := fun _ => fun
  | [d] => { results := [.lit (.bool true)], args := [d] }
  | _ => none }
def slotWordsRow : OpenClaim := { program := "ytnglbgdokdcefaa", sum := "bbfa6808f72590643fbce4741c6235bc6f14b3fcc5477f7e91e88f5464888bdf", func := "samara/samaralaw15.SlotWords", spec := "slotWords", apart := false }
def SlotWordsSaid : Prop := slotWordsRow.holds Try.pinned (OpenSpec.ofChange slotWordsSpec)

/-- ITS FALSE NEIGHBOUR: 'it returns false'. Refute it at one input. -/
def slotWordsWrong : ChangeSpec := { name := "slotWords", fn := fun _ => fun
  | [d] => { results := [.lit (.bool false)], args := [d] }
  | _ => none }
def SlotWordsWrongFalsely : Prop := slotWordsRow.holds Try.pinned (OpenSpec.ofChange slotWordsWrong)

/-- 'samaralaw15.SlotChanged': WHATEVER THE INPUT: true; the input reads as it did. -/
def slotChangedSpec : ChangeSpec := { name := "slotChanged", fn := fun _ => fun
  | [d1, d2, d3] => { results := [.lit (.bool true)], args := [d1, d2, d3] }
  | _ => none }
def slotChangedRow : OpenClaim := { program := "ytnglbgdokdcefaa", sum := "bbfa6808f72590643fbce4741c6235bc6f14b3fcc5477f7e91e88f5464888bdf", func := "samara/samaralaw15.SlotChanged", spec := "slotChanged", apart := false }
def SlotChangedSaid : Prop := slotChangedRow.holds Try.pinned (OpenSpec.ofChange slotChangedSpec)

/-- ITS FALSE NEIGHBOUR: 'it returns false'. Refute it at one input. -/
def slotChangedWrong : ChangeSpec := { name := "slotChanged", fn := fun _ => fun
  | [d1, d2, d3] => { results := [.lit (.bool false)], args := [d1, d2, d3] }
  | _ => none }
def SlotChangedWrongFalsely : Prop := slotChangedRow.holds Try.pinned (OpenSpec.ofChange slotChangedWrong)

/-- 'samaralaw18.BuildEntries': WHATEVER THE INPUT: true; the input reads as it did. -/
def buildEntriesSpec : ChangeSpec := { name := "buildEntries", fn := fun _ => fun
  | [d1, d2, d3] => { results := [.lit (.bool true)], args := [d1, d2, d3] }
  | _ => none }
def buildEntriesRow : OpenClaim := { program := "ytnglbgdokdcefaa", sum := "bbfa6808f72590643fbce4741c6235bc6f14b3fcc5477f7e91e88f5464888bdf", func := "samara/samaralaw18.BuildEntries", spec := "buildEntries", unfollowed := true, recurses := true, apart := false }
def BuildEntriesSaid : Prop := buildEntriesRow.holds Try.pinned (OpenSpec.ofChange buildEntriesSpec)

/-- ITS FALSE NEIGHBOUR: 'it returns false'. Refute it at one input. -/
def buildEntriesWrong : ChangeSpec := { name := "buildEntries", fn := fun _ => fun
  | [d1, d2, d3] => { results := [.lit (.bool false)], args := [d1, d2, d3] }
  | _ => none }
def BuildEntriesWrongFalsely : Prop := buildEntriesRow.holds Try.pinned (OpenSpec.ofChange buildEntriesWrong)

/-- 'samaralaw18.BuildTrees': WHATEVER THE INPUT: true; the input reads as it did. -/
def buildTreesSpec : ChangeSpec := { name := "buildTrees", fn := fun _ => fun
  | [d1, d2, d3] => { results := [.lit (.bool true)], args := [d1, d2, d3] }
  | _ => none }
def buildTreesRow : OpenClaim := { program := "ytnglbgdokdcefaa", sum := "bbfa6808f72590643fbce4741c6235bc6f14b3fcc5477f7e91e88f5464888bdf", func := "samara/samaralaw18.BuildTrees", spec := "buildTrees", unfollowed := true, recurses := true, apart := false }
def BuildTreesSaid : Prop := buildTreesRow.holds Try.pinned (OpenSpec.ofChange buildTreesSpec)

/-- ITS FALSE NEIGHBOUR: 'it returns false'. Refute it at one input. -/
def buildTreesWrong : ChangeSpec := { name := "buildTrees", fn := fun _ => fun
  | [d1, d2, d3] => { results := [.lit (.bool false)], args := [d1, d2, d3] }
  | _ => none }
def BuildTreesWrongFalsely : Prop := buildTreesRow.holds Try.pinned (OpenSpec.ofChange buildTreesWrong)

/- THE SECOND FORM. 'bulk': how many values and letters a reading holds, each counted each time it is reached (what is shared counts as often as it is met; a slice's spare places count too). A statement '..UptoSaid' is the law's where the arguments, and the package variables that the reading takes, are together of bulk at most 1048576: NARROWER than '..Said'. Prove '..Said' where nothing that the law and all that it calls make is longer than what came in: it says more and counts as full. Else prove '..UptoSaid'. A law counts once. -/
mutual
def uptoBulk {H : Type} : DataW H → Nat
  | .lit (.string bytes) => bytes.length + 1
  | .lit _ => 1
  | .nil => 1
  | .ptr d => uptoBulk d + 1
  | .slice elems spare => uptoBulkAll elems + uptoBulkAll spare + 1
  | .agg parts => uptoBulkAll parts + 1
  | .iface _ d => uptoBulk d + 1
  | .map entries => uptoBulkEntries entries + 1
  | .held _ => 1
def uptoBulkAll {H : Type} : List (DataW H) → Nat
  | [] => 0
  | d :: r => uptoBulk d + uptoBulkAll r
def uptoBulkEntries {H : Type} : List (Lit × DataW H) → Nat
  | [] => 0
  | x :: r => uptoBulkEntry x + uptoBulkEntries r
def uptoBulkEntry {H : Type} : Lit × DataW H → Nat
  | (.string bytes, d) => bytes.length + uptoBulk d + 1
  | (_, d) => uptoBulk d + 1
 end
def uptoSmall : (H : Type) → List (DataW H) → Bool := fun _ ds => decide (uptoBulkAll ds ≤ 1048576)
def OpenSpec.upto (s : _root_.Go.ChangeSpec) : _root_.Go.OpenSpec := { _root_.Go.OpenSpec.ofChange s with cond := some uptoSmall }

/-- 'samaralaw01.CellSizes', WHERE WHAT IT READS IS OF BULK AT MOST 1048576: true; the input reads as it did. -/
def cellSizesUptoRow : OpenClaim := { program := "ytnglbgdokdcefaa", sum := "bbfa6808f72590643fbce4741c6235bc6f14b3fcc5477f7e91e88f5464888bdf", func := "samara/samaralaw01.CellSizes", spec := "cellSizes", apart := false, narrowed := true }
def CellSizesUptoSaid : Prop := cellSizesUptoRow.holds Try.pinned (OpenSpec.upto cellSizesSpec)

/-- 'samaralaw01.CellLooks', WHERE WHAT IT READS IS OF BULK AT MOST 1048576: true; the input reads as it did. -/
def cellLooksUptoRow : OpenClaim := { program := "ytnglbgdokdcefaa", sum := "bbfa6808f72590643fbce4741c6235bc6f14b3fcc5477f7e91e88f5464888bdf", func := "samara/samaralaw01.CellLooks", spec := "cellLooks", apart := false, narrowed := true }
def CellLooksUptoSaid : Prop := cellLooksUptoRow.holds Try.pinned (OpenSpec.upto cellLooksSpec)

/-- 'samaralaw01.CellAdds', WHERE WHAT IT READS IS OF BULK AT MOST 1048576: true; the input reads as it did. -/
def cellAddsUptoRow : OpenClaim := { program := "ytnglbgdokdcefaa", sum := "bbfa6808f72590643fbce4741c6235bc6f14b3fcc5477f7e91e88f5464888bdf", func := "samara/samaralaw01.CellAdds", spec := "cellAdds", apart := false, narrowed := true }
def CellAddsUptoSaid : Prop := cellAddsUptoRow.holds Try.pinned (OpenSpec.upto cellAddsSpec)

/-- 'samaralaw01.CellSwaps', WHERE WHAT IT READS IS OF BULK AT MOST 1048576: true; the input reads as it did. -/
def cellSwapsUptoRow : OpenClaim := { program := "ytnglbgdokdcefaa", sum := "bbfa6808f72590643fbce4741c6235bc6f14b3fcc5477f7e91e88f5464888bdf", func := "samara/samaralaw01.CellSwaps", spec := "cellSwaps", apart := false, narrowed := true }
def CellSwapsUptoSaid : Prop := cellSwapsUptoRow.holds Try.pinned (OpenSpec.upto cellSwapsSpec)

/-- 'samaralaw01.CellPlays', WHERE WHAT IT READS IS OF BULK AT MOST 1048576: true; the input reads as it did. -/
def cellPlaysUptoRow : OpenClaim := { program := "ytnglbgdokdcefaa", sum := "bbfa6808f72590643fbce4741c6235bc6f14b3fcc5477f7e91e88f5464888bdf", func := "samara/samaralaw01.CellPlays", spec := "cellPlays", apart := false, narrowed := true }
def CellPlaysUptoSaid : Prop := cellPlaysUptoRow.holds Try.pinned (OpenSpec.upto cellPlaysSpec)

/-- 'samaralaw18.BuildCuts', WHERE WHAT IT READS IS OF BULK AT MOST 1048576: true; the input reads as it did. -/
def buildCutsUptoRow : OpenClaim := { program := "ytnglbgdokdcefaa", sum := "bbfa6808f72590643fbce4741c6235bc6f14b3fcc5477f7e91e88f5464888bdf", func := "samara/samaralaw18.BuildCuts", spec := "buildCuts", recurses := true, apart := false, narrowed := true }
def BuildCutsUptoSaid : Prop := buildCutsUptoRow.holds Try.pinned (OpenSpec.upto buildCutsSpec)

/-- 'samaralaw15.SlotOwn', WHERE WHAT IT READS IS OF BULK AT MOST 1048576: true; the input reads as it did. -/
def slotOwnUptoRow : OpenClaim := { program := "ytnglbgdokdcefaa", sum := "bbfa6808f72590643fbce4741c6235bc6f14b3fcc5477f7e91e88f5464888bdf", func := "samara/samaralaw15.SlotOwn", spec := "slotOwn", apart := false, narrowed := true }
def SlotOwnUptoSaid : Prop := slotOwnUptoRow.holds Try.pinned (OpenSpec.upto slotOwnSpec)

/-- 'samaralaw15.SlotAreas', WHERE WHAT IT READS IS OF BULK AT MOST 1048576: true; the input reads as it did. -/
def slotAreasUptoRow : OpenClaim := { program := "ytnglbgdokdcefaa", sum := "bbfa6808f72590643fbce4741c6235bc6f14b3fcc5477f7e91e88f5464888bdf", func := "samara/samaralaw15.SlotAreas", spec := "slotAreas", apart := false, narrowed := true }
def SlotAreasUptoSaid : Prop := slotAreasUptoRow.holds Try.pinned (OpenSpec.upto slotAreasSpec)

/-- 'samaralaw15.SlotWords', WHERE WHAT IT READS IS OF BULK AT MOST 1048576: true; the input reads as it did. -/
def slotWordsUptoRow : OpenClaim := { program := "ytnglbgdokdcefaa", sum := "bbfa6808f72590643fbce4741c6235bc6f14b3fcc5477f7e91e88f5464888bdf", func := "samara/samaralaw15.SlotWords", spec := "slotWords", apart := false, narrowed := true }
def SlotWordsUptoSaid : Prop := slotWordsUptoRow.holds Try.pinned (OpenSpec.upto slotWordsSpec)

/-- 'samaralaw15.SlotChanged', WHERE WHAT IT READS IS OF BULK AT MOST 1048576: true; the input reads as it did. -/
def slotChangedUptoRow : OpenClaim := { program := "ytnglbgdokdcefaa", sum := "bbfa6808f72590643fbce4741c6235bc6f14b3fcc5477f7e91e88f5464888bdf", func := "samara/samaralaw15.SlotChanged", spec := "slotChanged", apart := false, narrowed := true }
def SlotChangedUptoSaid : Prop := slotChangedUptoRow.holds Try.pinned (OpenSpec.upto slotChangedSpec)

/-- 'samaralaw18.BuildEntries', WHERE WHAT IT READS IS OF BULK AT MOST 1048576: true; the input reads as it did. -/
def buildEntriesUptoRow : OpenClaim := { program := "ytnglbgdokdcefaa", sum := "bbfa6808f72590643fbce4741c6235bc6f14b3fcc5477f7e91e88f5464888bdf", func := "samara/samaralaw18.BuildEntries", spec := "buildEntries", unfollowed := true, recurses := true, apart := false, narrowed := true }
def BuildEntriesUptoSaid : Prop := buildEntriesUptoRow.holds Try.pinned (OpenSpec.upto buildEntriesSpec)

/-- 'samaralaw18.BuildTrees', WHERE WHAT IT READS IS OF BULK AT MOST 1048576: true; the input reads as it did. -/
def buildTreesUptoRow : OpenClaim := { program := "ytnglbgdokdcefaa", sum := "bbfa6808f72590643fbce4741c6235bc6f14b3fcc5477f7e91e88f5464888bdf", func := "samara/samaralaw18.BuildTrees", spec := "buildTrees", unfollowed := true, recurses := true, apart := false, narrowed := true }
def BuildTreesUptoSaid : Prop := buildTreesUptoRow.holds Try.pinned (OpenSpec.upto buildTreesSpec)

end Rows
end Go.Proofs.Ytnglbgdokdcefaa
