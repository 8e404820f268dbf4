/-
  No cell of these rows narrows 'for every input' (looked for: loops, veiled, ifaces, maps, wideKeys, modest, calm, conditions, laid).
  DERIVED. THE GIVEN ROWS OF THIS SEAT. 5 by the template 'for every input the law returns true; each argument reads behind the call as it read before'; 0 by the template 'total and deterministic' (their statements: YtohidmkfpaiklaaTotals.lean).
  GIVEN WITH THE SEED: the statements are not yours to turn. If you find one false, say at which input.
  Laid BY PROGRAM, IN A SANDBOX (cutbox-rows.mjs): the forced cells as the released guide's own fill.sh prints them over the translation 6789c332a35ad169… (all of the seat's roots in one cut). By AI agents, Wed Nov 11 2026. No macro, syntax, notation, axiom, sorry.
-/
import Derived.Test.YtohidmkfpaiklaaChecked
import GoSem.Claim
import GoSem.ClaimJoined
import GoSem.ClaimMapViews
import Derived.JoinedTies
import Derived.KernelRfl
namespace Go.Proofs.Ytohidmkfpaiklaa
/- THE CELL 'sum', in the pinned program and in every row, IS THE sha256 OF THE DUMP (.gsa) THAT YtohidmkfpaiklaaProg.lean LOADS. Nothing in Lean hashes anything: it is a label: what it is worth is what the hold of that sum in a sandbox is worth. -/
noncomputable def Try.pinned : Pinned := { name := "ytohidmkfpaiklaa", sum := "6789c332a35ad169fd44e253c8c37c1d51c97f180d71db9dcd959edfa6d97966", checked := Try.checked }
namespace Rows
def none {H : Type} : Left H := { results := [], args := [] }

/-- 'samaralaw18.BuildEntries': WHATEVER THE INPUT: true; the input reads as it did. -/
def buildEntriesSpec : ChangeSpec := { name := "buildEntries", fn := fun _ => fun
  | [d1, d2, d3] => { results := [.lit (.bool true)], args := [d1, d2, d3] }
  | _ => none }
def buildEntriesRow : OpenClaim := { program := "ytohidmkfpaiklaa", sum := "6789c332a35ad169fd44e253c8c37c1d51c97f180d71db9dcd959edfa6d97966", func := "samara/samaralaw18.BuildEntries", spec := "buildEntries", unfollowed := true, recurses := true, apart := false }
def BuildEntriesSaid : Prop := buildEntriesRow.holds Try.pinned (OpenSpec.ofChange buildEntriesSpec)

/-- ITS FALSE NEIGHBOUR: 'it returns false'. Refute it at one input. -/
def buildEntriesWrong : ChangeSpec := { name := "buildEntries", fn := fun _ => fun
  | [d1, d2, d3] => { results := [.lit (.bool false)], args := [d1, d2, d3] }
  | _ => none }
def BuildEntriesWrongFalsely : Prop := buildEntriesRow.holds Try.pinned (OpenSpec.ofChange buildEntriesWrong)

/-- 'samaralaw18.BuildTrees': WHATEVER THE INPUT: true; the input reads as it did. -/
def buildTreesSpec : ChangeSpec := { name := "buildTrees", fn := fun _ => fun
  | [d1, d2, d3] => { results := [.lit (.bool true)], args := [d1, d2, d3] }
  | _ => none }
def buildTreesRow : OpenClaim := { program := "ytohidmkfpaiklaa", sum := "6789c332a35ad169fd44e253c8c37c1d51c97f180d71db9dcd959edfa6d97966", func := "samara/samaralaw18.BuildTrees", spec := "buildTrees", unfollowed := true, recurses := true, apart := false }
def BuildTreesSaid : Prop := buildTreesRow.holds Try.pinned (OpenSpec.ofChange buildTreesSpec)

/-- ITS FALSE NEIGHBOUR: 'it returns false'. Refute it at one input. -/
def buildTreesWrong : ChangeSpec := { name := "buildTrees", fn := fun _ => fun
  | [d1, d2, d3] => { results := [.lit (.bool false)], args := [d1, d2, d3] }
  | _ => none }
def BuildTreesWrongFalsely : Prop := buildTreesRow.holds Try.pinned (OpenSpec.ofChange buildTreesWrong)

/-- 'samaralaw18.BuildGaps': WHATEVER THE INPUT: true; the input reads as it did. -/
def buildGapsSpec : ChangeSpec := { name := "buildGaps", fn := fun _ => fun
  | [d] => { results := [.lit (.bool true)], args := [d] }
  | _ => none }
def buildGapsRow : OpenClaim := { program := "ytohidmkfpaiklaa", sum := "6789c332a35ad169fd44e253c8c37c1d51c97f180d71db9dcd959edfa6d97966", func := "samara/samaralaw18.BuildGaps", spec := "buildGaps", unfollowed := true, recurses := true, apart := false }
def BuildGapsSaid : Prop := buildGapsRow.holds Try.pinned (OpenSpec.ofChange buildGapsSpec)

/-- ITS FALSE NEIGHBOUR: 'it returns false'. Refute it at one input. -/
def buildGapsWrong : ChangeSpec := { name := "buildGaps", fn := fun _ => fun
  | [d] => { results := [.lit (.bool false)], args := [d] }
  | _ => none }
def BuildGapsWrongFalsely : Prop := buildGapsRow.holds Try.pinned (OpenSpec.ofChange buildGapsWrong)

/-- 'samaralaw18.BuildBack': WHATEVER THE INPUT: true; the input reads as it did. -/
def buildBackSpec : ChangeSpec := { name := "buildBack", fn := fun _ => fun
  | [d1, d2] => { results := [.lit (.bool true)], args := [d1, d2] }
  | _ => none }
def buildBackRow : OpenClaim := { program := "ytohidmkfpaiklaa", sum := "6789c332a35ad169fd44e253c8c37c1d51c97f180d71db9dcd959edfa6d97966", func := "samara/samaralaw18.BuildBack", spec := "buildBack", unfollowed := true, recurses := true, apart := false }
def BuildBackSaid : Prop := buildBackRow.holds Try.pinned (OpenSpec.ofChange buildBackSpec)

/-- ITS FALSE NEIGHBOUR: 'it returns false'. Refute it at one input. -/
def buildBackWrong : ChangeSpec := { name := "buildBack", fn := fun _ => fun
  | [d1, d2] => { results := [.lit (.bool false)], args := [d1, d2] }
  | _ => none }
def BuildBackWrongFalsely : Prop := buildBackRow.holds Try.pinned (OpenSpec.ofChange buildBackWrong)

/-- 'samaralaw24.SettleDirty': WHATEVER THE INPUT: true; the input reads as it did. -/
def settleDirtySpec : ChangeSpec := { name := "settleDirty", fn := fun _ => fun
  | [d1, d2] => { results := [.lit (.bool true)], args := [d1, d2] }
  | _ => none }
def settleDirtyRow : OpenClaim := { program := "ytohidmkfpaiklaa", sum := "6789c332a35ad169fd44e253c8c37c1d51c97f180d71db9dcd959edfa6d97966", func := "samara/samaralaw24.SettleDirty", spec := "settleDirty", unfollowed := true, recurses := true, apart := false }
def SettleDirtySaid : Prop := settleDirtyRow.holds Try.pinned (OpenSpec.ofChange settleDirtySpec)

/-- ITS FALSE NEIGHBOUR: 'it returns false'. Refute it at one input. -/
def settleDirtyWrong : ChangeSpec := { name := "settleDirty", fn := fun _ => fun
  | [d1, d2] => { results := [.lit (.bool false)], args := [d1, d2] }
  | _ => none }
def SettleDirtyWrongFalsely : Prop := settleDirtyRow.holds Try.pinned (OpenSpec.ofChange settleDirtyWrong)

/- THE SECOND FORM. 'bulk': how many values and letters a reading holds, each counted each time it is reached (what is shared counts as often as it is met; a slice's spare places count too). A statement '..UptoSaid' is the law's where the arguments, and the package variables that the reading takes, are together of bulk at most 1048576: NARROWER than '..Said'. Prove '..Said' where nothing that the law and all that it calls make is longer than what came in: it says more and counts as full. Else prove '..UptoSaid'. A law counts once. -/
mutual
def uptoBulk {H : Type} : DataW H → Nat
  | .lit (.string bytes) => bytes.length + 1
  | .lit _ => 1
  | .nil => 1
  | .ptr d => uptoBulk d + 1
  | .slice elems spare => uptoBulkAll elems + uptoBulkAll spare + 1
  | .agg parts => uptoBulkAll parts + 1
  | .iface _ d => uptoBulk d + 1
  | .map entries => uptoBulkEntries entries + 1
  | .held _ => 1
def uptoBulkAll {H : Type} : List (DataW H) → Nat
  | [] => 0
  | d :: r => uptoBulk d + uptoBulkAll r
def uptoBulkEntries {H : Type} : List (Lit × DataW H) → Nat
  | [] => 0
  | x :: r => uptoBulkEntry x + uptoBulkEntries r
def uptoBulkEntry {H : Type} : Lit × DataW H → Nat
  | (.string bytes, d) => bytes.length + uptoBulk d + 1
  | (_, d) => uptoBulk d + 1
 end
def uptoSmall : (H : Type) → List (DataW H) → Bool := fun _ ds => decide (uptoBulkAll ds ≤ 1048576)
def OpenSpec.upto (s : _root_.Go.ChangeSpec) : _root_.Go.OpenSpec := { _root_.Go.OpenSpec.ofChange s with cond := some uptoSmall }

/-- 'samaralaw18.BuildEntries', WHERE WHAT IT READS IS OF BULK AT MOST 1048576: true; the input reads as it did. -/
def buildEntriesUptoRow : OpenClaim := { program := "ytohidmkfpaiklaa", sum := "6789c332a35ad169fd44e253c8c37c1d51c97f180d71db9dcd959edfa6d97966", func := "samara/samaralaw18.BuildEntries", spec := "buildEntries", unfollowed := true, recurses := true, apart := false, narrowed := true }
def BuildEntriesUptoSaid : Prop := buildEntriesUptoRow.holds Try.pinned (OpenSpec.upto buildEntriesSpec)

/-- 'samaralaw18.BuildTrees', WHERE WHAT IT READS IS OF BULK AT MOST 1048576: true; the input reads as it did. -/
def buildTreesUptoRow : OpenClaim := { program := "ytohidmkfpaiklaa", sum := "6789c332a35ad169fd44e253c8c37c1d51c97f180d71db9dcd959edfa6d97966", func := "samara/samaralaw18.BuildTrees", spec := "buildTrees", unfollowed := true, recurses := true, apart := false, narrowed := true }
def BuildTreesUptoSaid : Prop := buildTreesUptoRow.holds Try.pinned (OpenSpec.upto buildTreesSpec)

/-- 'samaralaw18.BuildGaps', WHERE WHAT IT READS IS OF BULK AT MOST 1048576: true; the input reads as it did. -/
def buildGapsUptoRow : OpenClaim := { program := "ytohidmkfpaiklaa", sum := "6789c332a35ad169fd44e253c8c37c1d51c97f180d71db9dcd959edfa6d97966", func := "samara/samaralaw18.BuildGaps", spec := "buildGaps", unfollowed := true, recurses := true, apart := false, narrowed := true }
def BuildGapsUptoSaid : Prop := buildGapsUptoRow.holds Try.pinned (OpenSpec.upto buildGapsSpec)

/-- 'samaralaw18.BuildBack', WHERE WHAT IT READS IS OF BULK AT MOST 1048576: true; the input reads as it did. -/
def buildBackUptoRow : OpenClaim := { program := "ytohidmkfpaiklaa", sum := "6789c332a35ad169fd44e253c8c37c1d51c97f180d71db9dcd959edfa6d97966", func := "samara/samaralaw18.BuildBack", spec := "buildBack", unfollowed := true, recurses := true, apart := false, narrowed := true }
def BuildBackUptoSaid : Prop := buildBackUptoRow.holds Try.pinned (OpenSpec.upto buildBackSpec)

/-- 'samaralaw24.SettleDirty', WHERE WHAT IT READS IS OF BULK AT MOST 1048576: true; the input reads as it did. -/
def settleDirtyUptoRow : OpenClaim := { program := "ytohidmkfpaiklaa", sum := "6789c332a35ad169fd44e253c8c37c1d51c97f180d71db9dcd959edfa6d97966", func := "samara/samaralaw24.SettleDirty", spec := "settleDirty", unfollowed := true, recurses := true, apart := false, narrowed := true }
def SettleDirtyUptoSaid : Prop := settleDirtyUptoRow.holds Try.pinned (OpenSpec.upto settleDirtySpec)

end Rows
end Go.Proofs.Ytohidmkfpaiklaa
