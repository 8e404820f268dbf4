/-
  No cell of these rows narrows 'for every input' (looked for: loops, veiled, ifaces, maps, wideKeys, modest, calm, conditions, laid).
  DERIVED. THE GIVEN ROWS OF THIS SEAT. 12 by the template 'for every input the law returns true; each argument reads behind the call as it read before'; 0 by the template 'total and deterministic' (their statements: YtldccemgfjmcdaaTotals.lean).
  GIVEN WITH THE SEED: the statements are not yours to turn. If you find one false, say at which input.
  Laid BY PROGRAM, IN A SANDBOX (cutbox-rows.mjs): the forced cells as the released guide's own fill.sh prints them over the translation d8e872266ec9514a… (all of the seat's roots in one cut). By AI agents, Wed Nov 11 2026. No macro, syntax, notation, axiom, sorry.
-/
import Derived.Test.YtldccemgfjmcdaaChecked
import GoSem.Claim
import GoSem.ClaimJoined
import GoSem.ClaimMapViews
import Derived.JoinedTies
import Derived.KernelRfl
namespace Go.Proofs.Ytldccemgfjmcdaa
/- THE CELL 'sum', in the pinned program and in every row, IS THE sha256 OF THE DUMP (.gsa) THAT YtldccemgfjmcdaaProg.lean LOADS. Nothing in Lean hashes anything: it is a label: what it is worth is what the hold of that sum in a sandbox is worth. -/
noncomputable def Try.pinned : Pinned := { name := "ytldccemgfjmcdaa", sum := "d8e872266ec9514ab322fd247cc3c0cddfade75eddf5fb15a86759e57b8d017f", checked := Try.checked }
namespace Rows
def none {H : Type} : Left H := { results := [], args := [] }

/-- 'samaralaw17.WalkFinds': WHATEVER THE INPUT: true; the input reads as it did. -/
def walkFindsSpec : ChangeSpec := { name := "walkFinds", fn := fun _ => fun
  | [d1, d2, d3] => { results := [.lit (.bool true)], args := [d1, d2, d3] }
  | _ => none }
def walkFindsRow : OpenClaim := { program := "ytldccemgfjmcdaa", sum := "d8e872266ec9514ab322fd247cc3c0cddfade75eddf5fb15a86759e57b8d017f", func := "samara/samaralaw17.WalkFinds", spec := "walkFinds", unfollowed := true, recurses := true, apart := false }
def WalkFindsSaid : Prop := walkFindsRow.holds Try.pinned (OpenSpec.ofChange walkFindsSpec)

/-- ITS FALSE NEIGHBOUR: 'it returns false'. Refute it at one input. -/
def walkFindsWrong : ChangeSpec := { name := "walkFinds", fn := fun _ => fun
  | [d1, d2, d3] => { results := [.lit (.bool false)], args := [d1, d2, d3] }
  | _ => none }
def WalkFindsWrongFalsely : Prop := walkFindsRow.holds Try.pinned (OpenSpec.ofChange walkFindsWrong)

/-- 'samaralaw17.WalkGoes': WHATEVER THE INPUT: true; the input reads as it did. -/
def walkGoesSpec : ChangeSpec := { name := "walkGoes", fn := fun _ => fun
  | [d1, d2] => { results := [.lit (.bool true)], args := [d1, d2] }
  | _ => none }
def walkGoesRow : OpenClaim := { program := "ytldccemgfjmcdaa", sum := "d8e872266ec9514ab322fd247cc3c0cddfade75eddf5fb15a86759e57b8d017f", func := "samara/samaralaw17.WalkGoes", spec := "walkGoes", unfollowed := true, recurses := true, apart := false }
def WalkGoesSaid : Prop := walkGoesRow.holds Try.pinned (OpenSpec.ofChange walkGoesSpec)

/-- ITS FALSE NEIGHBOUR: 'it returns false'. Refute it at one input. -/
def walkGoesWrong : ChangeSpec := { name := "walkGoes", fn := fun _ => fun
  | [d1, d2] => { results := [.lit (.bool false)], args := [d1, d2] }
  | _ => none }
def WalkGoesWrongFalsely : Prop := walkGoesRow.holds Try.pinned (OpenSpec.ofChange walkGoesWrong)

/-- 'samaralaw17.WalkAgrees': WHATEVER THE INPUT: true; the input reads as it did. -/
def walkAgreesSpec : ChangeSpec := { name := "walkAgrees", fn := fun _ => fun
  | [d1, d2] => { results := [.lit (.bool true)], args := [d1, d2] }
  | _ => none }
def walkAgreesRow : OpenClaim := { program := "ytldccemgfjmcdaa", sum := "d8e872266ec9514ab322fd247cc3c0cddfade75eddf5fb15a86759e57b8d017f", func := "samara/samaralaw17.WalkAgrees", spec := "walkAgrees", unfollowed := true, recurses := true, apart := false }
def WalkAgreesSaid : Prop := walkAgreesRow.holds Try.pinned (OpenSpec.ofChange walkAgreesSpec)

/-- ITS FALSE NEIGHBOUR: 'it returns false'. Refute it at one input. -/
def walkAgreesWrong : ChangeSpec := { name := "walkAgrees", fn := fun _ => fun
  | [d1, d2] => { results := [.lit (.bool false)], args := [d1, d2] }
  | _ => none }
def WalkAgreesWrongFalsely : Prop := walkAgreesRow.holds Try.pinned (OpenSpec.ofChange walkAgreesWrong)

/-- 'samaralaw17.WalkRound': WHATEVER THE INPUT: true; the input reads as it did. -/
def walkRoundSpec : ChangeSpec := { name := "walkRound", fn := fun _ => fun
  | [d1, d2] => { results := [.lit (.bool true)], args := [d1, d2] }
  | _ => none }
def walkRoundRow : OpenClaim := { program := "ytldccemgfjmcdaa", sum := "d8e872266ec9514ab322fd247cc3c0cddfade75eddf5fb15a86759e57b8d017f", func := "samara/samaralaw17.WalkRound", spec := "walkRound", unfollowed := true, recurses := true, apart := false }
def WalkRoundSaid : Prop := walkRoundRow.holds Try.pinned (OpenSpec.ofChange walkRoundSpec)

/-- ITS FALSE NEIGHBOUR: 'it returns false'. Refute it at one input. -/
def walkRoundWrong : ChangeSpec := { name := "walkRound", fn := fun _ => fun
  | [d1, d2] => { results := [.lit (.bool false)], args := [d1, d2] }
  | _ => none }
def WalkRoundWrongFalsely : Prop := walkRoundRow.holds Try.pinned (OpenSpec.ofChange walkRoundWrong)

/-- 'samaralaw16.SeekThings': WHATEVER THE INPUT: true; the input reads as it did. -/
def seekThingsSpec : ChangeSpec := { name := "seekThings", fn := fun _ => fun
  | [d] => { results := [.lit (.bool true)], args := [d] }
  | _ => none }
def seekThingsRow : OpenClaim := { program := "ytldccemgfjmcdaa", sum := "d8e872266ec9514ab322fd247cc3c0cddfade75eddf5fb15a86759e57b8d017f", func := "samara/samaralaw16.SeekThings", spec := "seekThings", unfollowed := true, recurses := true, apart := false }
def SeekThingsSaid : Prop := seekThingsRow.holds Try.pinned (OpenSpec.ofChange seekThingsSpec)

/-- ITS FALSE NEIGHBOUR: 'it returns false'. Refute it at one input. -/
def seekThingsWrong : ChangeSpec := { name := "seekThings", fn := fun _ => fun
  | [d] => { results := [.lit (.bool false)], args := [d] }
  | _ => none }
def SeekThingsWrongFalsely : Prop := seekThingsRow.holds Try.pinned (OpenSpec.ofChange seekThingsWrong)

/-- 'samaralaw16.SeekNode': WHATEVER THE INPUT: true; the input reads as it did. -/
def seekNodeSpec : ChangeSpec := { name := "seekNode", fn := fun _ => fun
  | [d1, d2] => { results := [.lit (.bool true)], args := [d1, d2] }
  | _ => none }
def seekNodeRow : OpenClaim := { program := "ytldccemgfjmcdaa", sum := "d8e872266ec9514ab322fd247cc3c0cddfade75eddf5fb15a86759e57b8d017f", func := "samara/samaralaw16.SeekNode", spec := "seekNode", unfollowed := true, recurses := true, apart := false }
def SeekNodeSaid : Prop := seekNodeRow.holds Try.pinned (OpenSpec.ofChange seekNodeSpec)

/-- ITS FALSE NEIGHBOUR: 'it returns false'. Refute it at one input. -/
def seekNodeWrong : ChangeSpec := { name := "seekNode", fn := fun _ => fun
  | [d1, d2] => { results := [.lit (.bool false)], args := [d1, d2] }
  | _ => none }
def SeekNodeWrongFalsely : Prop := seekNodeRow.holds Try.pinned (OpenSpec.ofChange seekNodeWrong)

/-- 'samaralaw16.SeekStale': WHATEVER THE INPUT: true; the input reads as it did. -/
def seekStaleSpec : ChangeSpec := { name := "seekStale", fn := fun _ => fun
  | [d1, d2] => { results := [.lit (.bool true)], args := [d1, d2] }
  | _ => none }
def seekStaleRow : OpenClaim := { program := "ytldccemgfjmcdaa", sum := "d8e872266ec9514ab322fd247cc3c0cddfade75eddf5fb15a86759e57b8d017f", func := "samara/samaralaw16.SeekStale", spec := "seekStale", unfollowed := true, recurses := true, apart := false }
def SeekStaleSaid : Prop := seekStaleRow.holds Try.pinned (OpenSpec.ofChange seekStaleSpec)

/-- ITS FALSE NEIGHBOUR: 'it returns false'. Refute it at one input. -/
def seekStaleWrong : ChangeSpec := { name := "seekStale", fn := fun _ => fun
  | [d1, d2] => { results := [.lit (.bool false)], args := [d1, d2] }
  | _ => none }
def SeekStaleWrongFalsely : Prop := seekStaleRow.holds Try.pinned (OpenSpec.ofChange seekStaleWrong)

/-- 'samaralaw16.SeekLooks': WHATEVER THE INPUT: true; the input reads as it did. -/
def seekLooksSpec : ChangeSpec := { name := "seekLooks", fn := fun _ => fun
  | [d1, d2] => { results := [.lit (.bool true)], args := [d1, d2] }
  | _ => none }
def seekLooksRow : OpenClaim := { program := "ytldccemgfjmcdaa", sum := "d8e872266ec9514ab322fd247cc3c0cddfade75eddf5fb15a86759e57b8d017f", func := "samara/samaralaw16.SeekLooks", spec := "seekLooks", unfollowed := true, recurses := true, apart := false }
def SeekLooksSaid : Prop := seekLooksRow.holds Try.pinned (OpenSpec.ofChange seekLooksSpec)

/-- ITS FALSE NEIGHBOUR: 'it returns false'. Refute it at one input. -/
def seekLooksWrong : ChangeSpec := { name := "seekLooks", fn := fun _ => fun
  | [d1, d2] => { results := [.lit (.bool false)], args := [d1, d2] }
  | _ => none }
def SeekLooksWrongFalsely : Prop := seekLooksRow.holds Try.pinned (OpenSpec.ofChange seekLooksWrong)

/-- 'samaralaw19.ReplaceRing': WHATEVER THE INPUT: true; the input reads as it did. -/
def replaceRingSpec : ChangeSpec := { name := "replaceRing", fn := fun _ => fun
  | [d1, d2] => { results := [.lit (.bool true)], args := [d1, d2] }
  | _ => none }
def replaceRingRow : OpenClaim := { program := "ytldccemgfjmcdaa", sum := "d8e872266ec9514ab322fd247cc3c0cddfade75eddf5fb15a86759e57b8d017f", func := "samara/samaralaw19.ReplaceRing", spec := "replaceRing", unfollowed := true, recurses := true, apart := false }
def ReplaceRingSaid : Prop := replaceRingRow.holds Try.pinned (OpenSpec.ofChange replaceRingSpec)

/-- ITS FALSE NEIGHBOUR: 'it returns false'. Refute it at one input. -/
def replaceRingWrong : ChangeSpec := { name := "replaceRing", fn := fun _ => fun
  | [d1, d2] => { results := [.lit (.bool false)], args := [d1, d2] }
  | _ => none }
def ReplaceRingWrongFalsely : Prop := replaceRingRow.holds Try.pinned (OpenSpec.ofChange replaceRingWrong)

/-- 'samaralaw19.ReplacePlays': WHATEVER THE INPUT: true; the input reads as it did. -/
def replacePlaysSpec : ChangeSpec := { name := "replacePlays", fn := fun _ => fun
  | [d1, d2] => { results := [.lit (.bool true)], args := [d1, d2] }
  | _ => none }
def replacePlaysRow : OpenClaim := { program := "ytldccemgfjmcdaa", sum := "d8e872266ec9514ab322fd247cc3c0cddfade75eddf5fb15a86759e57b8d017f", func := "samara/samaralaw19.ReplacePlays", spec := "replacePlays", unfollowed := true, recurses := true, apart := false }
def ReplacePlaysSaid : Prop := replacePlaysRow.holds Try.pinned (OpenSpec.ofChange replacePlaysSpec)

/-- ITS FALSE NEIGHBOUR: 'it returns false'. Refute it at one input. -/
def replacePlaysWrong : ChangeSpec := { name := "replacePlays", fn := fun _ => fun
  | [d1, d2] => { results := [.lit (.bool false)], args := [d1, d2] }
  | _ => none }
def ReplacePlaysWrongFalsely : Prop := replacePlaysRow.holds Try.pinned (OpenSpec.ofChange replacePlaysWrong)

/-- 'samaralaw19.ReplaceNew': WHATEVER THE INPUT: true; the input reads as it did. -/
def replaceNewSpec : ChangeSpec := { name := "replaceNew", fn := fun _ => fun
  | [d] => { results := [.lit (.bool true)], args := [d] }
  | _ => none }
def replaceNewRow : OpenClaim := { program := "ytldccemgfjmcdaa", sum := "d8e872266ec9514ab322fd247cc3c0cddfade75eddf5fb15a86759e57b8d017f", func := "samara/samaralaw19.ReplaceNew", spec := "replaceNew", unfollowed := true, recurses := true, apart := false }
def ReplaceNewSaid : Prop := replaceNewRow.holds Try.pinned (OpenSpec.ofChange replaceNewSpec)

/-- ITS FALSE NEIGHBOUR: 'it returns false'. Refute it at one input. -/
def replaceNewWrong : ChangeSpec := { name := "replaceNew", fn := fun _ => fun
  | [d] => { results := [.lit (.bool false)], args := [d] }
  | _ => none }
def ReplaceNewWrongFalsely : Prop := replaceNewRow.holds Try.pinned (OpenSpec.ofChange replaceNewWrong)

/-- 'samaralaw19.ReplaceWrites': WHATEVER THE INPUT: true; the input reads as it did. -/
def replaceWritesSpec : ChangeSpec := { name := "replaceWrites", fn := fun _ => fun
  | [d1, d2] => { results := [.lit (.bool true)], args := [d1, d2] }
  | _ => none }
def replaceWritesRow : OpenClaim := { program := "ytldccemgfjmcdaa", sum := "d8e872266ec9514ab322fd247cc3c0cddfade75eddf5fb15a86759e57b8d017f", func := "samara/samaralaw19.ReplaceWrites", spec := "replaceWrites", unfollowed := true, recurses := true, apart := false }
def ReplaceWritesSaid : Prop := replaceWritesRow.holds Try.pinned (OpenSpec.ofChange replaceWritesSpec)

/-- ITS FALSE NEIGHBOUR: 'it returns false'. Refute it at one input. -/
def replaceWritesWrong : ChangeSpec := { name := "replaceWrites", fn := fun _ => fun
  | [d1, d2] => { results := [.lit (.bool false)], args := [d1, d2] }
  | _ => none }
def ReplaceWritesWrongFalsely : Prop := replaceWritesRow.holds Try.pinned (OpenSpec.ofChange replaceWritesWrong)

/- THE SECOND FORM. 'bulk': how many values and letters a reading holds, each counted each time it is reached (what is shared counts as often as it is met; a slice's spare places count too). A statement '..UptoSaid' is the law's where the arguments, and the package variables that the reading takes, are together of bulk at most 1048576: NARROWER than '..Said'. Prove '..Said' where nothing that the law and all that it calls make is longer than what came in: it says more and counts as full. Else prove '..UptoSaid'. A law counts once. -/
mutual
def uptoBulk {H : Type} : DataW H → Nat
  | .lit (.string bytes) => bytes.length + 1
  | .lit _ => 1
  | .nil => 1
  | .ptr d => uptoBulk d + 1
  | .slice elems spare => uptoBulkAll elems + uptoBulkAll spare + 1
  | .agg parts => uptoBulkAll parts + 1
  | .iface _ d => uptoBulk d + 1
  | .map entries => uptoBulkEntries entries + 1
  | .held _ => 1
def uptoBulkAll {H : Type} : List (DataW H) → Nat
  | [] => 0
  | d :: r => uptoBulk d + uptoBulkAll r
def uptoBulkEntries {H : Type} : List (Lit × DataW H) → Nat
  | [] => 0
  | x :: r => uptoBulkEntry x + uptoBulkEntries r
def uptoBulkEntry {H : Type} : Lit × DataW H → Nat
  | (.string bytes, d) => bytes.length + uptoBulk d + 1
  | (_, d) => uptoBulk d + 1
 end
def uptoSmall : (H : Type) → List (DataW H) → Bool := fun _ ds => decide (uptoBulkAll ds ≤ 1048576)
def OpenSpec.upto (s : _root_.Go.ChangeSpec) : _root_.Go.OpenSpec := { _root_.Go.OpenSpec.ofChange s with cond := some uptoSmall }

/-- 'samaralaw17.WalkFinds', WHERE WHAT IT READS IS OF BULK AT MOST 1048576: true; the input reads as it did. -/
def walkFindsUptoRow : OpenClaim := { program := "ytldccemgfjmcdaa", sum := "d8e872266ec9514ab322fd247cc3c0cddfade75eddf5fb15a86759e57b8d017f", func := "samara/samaralaw17.WalkFinds", spec := "walkFinds", unfollowed := true, recurses := true, apart := false, narrowed := true }
def WalkFindsUptoSaid : Prop := walkFindsUptoRow.holds Try.pinned (OpenSpec.upto walkFindsSpec)

/-- 'samaralaw17.WalkGoes', WHERE WHAT IT READS IS OF BULK AT MOST 1048576: true; the input reads as it did. -/
def walkGoesUptoRow : OpenClaim := { program := "ytldccemgfjmcdaa", sum := "d8e872266ec9514ab322fd247cc3c0cddfade75eddf5fb15a86759e57b8d017f", func := "samara/samaralaw17.WalkGoes", spec := "walkGoes", unfollowed := true, recurses := true, apart := false, narrowed := true }
def WalkGoesUptoSaid : Prop := walkGoesUptoRow.holds Try.pinned (OpenSpec.upto walkGoesSpec)

/-- 'samaralaw17.WalkAgrees', WHERE WHAT IT READS IS OF BULK AT MOST 1048576: true; the input reads as it did. -/
def walkAgreesUptoRow : OpenClaim := { program := "ytldccemgfjmcdaa", sum := "d8e872266ec9514ab322fd247cc3c0cddfade75eddf5fb15a86759e57b8d017f", func := "samara/samaralaw17.WalkAgrees", spec := "walkAgrees", unfollowed := true, recurses := true, apart := false, narrowed := true }
def WalkAgreesUptoSaid : Prop := walkAgreesUptoRow.holds Try.pinned (OpenSpec.upto walkAgreesSpec)

/-- 'samaralaw17.WalkRound', WHERE WHAT IT READS IS OF BULK AT MOST 1048576: true; the input reads as it did. -/
def walkRoundUptoRow : OpenClaim := { program := "ytldccemgfjmcdaa", sum := "d8e872266ec9514ab322fd247cc3c0cddfade75eddf5fb15a86759e57b8d017f", func := "samara/samaralaw17.WalkRound", spec := "walkRound", unfollowed := true, recurses := true, apart := false, narrowed := true }
def WalkRoundUptoSaid : Prop := walkRoundUptoRow.holds Try.pinned (OpenSpec.upto walkRoundSpec)

/-- 'samaralaw16.SeekThings', WHERE WHAT IT READS IS OF BULK AT MOST 1048576: true; the input reads as it did. -/
def seekThingsUptoRow : OpenClaim := { program := "ytldccemgfjmcdaa", sum := "d8e872266ec9514ab322fd247cc3c0cddfade75eddf5fb15a86759e57b8d017f", func := "samara/samaralaw16.SeekThings", spec := "seekThings", unfollowed := true, recurses := true, apart := false, narrowed := true }
def SeekThingsUptoSaid : Prop := seekThingsUptoRow.holds Try.pinned (OpenSpec.upto seekThingsSpec)

/-- 'samaralaw16.SeekNode', WHERE WHAT IT READS IS OF BULK AT MOST 1048576: true; the input reads as it did. -/
def seekNodeUptoRow : OpenClaim := { program := "ytldccemgfjmcdaa", sum := "d8e872266ec9514ab322fd247cc3c0cddfade75eddf5fb15a86759e57b8d017f", func := "samara/samaralaw16.SeekNode", spec := "seekNode", unfollowed := true, recurses := true, apart := false, narrowed := true }
def SeekNodeUptoSaid : Prop := seekNodeUptoRow.holds Try.pinned (OpenSpec.upto seekNodeSpec)

/-- 'samaralaw16.SeekStale', WHERE WHAT IT READS IS OF BULK AT MOST 1048576: true; the input reads as it did. -/
def seekStaleUptoRow : OpenClaim := { program := "ytldccemgfjmcdaa", sum := "d8e872266ec9514ab322fd247cc3c0cddfade75eddf5fb15a86759e57b8d017f", func := "samara/samaralaw16.SeekStale", spec := "seekStale", unfollowed := true, recurses := true, apart := false, narrowed := true }
def SeekStaleUptoSaid : Prop := seekStaleUptoRow.holds Try.pinned (OpenSpec.upto seekStaleSpec)

/-- 'samaralaw16.SeekLooks', WHERE WHAT IT READS IS OF BULK AT MOST 1048576: true; the input reads as it did. -/
def seekLooksUptoRow : OpenClaim := { program := "ytldccemgfjmcdaa", sum := "d8e872266ec9514ab322fd247cc3c0cddfade75eddf5fb15a86759e57b8d017f", func := "samara/samaralaw16.SeekLooks", spec := "seekLooks", unfollowed := true, recurses := true, apart := false, narrowed := true }
def SeekLooksUptoSaid : Prop := seekLooksUptoRow.holds Try.pinned (OpenSpec.upto seekLooksSpec)

/-- 'samaralaw19.ReplaceRing', WHERE WHAT IT READS IS OF BULK AT MOST 1048576: true; the input reads as it did. -/
def replaceRingUptoRow : OpenClaim := { program := "ytldccemgfjmcdaa", sum := "d8e872266ec9514ab322fd247cc3c0cddfade75eddf5fb15a86759e57b8d017f", func := "samara/samaralaw19.ReplaceRing", spec := "replaceRing", unfollowed := true, recurses := true, apart := false, narrowed := true }
def ReplaceRingUptoSaid : Prop := replaceRingUptoRow.holds Try.pinned (OpenSpec.upto replaceRingSpec)

/-- 'samaralaw19.ReplacePlays', WHERE WHAT IT READS IS OF BULK AT MOST 1048576: true; the input reads as it did. -/
def replacePlaysUptoRow : OpenClaim := { program := "ytldccemgfjmcdaa", sum := "d8e872266ec9514ab322fd247cc3c0cddfade75eddf5fb15a86759e57b8d017f", func := "samara/samaralaw19.ReplacePlays", spec := "replacePlays", unfollowed := true, recurses := true, apart := false, narrowed := true }
def ReplacePlaysUptoSaid : Prop := replacePlaysUptoRow.holds Try.pinned (OpenSpec.upto replacePlaysSpec)

/-- 'samaralaw19.ReplaceNew', WHERE WHAT IT READS IS OF BULK AT MOST 1048576: true; the input reads as it did. -/
def replaceNewUptoRow : OpenClaim := { program := "ytldccemgfjmcdaa", sum := "d8e872266ec9514ab322fd247cc3c0cddfade75eddf5fb15a86759e57b8d017f", func := "samara/samaralaw19.ReplaceNew", spec := "replaceNew", unfollowed := true, recurses := true, apart := false, narrowed := true }
def ReplaceNewUptoSaid : Prop := replaceNewUptoRow.holds Try.pinned (OpenSpec.upto replaceNewSpec)

/-- 'samaralaw19.ReplaceWrites', WHERE WHAT IT READS IS OF BULK AT MOST 1048576: true; the input reads as it did. -/
def replaceWritesUptoRow : OpenClaim := { program := "ytldccemgfjmcdaa", sum := "d8e872266ec9514ab322fd247cc3c0cddfade75eddf5fb15a86759e57b8d017f", func := "samara/samaralaw19.ReplaceWrites", spec := "replaceWrites", unfollowed := true, recurses := true, apart := false, narrowed := true }
def ReplaceWritesUptoSaid : Prop := replaceWritesUptoRow.holds Try.pinned (OpenSpec.upto replaceWritesSpec)

end Rows
end Go.Proofs.Ytldccemgfjmcdaa
