/-
  No cell of these rows narrows 'for every input' (looked for: loops, veiled, ifaces, maps, wideKeys, modest, calm, conditions, laid).
  DERIVED. THE GIVEN ROWS OF THIS SEAT. 12 by the template 'for every input the law returns true; each argument reads behind the call as it read before'; 0 by the template 'total and deterministic' (their statements: YtcphidmfdakbeaaTotals.lean).
  GIVEN WITH THE SEED: the statements are not yours to turn. If you find one false, say at which input.
  Laid BY PROGRAM, IN A SANDBOX (cutbox-rows.mjs): the forced cells as the released guide's own fill.sh prints them over the translation fc10238eb2b74945… (all of the seat's roots in one cut). By AI agents, Wed Nov 11 2026. No macro, syntax, notation, axiom, sorry.
-/
import Derived.Test.YtcphidmfdakbeaaChecked
import GoSem.Claim
import GoSem.ClaimJoined
import GoSem.ClaimMapViews
import Derived.JoinedTies
import Derived.KernelRfl
namespace Go.Proofs.Ytcphidmfdakbeaa
/- THE CELL 'sum', in the pinned program and in every row, IS THE sha256 OF THE DUMP (.gsa) THAT YtcphidmfdakbeaaProg.lean LOADS. Nothing in Lean hashes anything: it is a label: what it is worth is what the hold of that sum in a sandbox is worth. -/
noncomputable def Try.pinned : Pinned := { name := "ytcphidmfdakbeaa", sum := "fc10238eb2b749459c10b501fcf306b9507d25e71a8884f38eee12a036120c02", checked := Try.checked }
namespace Rows
def none {H : Type} : Left H := { results := [], args := [] }

/-- 'samaralaw03.TrailAlone': WHATEVER THE INPUT: true; the input reads as it did. -/
def trailAloneSpec : ChangeSpec := { name := "trailAlone", fn := fun _ => fun
  | [d] => { results := [.lit (.bool true)], args := [d] }
  | _ => none }
def trailAloneRow : OpenClaim := { program := "ytcphidmfdakbeaa", sum := "fc10238eb2b749459c10b501fcf306b9507d25e71a8884f38eee12a036120c02", func := "samara/samaralaw03.TrailAlone", spec := "trailAlone", unfollowed := true, recurses := true, apart := false }
def TrailAloneSaid : Prop := trailAloneRow.holds Try.pinned (OpenSpec.ofChange trailAloneSpec)

/-- ITS FALSE NEIGHBOUR: 'it returns false'. Refute it at one input. -/
def trailAloneWrong : ChangeSpec := { name := "trailAlone", fn := fun _ => fun
  | [d] => { results := [.lit (.bool false)], args := [d] }
  | _ => none }
def TrailAloneWrongFalsely : Prop := trailAloneRow.holds Try.pinned (OpenSpec.ofChange trailAloneWrong)

/-- 'samaralaw03.TrailWaits': WHATEVER THE INPUT: true; the input reads as it did. -/
def trailWaitsSpec : ChangeSpec := { name := "trailWaits", fn := fun _ => fun
  | [d1, d2] => { results := [.lit (.bool true)], args := [d1, d2] }
  | _ => none }
def trailWaitsRow : OpenClaim := { program := "ytcphidmfdakbeaa", sum := "fc10238eb2b749459c10b501fcf306b9507d25e71a8884f38eee12a036120c02", func := "samara/samaralaw03.TrailWaits", spec := "trailWaits", unfollowed := true, recurses := true, apart := false }
def TrailWaitsSaid : Prop := trailWaitsRow.holds Try.pinned (OpenSpec.ofChange trailWaitsSpec)

/-- ITS FALSE NEIGHBOUR: 'it returns false'. Refute it at one input. -/
def trailWaitsWrong : ChangeSpec := { name := "trailWaits", fn := fun _ => fun
  | [d1, d2] => { results := [.lit (.bool false)], args := [d1, d2] }
  | _ => none }
def TrailWaitsWrongFalsely : Prop := trailWaitsRow.holds Try.pinned (OpenSpec.ofChange trailWaitsWrong)

/-- 'samaralaw03.TrailFresh': WHATEVER THE INPUT: true; the input reads as it did. -/
def trailFreshSpec : ChangeSpec := { name := "trailFresh", fn := fun _ => fun
  | [d] => { results := [.lit (.bool true)], args := [d] }
  | _ => none }
def trailFreshRow : OpenClaim := { program := "ytcphidmfdakbeaa", sum := "fc10238eb2b749459c10b501fcf306b9507d25e71a8884f38eee12a036120c02", func := "samara/samaralaw03.TrailFresh", spec := "trailFresh", unfollowed := true, recurses := true, apart := false }
def TrailFreshSaid : Prop := trailFreshRow.holds Try.pinned (OpenSpec.ofChange trailFreshSpec)

/-- ITS FALSE NEIGHBOUR: 'it returns false'. Refute it at one input. -/
def trailFreshWrong : ChangeSpec := { name := "trailFresh", fn := fun _ => fun
  | [d] => { results := [.lit (.bool false)], args := [d] }
  | _ => none }
def TrailFreshWrongFalsely : Prop := trailFreshRow.holds Try.pinned (OpenSpec.ofChange trailFreshWrong)

/-- 'samaralaw03.TrailTurns': WHATEVER THE INPUT: true; the input reads as it did. -/
def trailTurnsSpec : ChangeSpec := { name := "trailTurns", fn := fun _ => fun
  | [d1, d2, d3] => { results := [.lit (.bool true)], args := [d1, d2, d3] }
  | _ => none }
def trailTurnsRow : OpenClaim := { program := "ytcphidmfdakbeaa", sum := "fc10238eb2b749459c10b501fcf306b9507d25e71a8884f38eee12a036120c02", func := "samara/samaralaw03.TrailTurns", spec := "trailTurns", unfollowed := true, recurses := true, apart := false }
def TrailTurnsSaid : Prop := trailTurnsRow.holds Try.pinned (OpenSpec.ofChange trailTurnsSpec)

/-- ITS FALSE NEIGHBOUR: 'it returns false'. Refute it at one input. -/
def trailTurnsWrong : ChangeSpec := { name := "trailTurns", fn := fun _ => fun
  | [d1, d2, d3] => { results := [.lit (.bool false)], args := [d1, d2, d3] }
  | _ => none }
def TrailTurnsWrongFalsely : Prop := trailTurnsRow.holds Try.pinned (OpenSpec.ofChange trailTurnsWrong)

/-- 'samaralaw04.RcuFrees': WHATEVER THE INPUT: true; the input reads as it did. -/
def rcuFreesSpec : ChangeSpec := { name := "rcuFrees", fn := fun _ => fun
  | [d1, d2] => { results := [.lit (.bool true)], args := [d1, d2] }
  | _ => none }
def rcuFreesRow : OpenClaim := { program := "ytcphidmfdakbeaa", sum := "fc10238eb2b749459c10b501fcf306b9507d25e71a8884f38eee12a036120c02", func := "samara/samaralaw04.RcuFrees", spec := "rcuFrees", unfollowed := true, recurses := true, apart := false }
def RcuFreesSaid : Prop := rcuFreesRow.holds Try.pinned (OpenSpec.ofChange rcuFreesSpec)

/-- ITS FALSE NEIGHBOUR: 'it returns false'. Refute it at one input. -/
def rcuFreesWrong : ChangeSpec := { name := "rcuFrees", fn := fun _ => fun
  | [d1, d2] => { results := [.lit (.bool false)], args := [d1, d2] }
  | _ => none }
def RcuFreesWrongFalsely : Prop := rcuFreesRow.holds Try.pinned (OpenSpec.ofChange rcuFreesWrong)

/-- 'samaralaw04.RcuNobody': WHATEVER THE INPUT: true; the input reads as it did. -/
def rcuNobodySpec : ChangeSpec := { name := "rcuNobody", fn := fun _ => fun
  | [d] => { results := [.lit (.bool true)], args := [d] }
  | _ => none }
def rcuNobodyRow : OpenClaim := { program := "ytcphidmfdakbeaa", sum := "fc10238eb2b749459c10b501fcf306b9507d25e71a8884f38eee12a036120c02", func := "samara/samaralaw04.RcuNobody", spec := "rcuNobody", unfollowed := true, recurses := true, apart := false }
def RcuNobodySaid : Prop := rcuNobodyRow.holds Try.pinned (OpenSpec.ofChange rcuNobodySpec)

/-- ITS FALSE NEIGHBOUR: 'it returns false'. Refute it at one input. -/
def rcuNobodyWrong : ChangeSpec := { name := "rcuNobody", fn := fun _ => fun
  | [d] => { results := [.lit (.bool false)], args := [d] }
  | _ => none }
def RcuNobodyWrongFalsely : Prop := rcuNobodyRow.holds Try.pinned (OpenSpec.ofChange rcuNobodyWrong)

/-- 'samaralaw04.RcuTurns': WHATEVER THE INPUT: true; the input reads as it did. -/
def rcuTurnsSpec : ChangeSpec := { name := "rcuTurns", fn := fun _ => fun
  | [d1, d2] => { results := [.lit (.bool true)], args := [d1, d2] }
  | _ => none }
def rcuTurnsRow : OpenClaim := { program := "ytcphidmfdakbeaa", sum := "fc10238eb2b749459c10b501fcf306b9507d25e71a8884f38eee12a036120c02", func := "samara/samaralaw04.RcuTurns", spec := "rcuTurns", unfollowed := true, recurses := true, apart := false }
def RcuTurnsSaid : Prop := rcuTurnsRow.holds Try.pinned (OpenSpec.ofChange rcuTurnsSpec)

/-- ITS FALSE NEIGHBOUR: 'it returns false'. Refute it at one input. -/
def rcuTurnsWrong : ChangeSpec := { name := "rcuTurns", fn := fun _ => fun
  | [d1, d2] => { results := [.lit (.bool false)], args := [d1, d2] }
  | _ => none }
def RcuTurnsWrongFalsely : Prop := rcuTurnsRow.holds Try.pinned (OpenSpec.ofChange rcuTurnsWrong)

/-- 'samaralaw04.RcuHolds': WHATEVER THE INPUT: true; the input reads as it did. -/
def rcuHoldsSpec : ChangeSpec := { name := "rcuHolds", fn := fun _ => fun
  | [d1, d2, d3] => { results := [.lit (.bool true)], args := [d1, d2, d3] }
  | _ => none }
def rcuHoldsRow : OpenClaim := { program := "ytcphidmfdakbeaa", sum := "fc10238eb2b749459c10b501fcf306b9507d25e71a8884f38eee12a036120c02", func := "samara/samaralaw04.RcuHolds", spec := "rcuHolds", unfollowed := true, recurses := true, apart := false }
def RcuHoldsSaid : Prop := rcuHoldsRow.holds Try.pinned (OpenSpec.ofChange rcuHoldsSpec)

/-- ITS FALSE NEIGHBOUR: 'it returns false'. Refute it at one input. -/
def rcuHoldsWrong : ChangeSpec := { name := "rcuHolds", fn := fun _ => fun
  | [d1, d2, d3] => { results := [.lit (.bool false)], args := [d1, d2, d3] }
  | _ => none }
def RcuHoldsWrongFalsely : Prop := rcuHoldsRow.holds Try.pinned (OpenSpec.ofChange rcuHoldsWrong)

/-- 'samaralaw05.LatchFair': WHATEVER THE INPUT: true; the input reads as it did. -/
def latchFairSpec : ChangeSpec := { name := "latchFair", fn := fun _ => fun
  | [d1, d2] => { results := [.lit (.bool true)], args := [d1, d2] }
  | _ => none }
def latchFairRow : OpenClaim := { program := "ytcphidmfdakbeaa", sum := "fc10238eb2b749459c10b501fcf306b9507d25e71a8884f38eee12a036120c02", func := "samara/samaralaw05.LatchFair", spec := "latchFair", unfollowed := true, recurses := true, apart := false }
def LatchFairSaid : Prop := latchFairRow.holds Try.pinned (OpenSpec.ofChange latchFairSpec)

/-- ITS FALSE NEIGHBOUR: 'it returns false'. Refute it at one input. -/
def latchFairWrong : ChangeSpec := { name := "latchFair", fn := fun _ => fun
  | [d1, d2] => { results := [.lit (.bool false)], args := [d1, d2] }
  | _ => none }
def LatchFairWrongFalsely : Prop := latchFairRow.holds Try.pinned (OpenSpec.ofChange latchFairWrong)

/-- 'samaralaw05.LatchIdle': WHATEVER THE INPUT: true; the input reads as it did. -/
def latchIdleSpec : ChangeSpec := { name := "latchIdle", fn := fun _ => fun
  | [d1, d2] => { results := [.lit (.bool true)], args := [d1, d2] }
  | _ => none }
def latchIdleRow : OpenClaim := { program := "ytcphidmfdakbeaa", sum := "fc10238eb2b749459c10b501fcf306b9507d25e71a8884f38eee12a036120c02", func := "samara/samaralaw05.LatchIdle", spec := "latchIdle", unfollowed := true, recurses := true, apart := false }
def LatchIdleSaid : Prop := latchIdleRow.holds Try.pinned (OpenSpec.ofChange latchIdleSpec)

/-- ITS FALSE NEIGHBOUR: 'it returns false'. Refute it at one input. -/
def latchIdleWrong : ChangeSpec := { name := "latchIdle", fn := fun _ => fun
  | [d1, d2] => { results := [.lit (.bool false)], args := [d1, d2] }
  | _ => none }
def LatchIdleWrongFalsely : Prop := latchIdleRow.holds Try.pinned (OpenSpec.ofChange latchIdleWrong)

/-- 'samaralaw05.LatchTurns': WHATEVER THE INPUT: true; the input reads as it did. -/
def latchTurnsSpec : ChangeSpec := { name := "latchTurns", fn := fun _ => fun
  | [d1, d2] => { results := [.lit (.bool true)], args := [d1, d2] }
  | _ => none }
def latchTurnsRow : OpenClaim := { program := "ytcphidmfdakbeaa", sum := "fc10238eb2b749459c10b501fcf306b9507d25e71a8884f38eee12a036120c02", func := "samara/samaralaw05.LatchTurns", spec := "latchTurns", unfollowed := true, recurses := true, apart := false }
def LatchTurnsSaid : Prop := latchTurnsRow.holds Try.pinned (OpenSpec.ofChange latchTurnsSpec)

/-- ITS FALSE NEIGHBOUR: 'it returns false'. Refute it at one input. -/
def latchTurnsWrong : ChangeSpec := { name := "latchTurns", fn := fun _ => fun
  | [d1, d2] => { results := [.lit (.bool false)], args := [d1, d2] }
  | _ => none }
def LatchTurnsWrongFalsely : Prop := latchTurnsRow.holds Try.pinned (OpenSpec.ofChange latchTurnsWrong)

/-- 'samaralaw05.LatchWaits': WHATEVER THE INPUT: true; the input reads as it did. -/
def latchWaitsSpec : ChangeSpec := { name := "latchWaits", fn := fun _ => fun
  | [d1, d2, d3] => { results := [.lit (.bool true)], args := [d1, d2, d3] }
  | _ => none }
def latchWaitsRow : OpenClaim := { program := "ytcphidmfdakbeaa", sum := "fc10238eb2b749459c10b501fcf306b9507d25e71a8884f38eee12a036120c02", func := "samara/samaralaw05.LatchWaits", spec := "latchWaits", unfollowed := true, recurses := true, apart := false }
def LatchWaitsSaid : Prop := latchWaitsRow.holds Try.pinned (OpenSpec.ofChange latchWaitsSpec)

/-- ITS FALSE NEIGHBOUR: 'it returns false'. Refute it at one input. -/
def latchWaitsWrong : ChangeSpec := { name := "latchWaits", fn := fun _ => fun
  | [d1, d2, d3] => { results := [.lit (.bool false)], args := [d1, d2, d3] }
  | _ => none }
def LatchWaitsWrongFalsely : Prop := latchWaitsRow.holds Try.pinned (OpenSpec.ofChange latchWaitsWrong)

/- THE SECOND FORM. 'bulk': how many values and letters a reading holds, each counted each time it is reached (what is shared counts as often as it is met; a slice's spare places count too). A statement '..UptoSaid' is the law's where the arguments, and the package variables that the reading takes, are together of bulk at most 1048576: NARROWER than '..Said'. Prove '..Said' where nothing that the law and all that it calls make is longer than what came in: it says more and counts as full. Else prove '..UptoSaid'. A law counts once. -/
mutual
def uptoBulk {H : Type} : DataW H → Nat
  | .lit (.string bytes) => bytes.length + 1
  | .lit _ => 1
  | .nil => 1
  | .ptr d => uptoBulk d + 1
  | .slice elems spare => uptoBulkAll elems + uptoBulkAll spare + 1
  | .agg parts => uptoBulkAll parts + 1
  | .iface _ d => uptoBulk d + 1
  | .map entries => uptoBulkEntries entries + 1
  | .held _ => 1
def uptoBulkAll {H : Type} : List (DataW H) → Nat
  | [] => 0
  | d :: r => uptoBulk d + uptoBulkAll r
def uptoBulkEntries {H : Type} : List (Lit × DataW H) → Nat
  | [] => 0
  | x :: r => uptoBulkEntry x + uptoBulkEntries r
def uptoBulkEntry {H : Type} : Lit × DataW H → Nat
  | (.string bytes, d) => bytes.length + uptoBulk d + 1
  | (_, d) => uptoBulk d + 1
 end
def uptoSmall : (H : Type) → List (DataW H) → Bool := fun _ ds => decide (uptoBulkAll ds ≤ 1048576)
def OpenSpec.upto (s : _root_.Go.ChangeSpec) : _root_.Go.OpenSpec := { _root_.Go.OpenSpec.ofChange s with cond := some uptoSmall }

/-- 'samaralaw03.TrailAlone', WHERE WHAT IT READS IS OF BULK AT MOST 1048576: true; the input reads as it did. -/
def trailAloneUptoRow : OpenClaim := { program := "ytcphidmfdakbeaa", sum := "fc10238eb2b749459c10b501fcf306b9507d25e71a8884f38eee12a036120c02", func := "samara/samaralaw03.TrailAlone", spec := "trailAlone", unfollowed := true, recurses := true, apart := false, narrowed := true }
def TrailAloneUptoSaid : Prop := trailAloneUptoRow.holds Try.pinned (OpenSpec.upto trailAloneSpec)

/-- 'samaralaw03.TrailWaits', WHERE WHAT IT READS IS OF BULK AT MOST 1048576: true; the input reads as it did. -/
def trailWaitsUptoRow : OpenClaim := { program := "ytcphidmfdakbeaa", sum := "fc10238eb2b749459c10b501fcf306b9507d25e71a8884f38eee12a036120c02", func := "samara/samaralaw03.TrailWaits", spec := "trailWaits", unfollowed := true, recurses := true, apart := false, narrowed := true }
def TrailWaitsUptoSaid : Prop := trailWaitsUptoRow.holds Try.pinned (OpenSpec.upto trailWaitsSpec)

/-- 'samaralaw03.TrailFresh', WHERE WHAT IT READS IS OF BULK AT MOST 1048576: true; the input reads as it did. -/
def trailFreshUptoRow : OpenClaim := { program := "ytcphidmfdakbeaa", sum := "fc10238eb2b749459c10b501fcf306b9507d25e71a8884f38eee12a036120c02", func := "samara/samaralaw03.TrailFresh", spec := "trailFresh", unfollowed := true, recurses := true, apart := false, narrowed := true }
def TrailFreshUptoSaid : Prop := trailFreshUptoRow.holds Try.pinned (OpenSpec.upto trailFreshSpec)

/-- 'samaralaw03.TrailTurns', WHERE WHAT IT READS IS OF BULK AT MOST 1048576: true; the input reads as it did. -/
def trailTurnsUptoRow : OpenClaim := { program := "ytcphidmfdakbeaa", sum := "fc10238eb2b749459c10b501fcf306b9507d25e71a8884f38eee12a036120c02", func := "samara/samaralaw03.TrailTurns", spec := "trailTurns", unfollowed := true, recurses := true, apart := false, narrowed := true }
def TrailTurnsUptoSaid : Prop := trailTurnsUptoRow.holds Try.pinned (OpenSpec.upto trailTurnsSpec)

/-- 'samaralaw04.RcuFrees', WHERE WHAT IT READS IS OF BULK AT MOST 1048576: true; the input reads as it did. -/
def rcuFreesUptoRow : OpenClaim := { program := "ytcphidmfdakbeaa", sum := "fc10238eb2b749459c10b501fcf306b9507d25e71a8884f38eee12a036120c02", func := "samara/samaralaw04.RcuFrees", spec := "rcuFrees", unfollowed := true, recurses := true, apart := false, narrowed := true }
def RcuFreesUptoSaid : Prop := rcuFreesUptoRow.holds Try.pinned (OpenSpec.upto rcuFreesSpec)

/-- 'samaralaw04.RcuNobody', WHERE WHAT IT READS IS OF BULK AT MOST 1048576: true; the input reads as it did. -/
def rcuNobodyUptoRow : OpenClaim := { program := "ytcphidmfdakbeaa", sum := "fc10238eb2b749459c10b501fcf306b9507d25e71a8884f38eee12a036120c02", func := "samara/samaralaw04.RcuNobody", spec := "rcuNobody", unfollowed := true, recurses := true, apart := false, narrowed := true }
def RcuNobodyUptoSaid : Prop := rcuNobodyUptoRow.holds Try.pinned (OpenSpec.upto rcuNobodySpec)

/-- 'samaralaw04.RcuTurns', WHERE WHAT IT READS IS OF BULK AT MOST 1048576: true; the input reads as it did. -/
def rcuTurnsUptoRow : OpenClaim := { program := "ytcphidmfdakbeaa", sum := "fc10238eb2b749459c10b501fcf306b9507d25e71a8884f38eee12a036120c02", func := "samara/samaralaw04.RcuTurns", spec := "rcuTurns", unfollowed := true, recurses := true, apart := false, narrowed := true }
def RcuTurnsUptoSaid : Prop := rcuTurnsUptoRow.holds Try.pinned (OpenSpec.upto rcuTurnsSpec)

/-- 'samaralaw04.RcuHolds', WHERE WHAT IT READS IS OF BULK AT MOST 1048576: true; the input reads as it did. -/
def rcuHoldsUptoRow : OpenClaim := { program := "ytcphidmfdakbeaa", sum := "fc10238eb2b749459c10b501fcf306b9507d25e71a8884f38eee12a036120c02", func := "samara/samaralaw04.RcuHolds", spec := "rcuHolds", unfollowed := true, recurses := true, apart := false, narrowed := true }
def RcuHoldsUptoSaid : Prop := rcuHoldsUptoRow.holds Try.pinned (OpenSpec.upto rcuHoldsSpec)

/-- 'samaralaw05.LatchFair', WHERE WHAT IT READS IS OF BULK AT MOST 1048576: true; the input reads as it did. -/
def latchFairUptoRow : OpenClaim := { program := "ytcphidmfdakbeaa", sum := "fc10238eb2b749459c10b501fcf306b9507d25e71a8884f38eee12a036120c02", func := "samara/samaralaw05.LatchFair", spec := "latchFair", unfollowed := true, recurses := true, apart := false, narrowed := true }
def LatchFairUptoSaid : Prop := latchFairUptoRow.holds Try.pinned (OpenSpec.upto latchFairSpec)

/-- 'samaralaw05.LatchIdle', WHERE WHAT IT READS IS OF BULK AT MOST 1048576: true; the input reads as it did. -/
def latchIdleUptoRow : OpenClaim := { program := "ytcphidmfdakbeaa", sum := "fc10238eb2b749459c10b501fcf306b9507d25e71a8884f38eee12a036120c02", func := "samara/samaralaw05.LatchIdle", spec := "latchIdle", unfollowed := true, recurses := true, apart := false, narrowed := true }
def LatchIdleUptoSaid : Prop := latchIdleUptoRow.holds Try.pinned (OpenSpec.upto latchIdleSpec)

/-- 'samaralaw05.LatchTurns', WHERE WHAT IT READS IS OF BULK AT MOST 1048576: true; the input reads as it did. -/
def latchTurnsUptoRow : OpenClaim := { program := "ytcphidmfdakbeaa", sum := "fc10238eb2b749459c10b501fcf306b9507d25e71a8884f38eee12a036120c02", func := "samara/samaralaw05.LatchTurns", spec := "latchTurns", unfollowed := true, recurses := true, apart := false, narrowed := true }
def LatchTurnsUptoSaid : Prop := latchTurnsUptoRow.holds Try.pinned (OpenSpec.upto latchTurnsSpec)

/-- 'samaralaw05.LatchWaits', WHERE WHAT IT READS IS OF BULK AT MOST 1048576: true; the input reads as it did. -/
def latchWaitsUptoRow : OpenClaim := { program := "ytcphidmfdakbeaa", sum := "fc10238eb2b749459c10b501fcf306b9507d25e71a8884f38eee12a036120c02", func := "samara/samaralaw05.LatchWaits", spec := "latchWaits", unfollowed := true, recurses := true, apart := false, narrowed := true }
def LatchWaitsUptoSaid : Prop := latchWaitsUptoRow.holds Try.pinned (OpenSpec.upto latchWaitsSpec)

end Rows
end Go.Proofs.Ytcphidmfdakbeaa
