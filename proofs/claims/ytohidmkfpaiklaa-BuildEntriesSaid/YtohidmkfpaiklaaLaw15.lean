/- Layer 15's laws: what all of them ask first (awake, few), each called alone. -/
import Derived.Test.YtohidmkfpaiklaaUnpack
import Derived.Test.YtohidmkfpaiklaaRef15
namespace Go.Proofs.Ytohidmkfpaiklaa
open Go.RowKit
set_option linter.unusedSimpArgs false
set_option linter.unusedVariables false

def NodeV.fewB (n : NodeV) : Bool := decide (n.ends.length ≤ 20) && decide (n.slots.length ≤ 20) && decide (n.gaps.length ≤ 20)
def wakeNode : NodeV := ⟨false, 65536, [2097152], [0], [2031616]⟩
theorem wake_formed : wakeNode.formedB = true := by decide
theorem wake_pack : wakeNode.pack.length = 28 ∧ wakeNode.pack[0]? = some 17 ∧ wakeNode.pack[18]? = some 2031616 := by decide
theorem ints_one {w : World} {b : Nat} {ty : TypeId} {x : Int} (h : Blk w b ty #[.int .i64 x]) (hx : (Lit.int .i64 x).wf = true) : Ints w (some ⟨b, 0, none⟩) 1 1 [x] :=
  ⟨rfl, Nat.le_refl _, by unfold maxLen; omega, by simpa using hx, .inr ⟨b, 0, rfl, h.lt, fun j u hu => by
    match j with
    | 0 =>
      simp at hu
      subst hu
      exact h.at_ (i := 0) rfl
    | j + 1 => simp at hu⟩⟩
end Go.Proofs.Ytohidmkfpaiklaa
