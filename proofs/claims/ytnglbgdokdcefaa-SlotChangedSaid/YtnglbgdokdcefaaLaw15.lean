/- Layer 15's laws: what all of them ask first (awake, few), each called alone. -/
import Derived.Test.YtnglbgdokdcefaaUnpack
import Derived.Test.YtnglbgdokdcefaaRef15
namespace Go.Proofs.Ytnglbgdokdcefaa
open Go.RowKit
set_option linter.unusedSimpArgs false
set_option linter.unusedVariables false

def NodeV.fewB (n : NodeV) : Bool := decide (n.ends.length ≤ 20) && decide (n.slots.length ≤ 20) && decide (n.gaps.length ≤ 20)
set_option maxRecDepth 100000 in
theorem few15 (n : NodeV) (a1 a2 a3 : Option Addr) (c1 c2 c3 : Nat) (w : World) (h : NodeR w n a1 a2 a3 c1 c2 c3) :
    Calls Try.prog 34 #[.agg (nodeCells n.inner n.lo a1 a2 a3 n.ends.length n.slots.length n.gaps.length c1 c2 c3)] w fun e w' =>
      e = .returned (.bool n.fewB) ∧ Below w.heap.size w w' := by
  have hb : ∀ o : Obj, Below w.heap.size w (w.alloc o) := fun o => (Below.refl _ _).alloc (Nat.le_refl _) _
  have m1 := h.e.hm
  have l1 := h.e.le
  have m2 := h.s.hm
  have l2 := h.s.le
  have m3 := h.g.hm
  have l3 := h.g.le
  unfold maxLen at m1 m2 m3
  unfold nodeCells NodeV.fewB
  obtain ⟨inner, lo, ends, slots, gaps⟩ := n
  simp only at m1 l1 m2 l2 m3 l3 ⊢
  clear h
  generalize ends.length = k1 at *
  generalize slots.length = k2 at *
  generalize gaps.length = k3 at *
  go_enter Try.func34, Try.ntmps34
  go_wp2
  all_goals go_ret
  all_goals refine ⟨ret_bool ?_, hb _⟩
  all_goals first | (simp_all; done) | (rw [Bool.eq_iff_iff]; simp; omega)
/-- The node that awake packs. -/
def wakeNode : NodeV := ⟨false, 65536, [2097152], [0], [2031616]⟩
theorem wake_formed : wakeNode.formedB = true := by decide
theorem wake_pack : wakeNode.pack.length = 28 ∧ wakeNode.pack[0]? = some 17 ∧ wakeNode.pack[18]? = some 2031616 := by decide
theorem ints_one {w : World} {b : Nat} {ty : TypeId} {x : Int} (h : Blk w b ty #[.int .i64 x]) (hx : (Lit.int .i64 x).wf = true) : Ints w (some ⟨b, 0, none⟩) 1 1 [x] :=
  ⟨rfl, Nat.le_refl _, by unfold maxLen; omega, by simpa using hx, .inr ⟨b, 0, rfl, h.lt, fun j u hu => by
    match j with
    | 0 =>
      simp at hu
      subst hu
      exact h.at_ (i := 0) rfl
    | j + 1 => simp at hu⟩⟩
set_option maxRecDepth 100000 in
theorem awake15 (w : World) : Calls Try.prog 33 #[] w fun e w' => e = .returned (.bool true) ∧ Below w.heap.size w w' := by
  have h1 := Blk.new w 2 #[.int .i64 2097152]
  have h1 := (h1.alloc (.cells #[.int .i64 0] 2)).alloc (.cells #[.int .i64 2031616] 2)
  have h2 := (Blk.new (w.alloc (.cells #[.int .i64 2097152] 2)) 2 #[.int .i64 0]).alloc (.cells #[.int .i64 2031616] 2)
  have h3 := Blk.new ((w.alloc (.cells #[.int .i64 2097152] 2)).alloc (.cells #[.int .i64 0] 2)) 2 #[.int .i64 2031616]
  have hb : Below w.heap.size w (((w.alloc (.cells #[.int .i64 2097152] 2)).alloc (.cells #[.int .i64 0] 2)).alloc (.cells #[.int .i64 2031616] 2)) := (((Below.refl _ _).alloc (Nat.le_refl _) _).alloc (by simp) _).alloc (by simp; omega) _
  have HB := Lib.hid hb
  simp only [World.size_alloc] at h2 h3
  have HC := slot_pack wakeNode _ _ _ _ _ _ _ ⟨by decide, ints_one h1 (by decide), ints_one h2 (by decide), ints_one h3 (by decide)⟩
  have HC := Lib.hid HC
  clear h1 h2 h3 hb
  go_enter Try.func33, Try.ntmps33
  go_wp2_with fail
  refine HC.out.mono ?_
  rintro e w1 ⟨hb1, hcase⟩
  rcases hcase with ⟨hf, -⟩ | ⟨-, g, cg, rfl, hg, hrow⟩
  · rw [wake_formed] at hf
    cases hf
  · obtain ⟨-, -, -, -, hcg, hmx, -⟩ := id hrow
    unfold maxLen at hmx
    have HW := Lib.hid (below_then HB.out hb1 (by simp))
    have q0 := hrow.cell (j := 0) (u := .int .i64 17) rfl
    have q18 := hrow.cell (j := 18) (u := .int .i64 2031616) rfl
    clear hb1 hrow
    go_wp2
    all_goals go_ret
    all_goals exact ⟨rfl, HW.out⟩
end Go.Proofs.Ytnglbgdokdcefaa
