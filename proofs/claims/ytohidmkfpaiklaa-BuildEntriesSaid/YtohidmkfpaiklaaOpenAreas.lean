/- An area, as it comes in. -/
import Derived.Test.YtohidmkfpaiklaaRight7
namespace Go.Proofs.Ytohidmkfpaiklaa
open Go.RowKit

theorem area_open {H : Type} {enc : TypeId × Value → H} {w : World} (n : Nat) (vs : List Value) (hl : vs.length = 6)
    (h0 : ∃ v y, vs[0]? = some v ∧ DataW.trod enc Try.prog w 0 (fun _ => true) true n 2 [v] = some y) (h1 : ∃ v y, vs[1]? = some v ∧ DataW.trod enc Try.prog w 0 (fun _ => true) true n 2 [v] = some y) (h2 : ∃ v y, vs[2]? = some v ∧ DataW.trod enc Try.prog w 0 (fun _ => true) true n 3 [v] = some y) (h3 : ∃ v y, vs[3]? = some v ∧ DataW.trod enc Try.prog w 0 (fun _ => true) true n 4 [v] = some y) (h4 : ∃ v y, vs[4]? = some v ∧ DataW.trod enc Try.prog w 0 (fun _ => true) true n 3 [v] = some y) (h5 : ∃ v y, vs[5]? = some v ∧ DataW.trod enc Try.prog w 0 (fun _ => true) true n 2 [v] = some y) :
    ∃ x : AreaV, x.Ok ∧ x.cells = vs := by
  obtain ⟨v0, y0, e0, t0⟩ := h0
  obtain ⟨v1, y1, e1, t1⟩ := h1
  obtain ⟨v2, y2, e2, t2⟩ := h2
  obtain ⟨v3, y3, e3, t3⟩ := h3
  obtain ⟨v4, y4, e4, t4⟩ := h4
  obtain ⟨v5, y5, e5, t5⟩ := h5
  obtain ⟨a0, c0, -, w0⟩ := DataW.trod_int Try.underlying2 t0
  obtain ⟨a1, c1, -, w1⟩ := DataW.trod_int Try.underlying2 t1
  obtain ⟨a2, c2, -, w2⟩ := DataW.trod_int Try.underlying3 t2
  obtain ⟨a3, c3, -⟩ := DataW.trod_bool Try.underlying4 t3
  obtain ⟨a4, c4, -, w4⟩ := DataW.trod_int Try.underlying3 t4
  obtain ⟨a5, c5, -, w5⟩ := DataW.trod_int Try.underlying2 t5
  simp only [List.cons.injEq, and_true] at c0 c1 c2 c3 c4 c5
  subst c0 c1 c2 c3 c4 c5
  match vs, hl with
  | [x0, x1, x2, x3, x4, x5], _ =>
    simp at e0 e1 e2 e3 e4 e5
    subst e0 e1 e2 e3 e4 e5
    exact ⟨⟨a0, a1, a2, a3, a4, a5⟩, ⟨w0, w1, w2, w4, w5⟩, rfl⟩
end Go.Proofs.Ytohidmkfpaiklaa
