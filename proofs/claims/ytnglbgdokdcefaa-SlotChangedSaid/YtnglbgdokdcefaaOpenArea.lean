/- An area by value, opened. -/
import Derived.Test.YtnglbgdokdcefaaOpenAgg
import Derived.Test.YtnglbgdokdcefaaArea
namespace Go.Proofs.Ytnglbgdokdcefaa
open Go.ChangeShapes Go.WideShapes Go.ChangeAt Go.RowKit
set_option linter.unusedSimpArgs false
set_option linter.unusedVariables false

theorem array6 {α : Type} {cs : Array α} (h : cs.size = 6) : ∃ c0 c1 c2 c3 c4 c5, cs = #[c0, c1, c2, c3, c4, c5] := by
  obtain ⟨l⟩ := cs
  match l, h with
  | [c0, c1, c2, c3, c4, c5], _ => exact ⟨c0, c1, c2, c3, c4, c5, rfl⟩
set_option maxRecDepth 100000 in
theorem open_area {H : Type} {enc : TypeId × Value → H} {w : World} {r : Reach} {b0 : Nat} {v : Value} {d : DataW H} {p : List MemPlace}
    (hv : Value.okWide Try.prog w r b0 62 v) (h : DataW.Trod enc Try.prog w 0 (fun _ => true) true 62 v d p) :
    ∃ a : AreaV, v = .agg (areaCells a) ∧ a.Ok := by
  obtain ⟨cs, rfl, hsz, hf⟩ := open_agg Try.underlying62 (by kernel_rfl) (by kernel_rfl) hv h
  obtain ⟨u0, u1, u2, u3, u4, u5, rfl⟩ := array6 hsz
  obtain ⟨n0, v0, y0, e0, t0⟩ := hf 0 _ rfl
  injection e0 with e0
  obtain ⟨n1, v1, y1, e1, t1⟩ := hf 1 _ rfl
  injection e1 with e1
  obtain ⟨n2, v2, y2, e2, t2⟩ := hf 2 _ rfl
  injection e2 with e2
  obtain ⟨n3, v3, y3, e3, t3⟩ := hf 3 _ rfl
  injection e3 with e3
  obtain ⟨n4, v4, y4, e4, t4⟩ := hf 4 _ rfl
  injection e4 with e4
  obtain ⟨n5, v5, y5, e5, t5⟩ := hf 5 _ rfl
  injection e5 with e5
  subst e0 e1 e2 e3 e4 e5
  obtain ⟨start, k0, -, w0⟩ := DataW.trod_int Try.underlying2 t0
  obtain ⟨stop, k1, -, w1⟩ := DataW.trod_int Try.underlying2 t1
  obtain ⟨prot, k2, -, w2⟩ := DataW.trod_int Try.underlying3 t2
  obtain ⟨shared, k3, -⟩ := DataW.trod_bool Try.underlying4 t3
  obtain ⟨back, k4, -, w4⟩ := DataW.trod_int Try.underlying3 t4
  obtain ⟨off, k5, -, w5⟩ := DataW.trod_int Try.underlying2 t5
  simp only [List.cons.injEq, and_true] at k0 k1 k2 k3 k4 k5
  subst k0 k1 k2 k3 k4 k5
  exact ⟨⟨start, stop, prot, shared, back, off⟩, rfl, w0, w1, w2, w4, w5⟩
end Go.Proofs.Ytnglbgdokdcefaa
