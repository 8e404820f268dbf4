/- Arguments that are structs by value, opened: a node, an area, a pair of ints. -/
import Derived.Test.YtldccemgfjmcdaaSlot
import Derived.OpenShut
import Derived.Lib.SmallJoins
namespace Go.Proofs.Ytldccemgfjmcdaa
open Go.ChangeShapes Go.WideShapes Go.ChangeAt Go.RowKit
set_option linter.unusedSimpArgs false
set_option linter.unusedVariables false

theorem open_agg {H : Type} {enc : TypeId × Value → H} {P : Program} {w : World} {base : Nat} {spare : Nat → Bool} {held : Bool} {r : Reach} {b0 : Nat} {t : TypeId} {fs : Array Field} {v : Value} {d : DataW H} {p : List MemPlace}
    (hs : P.underlying t = some (.struct fs)) (hone : Go.Deep.oneCellFields P fs = true) (hC : P.cellsOf t = fs.size) (hv : Value.okWide P w r b0 t v) (h : DataW.Trod enc P w base spare held t v d p) :
    ∃ cs : Array Value, v = .agg cs ∧ cs.size = fs.size ∧ ∀ (j : Nat) (f : Field), fs[j]? = some f → ∃ n u y, cs[j]? = some u ∧ DataW.trod enc P w base spare held n f.type [u] = some y := by
  obtain ⟨cs, rfl, hsz⟩ := okWide_struct hs hv
  obtain ⟨fuel, hf⟩ := h
  have hf : DataW.trod enc P w base spare held fuel t cs.toList = some (d, p) := by simpa [Value.cells] using hf
  obtain ⟨xs, n, -, -, hl, hxl, hfd⟩ := DataW.trod_struct hs hf
  refine ⟨cs, rfl, hsz.trans hC, fun j f hj => ?_⟩
  obtain ⟨ho, hk⟩ := Go.Deep.hone_of hone j f hj
  have hjl : j < fs.size := (Array.getElem?_eq_some_iff.1 hj).1
  have h1 := hfd j f hj
  have hcl : j < cs.toList.length := by simp; omega
  rw [ho, hk] at h1
  have hone' : (cs.toList.drop j).take 1 = [cs.toList[j]'hcl] := by
    rw [List.drop_eq_getElem_cons hcl]
    rfl
  rw [hone'] at h1
  exact ⟨n, _, _, by rw [← Array.getElem?_toList]; exact List.getElem?_eq_getElem hcl, h1.trans (List.getElem?_eq_getElem (show j < xs.length by omega))⟩
theorem open_ints1 {H : Type} {enc : TypeId × Value → H} {P : Program} {w : World} {t e : TypeId} {k : IntKind} {n : Nat} {u : Value} {y : DataW H × List MemPlace}
    (ht : P.underlying t = some (.slice e)) (he : P.underlying e = some (.int k)) (hc : P.cellsOf e = 1) (h : DataW.trod enc P w 0 (fun _ => true) true n t [u] = some y) : ∃ a len cap zs, u = .slice a len cap ∧ ArgInts k w a len cap zs := by
  obtain ⟨a, l, c, hcs⟩ := Go.Joins.slice_form ht h
  obtain rfl : u = .slice a l c := by simpa using hcs
  obtain ⟨zs, hz⟩ := ArgInts.open_ (k := k) ht he hc ⟨n, h⟩
  exact ⟨a, l, c, zs, rfl, hz⟩
theorem array5 {α : Type} {cs : Array α} (h : cs.size = 5) : ∃ c0 c1 c2 c3 c4, cs = #[c0, c1, c2, c3, c4] := by
  obtain ⟨l⟩ := cs
  match l, h with
  | [c0, c1, c2, c3, c4], _ => exact ⟨c0, c1, c2, c3, c4, rfl⟩
set_option maxRecDepth 100000 in
theorem open_node {H : Type} {enc : TypeId × Value → H} {w : World} {r : Reach} {b0 : Nat} {v : Value} {d : DataW H} {p : List MemPlace}
    (hv : Value.okWide Try.prog w r b0 50 v) (h : DataW.Trod enc Try.prog w 0 (fun _ => true) true 50 v d p) :
    ∃ n a1 a2 a3 c1 c2 c3, v = .agg (nodeCells n.inner n.lo a1 a2 a3 n.ends.length n.slots.length n.gaps.length c1 c2 c3) ∧ NodeR w n a1 a2 a3 c1 c2 c3 := by
  obtain ⟨cs, rfl, hsz, hf⟩ := open_agg Try.underlying50 (by kernel_rfl) (by kernel_rfl) hv h
  obtain ⟨u0, u1, u2, u3, u4, rfl⟩ := array5 hsz
  obtain ⟨n0, v0, y0, e0, t0⟩ := hf 0 _ rfl
  obtain ⟨n1, v1, y1, e1, t1⟩ := hf 1 _ rfl
  obtain ⟨n2, v2, y2, e2, t2⟩ := hf 2 _ rfl
  obtain ⟨n3, v3, y3, e3, t3⟩ := hf 3 _ rfl
  obtain ⟨n4, v4, y4, e4, t4⟩ := hf 4 _ rfl
  injection e0 with e0
  injection e1 with e1
  injection e2 with e2
  injection e3 with e3
  injection e4 with e4
  subst e0 e1 e2 e3 e4
  obtain ⟨b, hb, -⟩ := DataW.trod_bool Try.underlying4 t0
  obtain ⟨lo, hlo, -, hwl⟩ := DataW.trod_int Try.underlying2 t1
  obtain ⟨a1, l1, c1, z1, rfl, k1⟩ := open_ints1 Try.underlying31 Try.underlying2 (by kernel_rfl) t2
  obtain ⟨a2, l2, c2, z2, rfl, k2⟩ := open_ints1 Try.underlying31 Try.underlying2 (by kernel_rfl) t3
  obtain ⟨a3, l3, c3, z3, rfl, k3⟩ := open_ints1 Try.underlying31 Try.underlying2 (by kernel_rfl) t4
  simp only [List.cons.injEq, and_true] at hb hlo
  subst hb hlo
  have e1 := k1.hl
  have e2 := k2.hl
  have e3 := k3.hl
  subst e1 e2 e3
  exact ⟨⟨b, lo, z1, z2, z3⟩, a1, a2, a3, c1, c2, c3, rfl, hwl, k1, k2, k3⟩
end Go.Proofs.Ytldccemgfjmcdaa
