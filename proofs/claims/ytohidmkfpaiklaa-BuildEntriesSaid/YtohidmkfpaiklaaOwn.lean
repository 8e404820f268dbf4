/- Slices of the call's own, read as those that come in. No program is named here. -/
import Derived.Test.YtohidmkfpaiklaaArgs
import Derived.Test.YtohidmkfpaiklaaFlat
namespace Go.Proofs.Ytohidmkfpaiklaa
open Go.RowKit

theorem ArgOf.ofBlk {E : Type} {cells : E → List Value} {z : Nat} {ok : E → Prop} {w : World} {b : Nat} {ty : TypeId} {zs : List E} {cs : Array Value} {cap : Nat} (hz : ∀ x, (cells x).length = z) (h : Blk w b ty cs) (hcs : ∀ i, i < zs.length * z → cs[i]? = (zs.flatMap cells)[i]?) (hcap : zs.length ≤ cap) (hm : cap ≤ maxLen) (hok : ∀ x ∈ zs, ok x) : ArgOf cells z ok w (some ⟨b, 0, none⟩) zs.length cap zs := by
  refine ⟨rfl, hcap, hm, hok, .inr ⟨b, 0, rfl, h.lt, fun i x hx j u hu => h.at_ ?_⟩⟩
  have hj : j < z := by have := (List.getElem?_eq_some_iff.1 hu).1; rw [hz] at this; exact this
  have hi := (List.getElem?_eq_some_iff.1 hx).1
  have hlt : i * z + j < zs.length * z := by
    have := Nat.mul_le_mul_right z (show i + 1 ≤ zs.length from hi)
    rw [Nat.succ_mul] at this
    omega
  rw [Nat.zero_add, hcs _ hlt, flat_get hz zs i x j hx hj]
  exact hu
theorem ArgOf.ofRow {E : Type} {cells : E → List Value} {z : Nat} {ok : E → Prop} {w : World} {g : Nat} {ty : TypeId} {zs : List E} {n cap : Nat} (hz : ∀ x, (cells x).length = z) (h : Row w ty z g n cap (zs.flatMap cells)) (hn : zs.length = n) (hok : ∀ x ∈ zs, ok x) : ArgOf cells z ok w (some ⟨g, 0, none⟩) n cap zs := by
  obtain ⟨cur, hb, h1, h2, h3, h4, h5⟩ := h
  subst hn
  refine ArgOf.ofBlk hz hb (fun i hi => ?_) h3 h4 hok
  rw [← h5, List.getElem?_take, if_pos hi]
  simp
theorem ArgInts.ofRow {k : IntKind} {w : World} {g : Nat} {ty : TypeId} {zs : List Int} {n cap : Nat} (h : Row w ty 1 g n cap (zs.map (Value.int k))) (hok : ∀ x ∈ zs, (Lit.int k x).wf = true) : ArgInts k w (some ⟨g, 0, none⟩) n cap zs := by
  have h' := h
  obtain ⟨cur, hb, h1, h2, h3, h4, h5⟩ := h'
  exact ⟨by simpa using h2, h3, h4, hok, .inr ⟨g, 0, rfl, h.lt, fun j u hu => by rw [Nat.zero_add]; exact h.cell hu⟩⟩
theorem ArgOf.nil {E : Type} {cells : E → List Value} {z : Nat} {ok : E → Prop} {w : World} : ArgOf cells z ok w none 0 0 [] := ⟨rfl, Nat.le_refl _, Nat.zero_le _, by simp, .inl rfl⟩
end Go.Proofs.Ytohidmkfpaiklaa
