/- A slice whose elements are arrays of one-cell elements, that comes in. -/
import Derived.Test.YtcphidmfdakbeaaArgs
namespace Go.Proofs.Ytcphidmfdakbeaa
open Go.ChangeShapes Go.WideShapes Go.ChangeAt Go.RowKit

theorem ArgOf.openArr {H : Type} {enc : TypeId × Value → H} {P : Program} {w : World} {t e f : TypeId} {a : Option Addr} {len cap : Nat} {d : DataW H} {p : List MemPlace}
    {E : Type} {cells : E → List Value} {ok : E → Prop} (z : Nat) (hz0 : 0 < z)
    (ht : P.underlying t = some (.slice e)) (he : P.underlying e = some (.array z f)) (hone : P.cellsOf f = 1) (hC : P.cellsOf e = z)
    (h : DataW.Trod enc P w 0 (fun _ => true) true t (.slice a len cap) d p)
    (hel : ∀ (n : Nat) (vs : List Value), vs.length = z → (∀ j, j < z → ∃ v y, vs[j]? = some v ∧ DataW.trod enc P w 0 (fun _ => true) true n f [v] = some y) → ∃ x : E, ok x ∧ cells x = vs) :
    ∃ zs : List E, ArgOf cells z ok w a len cap zs := by
  obtain ⟨fuel, hf⟩ := h
  rcases Go.Deep.open_slice ht hf with ⟨hcs, _⟩ | ⟨ad, l, c, m, n, D, Pl, hcs, hb, hl, hm, hmm, _, hi⟩
  · simp [Value.cells] at hcs
    obtain ⟨rfl, rfl, rfl⟩ := hcs
    exact ⟨[], rfl, Nat.le_refl _, Nat.zero_le _, by simp, .inl rfl⟩
  · simp [Value.cells] at hcs
    obtain ⟨rfl, rfl, rfl⟩ := hcs
    have hmc : m = cap := by simpa using hmm
    have each : ∀ i, i < len → ∃ x : E, ok x ∧ (cells x).length = z ∧ ∀ j u, (cells x)[j]? = some u → w.cell? (ad.add (i * z + j)) = some u := by
      intro i hil
      obtain ⟨cs', hc, ht'⟩ := hi i (by omega)
      rw [hC] at hc
      obtain ⟨xs, n', _, _, hlen, hxl, hfd⟩ := DataW.trod_array he ht'
      obtain ⟨_, hcl, hat⟩ := World.cells?_some hc
      obtain ⟨x, hx, hxc⟩ := hel n' cs' (by omega) (fun j hj => by
        have h1 := hfd j hj
        rw [hone, Nat.mul_one] at h1
        have hone' : (cs'.drop j).take 1 = [cs'[j]'(by omega)] := by
          rw [List.drop_eq_getElem_cons (by omega)]
          rfl
        rw [hone'] at h1
        exact ⟨_, _, List.getElem?_eq_getElem (by omega), h1.trans (List.getElem?_eq_getElem (show j < xs.length by omega))⟩)
      refine ⟨x, hx, by rw [hxc]; omega, fun j u hu => ?_⟩
      rw [hxc] at hu
      have hjl : j < cs'.length := (List.getElem?_eq_some_iff.1 hu).1
      rw [← Go.Deep.add_add, hat j (by omega), hu]
    obtain ⟨zs, hzl, hzr⟩ := list_of_each (fun i x => ok x ∧ (cells x).length = z ∧ ∀ j u, (cells x)[j]? = some u → w.cell? (ad.add (i * z + j)) = some u) len each
    refine ⟨zs, hzl, hl, hm, fun x hx => ?_, ?_⟩
    · obtain ⟨i, hi, rfl⟩ := List.getElem_of_mem hx
      exact (hzr i _ (List.getElem?_eq_getElem hi)).1
    · rcases Nat.eq_zero_or_pos len with h0 | h0
      · left
        exact List.eq_nil_of_length_eq_zero (by omega)
      · right
        obtain ⟨b, off, spot⟩ := ad
        have hx0 : zs[0]? = some (zs[0]'(by omega)) := List.getElem?_eq_getElem (by omega)
        obtain ⟨_, hzl0, hc0⟩ := hzr 0 _ hx0
        have hu0 : (cells (zs[0]'(by omega)))[0]? = some ((cells (zs[0]'(by omega)))[0]'(by omega)) := List.getElem?_eq_getElem (by omega)
        have h00 := hc0 0 _ hu0
        have hspot : spot = none := by simpa [Addr.add] using World.cell?_spot h00
        subst hspot
        refine ⟨b, off, rfl, ?_, fun i x hx j u hu => ?_⟩
        · have := World.block_lt_of_cell? w _ h00
          simpa [Addr.add] using this
        · have h1 := (hzr i x hx).2.2 j u hu
          rw [Go.WideShapes.add_plain] at h1
          rw [Nat.add_assoc]
          exact h1
end Go.Proofs.Ytcphidmfdakbeaa
