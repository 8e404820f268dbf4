/- A slice of slices that comes in: each row as a slice that comes in. No program is named here. -/
import Derived.Test.YtldccemgfjmcdaaArgs
namespace Go.Proofs.Ytldccemgfjmcdaa
open Go.ChangeShapes Go.WideShapes Go.ChangeAt Go.RowKit

structure RowV (E : Type) where
  a : Option Addr
  len : Nat
  cap : Nat
  zs : List E
def RowV.cells {E : Type} (r : RowV E) : List Value := [.slice r.a r.len r.cap]

theorem ArgOf.openRows {H : Type} {enc : TypeId × Value → H} {P : Program} {w : World} {t e1 e2 : TypeId} {a : Option Addr} {len cap : Nat} {d : DataW H} {p : List MemPlace}
    {E : Type} {OK : World → Option Addr → Nat → Nat → List E → Prop}
    (ht : P.underlying t = some (.slice e1)) (he : P.underlying e1 = some (.slice e2)) (hc : P.cellsOf e1 = 1)
    (inner : ∀ (a : Option Addr) (len cap : Nat) (d : DataW H) (p : List MemPlace), DataW.Trod enc P w 0 (fun _ => true) true e1 (.slice a len cap) d p → ∃ zs : List E, OK w a len cap zs)
    (h : DataW.Trod enc P w 0 (fun _ => true) true t (.slice a len cap) d p) :
    ∃ rows : List (RowV E), ArgOf RowV.cells 1 (fun r => OK w r.a r.len r.cap r.zs) w a len cap rows := by
  obtain ⟨fuel, hf⟩ := h
  rcases Go.Deep.open_slice1 ht hc hf with ⟨hcs, _⟩ | ⟨ad, l, c, m, n, V, D, Pl, hcs, hb, hl, hm, hmm, _, hi⟩
  · simp [Value.cells] at hcs
    obtain ⟨rfl, rfl, rfl⟩ := hcs
    exact ⟨[], rfl, Nat.le_refl _, Nat.zero_le _, by simp, .inl rfl⟩
  · simp [Value.cells] at hcs
    obtain ⟨rfl, rfl, rfl⟩ := hcs
    have hmc : m = cap := by simpa using hmm
    have each : ∀ i, i < len → ∃ r : RowV E, OK w r.a r.len r.cap r.zs ∧ w.cell? (ad.add i) = some (.slice r.a r.len r.cap) := by
      intro i hil
      obtain ⟨hc', ht'⟩ := hi i (by omega)
      rcases Go.Deep.open_slice he ht' with ⟨h1, _⟩ | ⟨a', l', c', _, _, _, _, h1, _⟩
      · injection h1 with h1
        rw [h1] at hc' ht'
        obtain ⟨zs, hz⟩ := inner none 0 0 _ _ ⟨n, ht'⟩
        exact ⟨⟨none, 0, 0, zs⟩, hz, hc'⟩
      · injection h1 with h1
        rw [h1] at hc' ht'
        obtain ⟨zs, hz⟩ := inner (some a') l' c' _ _ ⟨n, ht'⟩
        exact ⟨⟨some a', l', c', zs⟩, hz, hc'⟩
    obtain ⟨zs, hzl, hzr⟩ := list_of_each (fun i (r : RowV E) => OK w r.a r.len r.cap r.zs ∧ w.cell? (ad.add i) = some (.slice r.a r.len r.cap)) len each
    refine ⟨zs, hzl, hl, hm, fun x hx => ?_, ?_⟩
    · obtain ⟨i, hi, rfl⟩ := List.getElem_of_mem hx
      exact (hzr i _ (List.getElem?_eq_getElem hi)).1
    · rcases Nat.eq_zero_or_pos len with h0 | h0
      · left
        exact List.eq_nil_of_length_eq_zero (by omega)
      · right
        obtain ⟨b, off, spot⟩ := ad
        have hx0 : zs[0]? = some (zs[0]'(by omega)) := List.getElem?_eq_getElem (by omega)
        have h00 := (hzr 0 _ hx0).2
        have hspot : spot = none := by simpa [Addr.add] using World.cell?_spot h00
        subst hspot
        refine ⟨b, off, rfl, ?_, fun i x hx j u hu => ?_⟩
        · have := World.block_lt_of_cell? w _ h00
          simpa [Addr.add] using this
        · have h1 := (hzr i x hx).2
          rw [Go.WideShapes.add_plain] at h1
          match j, hu with
          | 0, hu =>
            simp [RowV.cells] at hu
            subst hu
            rw [Nat.mul_one, Nat.add_zero]
            exact h1
          | j + 1, hu => simp [RowV.cells] at hu
end Go.Proofs.Ytldccemgfjmcdaa
