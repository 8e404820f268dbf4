/- What comes in as a slice: how it reads. No program is named here. -/
import Derived.Test.YtnglbgdokdcefaaMem
import Derived.ProofKit
import Derived.OpenShut
namespace Go.Proofs.Ytnglbgdokdcefaa
open Go.ChangeShapes Go.WideShapes Go.ChangeAt Go.RowKit

/-- The cells from an address on. -/
def Reads (w : World) (a : Option Addr) (xs : List Value) : Prop :=
  xs = [] ∨ ∃ b off, a = some ⟨b, off, none⟩ ∧ b < w.heap.size ∧ ∀ j u, xs[j]? = some u → w.cell? ⟨b, off + j, none⟩ = some u

theorem Reads.below {w w' : World} {a : Option Addr} {xs : List Value} {B : Nat} (h : Reads w a xs) (hb : Below B w w') (hB : w.heap.size ≤ B) : Reads w' a xs := by
  rcases h with h | ⟨b, off, ha, hlt, hc⟩
  · exact .inl h
  · exact .inr ⟨b, off, ha, Nat.lt_of_lt_of_le hlt hb.size, fun j u hu => (hb.cell (p := ⟨b, off + j, none⟩) (show b < B by omega)).trans (hc j u hu)⟩

theorem Reads.upd {w w' : World} {a : Option Addr} {xs : List Value} {F : List Nat} {B : Nat} (h : Reads w a xs) (hB : ∀ b off, a = some ⟨b, off, none⟩ → b < B) (hu : Upd F w w') (hF : ∀ b ∈ F, B ≤ b) : Reads w' a xs := by
  rcases h with h | ⟨b, off, ha, hlt, hc⟩
  · exact .inl h
  · refine .inr ⟨b, off, ha, Nat.lt_of_lt_of_le hlt hu.size, fun j u hu' => (hu.cell (p := ⟨b, off + j, none⟩) hlt (fun hf => ?_)).trans (hc j u hu')⟩
    have := hF b hf
    have := hB b off ha
    omega

/-- A slice of numbers that came in. -/
structure ArgInts (k : IntKind) (w : World) (a : Option Addr) (len cap : Nat) (zs : List Int) : Prop where
  hl : zs.length = len
  le : len ≤ cap
  hm : cap ≤ maxLen
  wf : ∀ x ∈ zs, (Lit.int k x).wf = true
  reads : Reads w a (zs.map (Value.int k))

theorem ArgInts.open_ {H : Type} {enc : TypeId × Value → H} {P : Program} {w : World} {t e : TypeId} {k : IntKind} {a : Option Addr} {len cap : Nat} {d : DataW H} {p : List MemPlace}
    (ht : P.underlying t = some (.slice e)) (he : P.underlying e = some (.int k)) (hc : P.cellsOf e = 1)
    (h : DataW.Trod enc P w 0 (fun _ => true) true t (.slice a len cap) d p) : ∃ zs, ArgInts k w a len cap zs := by
  obtain ⟨fuel, hf⟩ := h
  rcases open_ints ht he hc hf with ⟨hcs, _⟩ | ⟨x, l, c, zs, hcs, _, hl, hm, hz, _, hcell, hwz⟩
  · simp [Value.cells] at hcs
    obtain ⟨rfl, rfl, rfl⟩ := hcs
    exact ⟨[], rfl, Nat.le_refl _, Nat.zero_le _, by simp, .inl rfl⟩
  · simp [Value.cells] at hcs
    obtain ⟨rfl, rfl, rfl⟩ := hcs
    have hz' : zs.length = cap := by simpa using hz
    refine ⟨zs.take len, ⟨by simp; omega, hl, hm, fun n hn => hwz n (List.mem_of_mem_take hn), ?_⟩⟩
    rcases Nat.eq_zero_or_pos len with h0 | h0
    · left
      subst h0
      simp
    · right
      obtain ⟨b, off, rfl, hc⟩ := ints_at hcell (by omega)
      refine ⟨b, off, rfl, World.block_lt_of_cell? w ⟨b, off + 0, none⟩ (hc 0 (by omega)), fun j u hu => ?_⟩
      rw [List.getElem?_map, List.getElem?_take] at hu
      split at hu
      · rename_i hj
        rw [hc j (by omega)]
        rw [List.getElem?_eq_getElem (show j < zs.length by omega)] at hu
        simp at hu
        rw [← hu]
        simp [List.getD, List.getElem?_eq_getElem (show j < zs.length by omega)]
      · simp at hu

theorem ArgInts.below {k : IntKind} {w w' : World} {a : Option Addr} {len cap : Nat} {zs : List Int} {B : Nat} (h : ArgInts k w a len cap zs) (hb : Below B w w') (hB : w.heap.size ≤ B) : ArgInts k w' a len cap zs :=
  ⟨h.hl, h.le, h.hm, h.wf, h.reads.below hb hB⟩
/-- In a round: the address is some, the cell is there. -/
theorem ArgInts.at_ {k : IntKind} {w : World} {a : Option Addr} {len cap : Nat} {zs : List Int} (h : ArgInts k w a len cap zs) {j : Nat} (hj : j < len) :
    ∃ b off, a = some ⟨b, off, none⟩ ∧ b < w.heap.size ∧ w.cell? ⟨b, off + j, none⟩ = some (.int k (zs.getD j 0)) := by
  have hl := h.hl
  rcases h.reads with h0 | ⟨b, off, ha, hlt, hc⟩
  · simp at h0
    subst h0
    simp at hl
    omega
  · refine ⟨b, off, ha, hlt, hc j _ ?_⟩
    rw [List.getElem?_map, List.getElem?_eq_getElem (show j < zs.length by omega)]
    simp [List.getD, List.getElem?_eq_getElem (show j < zs.length by omega)]
end Go.Proofs.Ytnglbgdokdcefaa
