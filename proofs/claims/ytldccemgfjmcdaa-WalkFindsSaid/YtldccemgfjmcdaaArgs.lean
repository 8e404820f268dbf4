/- What comes in as a slice: how it reads. No program is named here. -/
import Derived.Test.YtldccemgfjmcdaaMem
import Derived.ProofKit
import Derived.OpenShut
import Derived.Deep.Slices
import Derived.Deep.Fields
namespace Go.Proofs.Ytldccemgfjmcdaa
open Go.ChangeShapes Go.WideShapes Go.ChangeAt Go.RowKit

/-- The cells from an address on. -/
def Reads (w : World) (a : Option Addr) (xs : List Value) : Prop :=
  xs = [] ∨ ∃ b off, a = some ⟨b, off, none⟩ ∧ b < w.heap.size ∧ ∀ j u, xs[j]? = some u → w.cell? ⟨b, off + j, none⟩ = some u

theorem Reads.below {w w' : World} {a : Option Addr} {xs : List Value} {B : Nat} (h : Reads w a xs) (hb : Below B w w') (hB : w.heap.size ≤ B) : Reads w' a xs := by
  rcases h with h | ⟨b, off, ha, hlt, hc⟩
  · exact .inl h
  · exact .inr ⟨b, off, ha, Nat.lt_of_lt_of_le hlt hb.size, fun j u hu => (hb.cell (p := ⟨b, off + j, none⟩) (show b < B by omega)).trans (hc j u hu)⟩

theorem Reads.upd {w w' : World} {a : Option Addr} {xs : List Value} {F : List Nat} {B : Nat} (h : Reads w a xs) (hB : ∀ b off, a = some ⟨b, off, none⟩ → b < B) (hu : Upd F w w') (hF : ∀ b ∈ F, B ≤ b) : Reads w' a xs := by
  rcases h with h | ⟨b, off, ha, hlt, hc⟩
  · exact .inl h
  · refine .inr ⟨b, off, ha, Nat.lt_of_lt_of_le hlt hu.size, fun j u hu' => (hu.cell (p := ⟨b, off + j, none⟩) hlt (fun hf => ?_)).trans (hc j u hu')⟩
    have := hF b hf
    have := hB b off ha
    omega

/-- A slice of numbers that came in. -/
structure ArgInts (k : IntKind) (w : World) (a : Option Addr) (len cap : Nat) (zs : List Int) : Prop where
  hl : zs.length = len
  le : len ≤ cap
  hm : cap ≤ maxLen
  wf : ∀ x ∈ zs, (Lit.int k x).wf = true
  reads : Reads w a (zs.map (Value.int k))

theorem ArgInts.open_ {H : Type} {enc : TypeId × Value → H} {P : Program} {w : World} {t e : TypeId} {k : IntKind} {a : Option Addr} {len cap : Nat} {d : DataW H} {p : List MemPlace}
    (ht : P.underlying t = some (.slice e)) (he : P.underlying e = some (.int k)) (hc : P.cellsOf e = 1)
    (h : DataW.Trod enc P w 0 (fun _ => true) true t (.slice a len cap) d p) : ∃ zs, ArgInts k w a len cap zs := by
  obtain ⟨fuel, hf⟩ := h
  rcases open_ints ht he hc hf with ⟨hcs, _⟩ | ⟨x, l, c, zs, hcs, _, hl, hm, hz, _, hcell, hwz⟩
  · simp [Value.cells] at hcs
    obtain ⟨rfl, rfl, rfl⟩ := hcs
    exact ⟨[], rfl, Nat.le_refl _, Nat.zero_le _, by simp, .inl rfl⟩
  · simp [Value.cells] at hcs
    obtain ⟨rfl, rfl, rfl⟩ := hcs
    have hz' : zs.length = cap := by simpa using hz
    refine ⟨zs.take len, ⟨by simp; omega, hl, hm, fun n hn => hwz n (List.mem_of_mem_take hn), ?_⟩⟩
    rcases Nat.eq_zero_or_pos len with h0 | h0
    · left
      subst h0
      simp
    · right
      obtain ⟨b, off, rfl, hc⟩ := ints_at hcell (by omega)
      refine ⟨b, off, rfl, World.block_lt_of_cell? w ⟨b, off + 0, none⟩ (hc 0 (by omega)), fun j u hu => ?_⟩
      rw [List.getElem?_map, List.getElem?_take] at hu
      split at hu
      · rename_i hj
        rw [hc j (by omega)]
        rw [List.getElem?_eq_getElem (show j < zs.length by omega)] at hu
        simp at hu
        rw [← hu]
        simp [List.getD, List.getElem?_eq_getElem (show j < zs.length by omega)]
      · simp at hu

theorem ArgInts.below {k : IntKind} {w w' : World} {a : Option Addr} {len cap : Nat} {zs : List Int} {B : Nat} (h : ArgInts k w a len cap zs) (hb : Below B w w') (hB : w.heap.size ≤ B) : ArgInts k w' a len cap zs :=
  ⟨h.hl, h.le, h.hm, h.wf, h.reads.below hb hB⟩
/-- In a round: the address is some, the cell is there. -/
theorem ArgInts.at_ {k : IntKind} {w : World} {a : Option Addr} {len cap : Nat} {zs : List Int} (h : ArgInts k w a len cap zs) {j : Nat} (hj : j < len) :
    ∃ b off, a = some ⟨b, off, none⟩ ∧ b < w.heap.size ∧ w.cell? ⟨b, off + j, none⟩ = some (.int k (zs.getD j 0)) := by
  have hl := h.hl
  rcases h.reads with h0 | ⟨b, off, ha, hlt, hc⟩
  · simp at h0
    subst h0
    simp at hl
    omega
  · refine ⟨b, off, ha, hlt, hc j _ ?_⟩
    rw [List.getElem?_map, List.getElem?_eq_getElem (show j < zs.length by omega)]
    simp [List.getD, List.getElem?_eq_getElem (show j < zs.length by omega)]

/-! ### A slice whose elements are structs of one-cell fields -/

/-- A slice of elements of z cells each that came in. -/
structure ArgOf {E : Type} (cells : E → List Value) (z : Nat) (ok : E → Prop) (w : World) (a : Option Addr) (len cap : Nat) (zs : List E) : Prop where
  hl : zs.length = len
  le : len ≤ cap
  hm : cap ≤ maxLen
  good : ∀ x ∈ zs, ok x
  reads : zs = [] ∨ ∃ b off, a = some ⟨b, off, none⟩ ∧ b < w.heap.size ∧ ∀ i x, zs[i]? = some x → ∀ j u, (cells x)[j]? = some u → w.cell? ⟨b, off + i * z + j, none⟩ = some u

section
variable {E : Type} {cells : E → List Value} {z : Nat} {ok : E → Prop} {w w' : World} {a : Option Addr} {len cap : Nat} {zs : List E} {B : Nat}
theorem ArgOf.below (h : ArgOf cells z ok w a len cap zs) (hb : Below B w w') (hB : w.heap.size ≤ B) : ArgOf cells z ok w' a len cap zs := by
  refine ⟨h.hl, h.le, h.hm, h.good, ?_⟩
  rcases h.reads with h0 | ⟨b, off, ha, hlt, hc⟩
  · exact .inl h0
  · exact .inr ⟨b, off, ha, Nat.lt_of_lt_of_le hlt hb.size, fun i x hx j u hu => (hb.cell (p := ⟨b, off + i * z + j, none⟩) (show b < B by omega)).trans (hc i x hx j u hu)⟩
theorem ArgOf.at_ (h : ArgOf cells z ok w a len cap zs) {i : Nat} (hi : i < len) :
    ∃ b off x, a = some ⟨b, off, none⟩ ∧ b < w.heap.size ∧ zs[i]? = some x ∧ ok x ∧ ∀ j u, (cells x)[j]? = some u → w.cell? ⟨b, off + i * z + j, none⟩ = some u := by
  have hl := h.hl
  have hx : zs[i]? = some (zs[i]'(by omega)) := List.getElem?_eq_getElem (by omega)
  rcases h.reads with h0 | ⟨b, off, ha, hlt, hc⟩
  · subst h0
    simp at hl
    omega
  · exact ⟨b, off, _, ha, hlt, hx, h.good _ (List.getElem_mem _), hc i _ hx⟩
end

theorem list_of_each {E : Type} (R : Nat → E → Prop) : ∀ n : Nat, (∀ i, i < n → ∃ x, R i x) → ∃ zs : List E, zs.length = n ∧ ∀ i x, zs[i]? = some x → R i x
  | 0, _ => ⟨[], rfl, by simp⟩
  | n + 1, h => by
    obtain ⟨zs, hl, hz⟩ := list_of_each R n (fun i hi => h i (by omega))
    obtain ⟨x, hx⟩ := h n (by omega)
    refine ⟨zs ++ [x], by simp [hl], fun i y hy => ?_⟩
    rcases Nat.lt_or_ge i n with hi | hi
    · rw [List.getElem?_append_left (by omega)] at hy
      exact hz i y hy
    · rw [List.getElem?_append_right (by omega), hl] at hy
      have : i = n := by
        have := (List.getElem?_eq_some_iff.1 hy).1
        simp at this
        omega
      subst this
      simp at hy
      exact hy ▸ hx

/-- Each field's cell of each element, and how it reads. -/
theorem ArgOf.open_ {H : Type} {enc : TypeId × Value → H} {P : Program} {w : World} {t e : TypeId} {fs : Array Field} {a : Option Addr} {len cap : Nat} {d : DataW H} {p : List MemPlace}
    {E : Type} {cells : E → List Value} {ok : E → Prop} (z : Nat) (hz : z = fs.size) (hz0 : 0 < z)
    (ht : P.underlying t = some (.slice e)) (he : P.underlying e = some (.struct fs)) (hone : Go.Deep.oneCellFields P fs = true) (hC : P.cellsOf e = fs.size)
    (h : DataW.Trod enc P w 0 (fun _ => true) true t (.slice a len cap) d p)
    (hel : ∀ (n : Nat) (vs : List Value), vs.length = z → (∀ (j : Nat) (f : Field), fs[j]? = some f → ∃ v y, vs[j]? = some v ∧ DataW.trod enc P w 0 (fun _ => true) true n f.type [v] = some y) → ∃ x : E, ok x ∧ cells x = vs) :
    ∃ zs : List E, ArgOf cells z ok w a len cap zs := by
  obtain ⟨fuel, hf⟩ := h
  rcases Go.Deep.open_slice ht hf with ⟨hcs, _⟩ | ⟨ad, l, c, m, n, D, Pl, hcs, hb, hl, hm, hmm, _, hi⟩
  · simp [Value.cells] at hcs
    obtain ⟨rfl, rfl, rfl⟩ := hcs
    exact ⟨[], rfl, Nat.le_refl _, Nat.zero_le _, by simp, .inl rfl⟩
  · simp [Value.cells] at hcs
    obtain ⟨rfl, rfl, rfl⟩ := hcs
    have hmc : m = cap := by simpa using hmm
    have each : ∀ i, i < len → ∃ x : E, ok x ∧ (cells x).length = z ∧ ∀ j u, (cells x)[j]? = some u → w.cell? (ad.add (i * z + j)) = some u := by
      intro i hil
      obtain ⟨cs', hc, ht'⟩ := hi i (by omega)
      rw [hC] at hc
      obtain ⟨ys, n', _, _, hlen, hyl, hfd⟩ := DataW.trod_struct he ht'
      obtain ⟨_, hcl, hat⟩ := World.cells?_some hc
      obtain ⟨x, hx, hxc⟩ := hel n' cs' (by omega) (fun j f hj => by
        obtain ⟨ho, hk⟩ := Go.Deep.hone_of hone j f hj
        have hjl : j < fs.size := (Array.getElem?_eq_some_iff.1 hj).1
        have h1 := hfd j f hj
        rw [ho, hk] at h1
        have hv : cs'[j]? = some (cs'[j]'(by omega)) := List.getElem?_eq_getElem (by omega)
        have hone' : (cs'.drop j).take 1 = [cs'[j]'(by omega)] := by
          rw [List.drop_eq_getElem_cons (by omega)]
          rfl
        rw [hone'] at h1
        exact ⟨_, _, hv, h1.trans (List.getElem?_eq_getElem (show j < ys.length by omega))⟩)
      refine ⟨x, hx, by rw [hxc]; omega, fun j u hu => ?_⟩
      rw [hxc] at hu
      have hjl : j < cs'.length := (List.getElem?_eq_some_iff.1 hu).1
      rw [hz, ← Go.Deep.add_add, hat j (by omega), hu]
    obtain ⟨zs, hzl, hzr⟩ := list_of_each (fun i x => ok x ∧ (cells x).length = z ∧ ∀ j u, (cells x)[j]? = some u → w.cell? (ad.add (i * z + j)) = some u) len each
    refine ⟨zs, hzl, hl, hm, fun x hx => ?_, ?_⟩
    · obtain ⟨i, hi, rfl⟩ := List.getElem_of_mem hx
      exact (hzr i _ (List.getElem?_eq_getElem hi)).1
    · rcases Nat.eq_zero_or_pos len with h0 | h0
      · left
        exact List.eq_nil_of_length_eq_zero (by omega)
      · right
        obtain ⟨b, off, spot⟩ := ad
        have hx0 : zs[0]? = some (zs[0]'(by omega)) := List.getElem?_eq_getElem (by omega)
        obtain ⟨_, hzl0, hc0⟩ := hzr 0 _ hx0
        have hu0 : (cells (zs[0]'(by omega)))[0]? = some ((cells (zs[0]'(by omega)))[0]'(by omega)) := List.getElem?_eq_getElem (by omega)
        have h00 := hc0 0 _ hu0
        have hspot : spot = none := by simpa [Addr.add] using World.cell?_spot h00
        subst hspot
        refine ⟨b, off, rfl, ?_, fun i x hx j u hu => ?_⟩
        · have := World.block_lt_of_cell? w _ h00
          simpa [Addr.add] using this
        · have h1 := (hzr i x hx).2.2 j u hu
          rw [Go.WideShapes.add_plain] at h1
          rw [Nat.add_assoc]
          exact h1
end Go.Proofs.Ytldccemgfjmcdaa
