/- What comes in as a slice: how it reads. No program is named here. -/
import Derived.Test.YtohidmkfpaiklaaMem
import Derived.ProofKit
import Derived.OpenShut
import Derived.Deep.Slices
import Derived.Deep.Fields
namespace Go.Proofs.Ytohidmkfpaiklaa
open Go.ChangeShapes Go.WideShapes Go.ChangeAt Go.RowKit

/-- The cells from an address on. -/
def Reads (w : World) (a : Option Addr) (xs : List Value) : Prop :=
  xs = [] ∨ ∃ b off, a = some ⟨b, off, none⟩ ∧ b < w.heap.size ∧ ∀ j u, xs[j]? = some u → w.cell? ⟨b, off + j, none⟩ = some u

theorem Reads.below {w w' : World} {a : Option Addr} {xs : List Value} {B : Nat} (h : Reads w a xs) (hb : Below B w w') (hB : w.heap.size ≤ B) : Reads w' a xs := by
  rcases h with h | ⟨b, off, ha, hlt, hc⟩
  · exact .inl h
  · exact .inr ⟨b, off, ha, Nat.lt_of_lt_of_le hlt hb.size, fun j u hu => (hb.cell (p := ⟨b, off + j, none⟩) (show b < B by omega)).trans (hc j u hu)⟩

theorem Reads.upd {w w' : World} {a : Option Addr} {xs : List Value} {F : List Nat} {B : Nat} (h : Reads w a xs) (hB : ∀ b off, a = some ⟨b, off, none⟩ → b < B) (hu : Upd F w w') (hF : ∀ b ∈ F, B ≤ b) : Reads w' a xs := by
  rcases h with h | ⟨b, off, ha, hlt, hc⟩
  · exact .inl h
  · refine .inr ⟨b, off, ha, Nat.lt_of_lt_of_le hlt hu.size, fun j u hu' => (hu.cell (p := ⟨b, off + j, none⟩) hlt (fun hf => ?_)).trans (hc j u hu')⟩
    have := hF b hf
    have := hB b off ha
    omega

/-- A slice of numbers that came in. -/
structure ArgInts (k : IntKind) (w : World) (a : Option Addr) (len cap : Nat) (zs : List Int) : Prop where
  hl : zs.length = len
  le : len ≤ cap
  hm : cap ≤ maxLen
  wf : ∀ x ∈ zs, (Lit.int k x).wf = true
  reads : Reads w a (zs.map (Value.int k))

theorem ArgInts.open_ {H : Type} {enc : TypeId × Value → H} {P : Program} {w : World} {t e : TypeId} {k : IntKind} {a : Option Addr} {len cap : Nat} {d : DataW H} {p : List MemPlace}
    (ht : P.underlying t = some (.slice e)) (he : P.underlying e = some (.int k)) (hc : P.cellsOf e = 1)
    (h : DataW.Trod enc P w 0 (fun _ => true) true t (.slice a len cap) d p) : ∃ zs, ArgInts k w a len cap zs := by
  obtain ⟨fuel, hf⟩ := h
  rcases open_ints ht he hc hf with ⟨hcs, _⟩ | ⟨x, l, c, zs, hcs, _, hl, hm, hz, _, hcell, hwz⟩
  · simp [Value.cells] at hcs
    obtain ⟨rfl, rfl, rfl⟩ := hcs
    exact ⟨[], rfl, Nat.le_refl _, Nat.zero_le _, by simp, .inl rfl⟩
  · simp [Value.cells] at hcs
    obtain ⟨rfl, rfl, rfl⟩ := hcs
    have hz' : zs.length = cap := by simpa using hz
    refine ⟨zs.take len, ⟨by simp; omega, hl, hm, fun n hn => hwz n (List.mem_of_mem_take hn), ?_⟩⟩
    rcases Nat.eq_zero_or_pos len with h0 | h0
    · left
      subst h0
      simp
    · right
      obtain ⟨b, off, rfl, hc⟩ := ints_at hcell (by omega)
      refine ⟨b, off, rfl, World.block_lt_of_cell? w ⟨b, off + 0, none⟩ (hc 0 (by omega)), fun j u hu => ?_⟩
      rw [List.getElem?_map, List.getElem?_take] at hu
      split at hu
      · rename_i hj
        rw [hc j (by omega)]
        rw [List.getElem?_eq_getElem (show j < zs.length by omega)] at hu
        simp at hu
        rw [← hu]
        simp [List.getD, List.getElem?_eq_getElem (show j < zs.length by omega)]
      · simp at hu

theorem ArgInts.below {k : IntKind} {w w' : World} {a : Option Addr} {len cap : Nat} {zs : List Int} {B : Nat} (h : ArgInts k w a len cap zs) (hb : Below B w w') (hB : w.heap.size ≤ B) : ArgInts k w' a len cap zs :=
  ⟨h.hl, h.le, h.hm, h.wf, h.reads.below hb hB⟩
/-- In a round: the address is some, the cell is there. -/
theorem ArgInts.at_ {k : IntKind} {w : World} {a : Option Addr} {len cap : Nat} {zs : List Int} (h : ArgInts k w a len cap zs) {j : Nat} (hj : j < len) :
    ∃ b off, a = some ⟨b, off, none⟩ ∧ b < w.heap.size ∧ w.cell? ⟨b, off + j, none⟩ = some (.int k (zs.getD j 0)) := by
  have hl := h.hl
  rcases h.reads with h0 | ⟨b, off, ha, hlt, hc⟩
  · simp at h0
    subst h0
    simp at hl
    omega
  · refine ⟨b, off, ha, hlt, hc j _ ?_⟩
    rw [List.getElem?_map, List.getElem?_eq_getElem (show j < zs.length by omega)]
    simp [List.getD, List.getElem?_eq_getElem (show j < zs.length by omega)]

/-! ### A slice whose elements are structs of one-cell fields -/

/-- A slice of elements of z cells each that came in. -/
structure ArgOf {E : Type} (cells : E → List Value) (z : Nat) (ok : E → Prop) (w : World) (a : Option Addr) (len cap : Nat) (zs : List E) : Prop where
  hl : zs.length = len
  le : len ≤ cap
  hm : cap ≤ maxLen
  good : ∀ x ∈ zs, ok x
  reads : zs = [] ∨ ∃ b off, a = some ⟨b, off, none⟩ ∧ b < w.heap.size ∧ ∀ i x, zs[i]? = some x → ∀ j u, (cells x)[j]? = some u → w.cell? ⟨b, off + i * z + j, none⟩ = some u

section
variable {E : Type} {cells : E → List Value} {z : Nat} {ok : E → Prop} {w w' : World} {a : Option Addr} {len cap : Nat} {zs : List E} {B : Nat}
theorem ArgOf.below (h : ArgOf cells z ok w a len cap zs) (hb : Below B w w') (hB : w.heap.size ≤ B) : ArgOf cells z ok w' a len cap zs := by
  refine ⟨h.hl, h.le, h.hm, h.good, ?_⟩
  rcases h.reads with h0 | ⟨b, off, ha, hlt, hc⟩
  · exact .inl h0
  · exact .inr ⟨b, off, ha, Nat.lt_of_lt_of_le hlt hb.size, fun i x hx j u hu => (hb.cell (p := ⟨b, off + i * z + j, none⟩) (show b < B by omega)).trans (hc i x hx j u hu)⟩
theorem ArgOf.at_ (h : ArgOf cells z ok w a len cap zs) {i : Nat} (hi : i < len) :
    ∃ b off x, a = some ⟨b, off, none⟩ ∧ b < w.heap.size ∧ zs[i]? = some x ∧ ok x ∧ ∀ j u, (cells x)[j]? = some u → w.cell? ⟨b, off + i * z + j, none⟩ = some u := by
  have hl := h.hl
  have hx : zs[i]? = some (zs[i]'(by omega)) := List.getElem?_eq_getElem (by omega)
  rcases h.reads with h0 | ⟨b, off, ha, hlt, hc⟩
  · subst h0
    simp at hl
    omega
  · exact ⟨b, off, _, ha, hlt, hx, h.good _ (List.getElem_mem _), hc i _ hx⟩
end

theorem list_of_each {E : Type} (R : Nat → E → Prop) : ∀ n : Nat, (∀ i, i < n → ∃ x, R i x) → ∃ zs : List E, zs.length = n ∧ ∀ i x, zs[i]? = some x → R i x
  | 0, _ => ⟨[], rfl, by simp⟩
  | n + 1, h => by
    obtain ⟨zs, hl, hz⟩ := list_of_each R n (fun i hi => h i (by omega))
    obtain ⟨x, hx⟩ := h n (by omega)
    refine ⟨zs ++ [x], by simp [hl], fun i y hy => ?_⟩
    rcases Nat.lt_or_ge i n with hi | hi
    · rw [List.getElem?_append_left (by omega)] at hy
      exact hz i y hy
    · rw [List.getElem?_append_right (by omega), hl] at hy
      have : i = n := by
        have := (List.getElem?_eq_some_iff.1 hy).1
        simp at this
        omega
      subst this
      simp at hy
      exact hy ▸ hx

/-- Each field's cell of each element, and how it reads. -/
theorem ArgOf.open_ {H : Type} {enc : TypeId × Value → H} {P : Program} {w : World} {t e : TypeId} {fs : Array Field} {a : Option Addr} {len cap : Nat} {d : DataW H} {p : List MemPlace}
    {E : Type} {cells : E → List Value} {ok : E → Prop} (z : Nat) (hz : z = fs.size) (hz0 : 0 < z)
    (ht : P.underlying t = some (.slice e)) (he : P.underlying e = some (.struct fs)) (hone : Go.Deep.oneCellFields P fs = true) (hC : P.cellsOf e = fs.size)
    (h : DataW.Trod enc P w 0 (fun _ => true) true t (.slice a len cap) d p)
    (hel : ∀ (n : Nat) (vs : List Value), vs.length = z → (∀ (j : Nat) (f : Field), fs[j]? = some f → ∃ v y, vs[j]? = some v ∧ DataW.trod enc P w 0 (fun _ => true) true n f.type [v] = some y) → ∃ x : E, ok x ∧ cells x = vs) :
    ∃ zs : List E, ArgOf cells z ok w a len cap zs := by
  obtain ⟨fuel, hf⟩ := h
  rcases Go.Deep.open_slice ht hf with ⟨hcs, _⟩ | ⟨ad, l, c, m, n, D, Pl, hcs, hb, hl, hm, hmm, _, hi⟩
  · simp [Value.cells] at hcs
    obtain ⟨rfl, rfl, rfl⟩ := hcs
    exact ⟨[], rfl, Nat.le_refl _, Nat.zero_le _, by simp, .inl rfl⟩
  · simp [Value.cells] at hcs
    obtain ⟨rfl, rfl, rfl⟩ := hcs
    have hmc : m = cap := by simpa using hmm
    have each : ∀ i, i < len → ∃ x : E, ok x ∧ (cells x).length = z ∧ ∀ j u, (cells x)[j]? = some u → w.cell? (ad.add (i * z + j)) = some u := by
      intro i hil
      obtain ⟨cs', hc, ht'⟩ := hi i (by omega)
      rw [hC] at hc
      obtain ⟨ys, n', _, _, hlen, hyl, hfd⟩ := DataW.trod_struct he ht'
      obtain ⟨_, hcl, hat⟩ := World.cells?_some hc
      obtain ⟨x, hx, hxc⟩ := hel n' cs' (by omega) (fun j f hj => by
        obtain ⟨ho, hk⟩ := Go.Deep.hone_of hone j f hj
        have hjl : j < fs.size := (Array.getElem?_eq_some_iff.1 hj).1
        have h1 := hfd j f hj
        rw [ho, hk] at h1
        have hv : cs'[j]? = some (cs'[j]'(by omega)) := List.getElem?_eq_getElem (by omega)
        have hone' : (cs'.drop j).take 1 = [cs'[j]'(by omega)] := by
          rw [List.drop_eq_getElem_cons (by omega)]
          rfl
        rw [hone'] at h1
        exact ⟨_, _, hv, h1.trans (List.getElem?_eq_getElem (show j < ys.length by omega))⟩)
      refine ⟨x, hx, by rw [hxc]; omega, fun j u hu => ?_⟩
      rw [hxc] at hu
      have hjl : j < cs'.length := (List.getElem?_eq_some_iff.1 hu).1
      rw [hz, ← Go.Deep.add_add, hat j (by omega), hu]
    obtain ⟨zs, hzl, hzr⟩ := list_of_each (fun i x => ok x ∧ (cells x).length = z ∧ ∀ j u, (cells x)[j]? = some u → w.cell? (ad.add (i * z + j)) = some u) len each
    refine ⟨zs, hzl, hl, hm, fun x hx => ?_, ?_⟩
    · obtain ⟨i, hi, rfl⟩ := List.getElem_of_mem hx
      exact (hzr i _ (List.getElem?_eq_getElem hi)).1
    · rcases Nat.eq_zero_or_pos len with h0 | h0
      · left
        exact List.eq_nil_of_length_eq_zero (by omega)
      · right
        obtain ⟨b, off, spot⟩ := ad
        have hx0 : zs[0]? = some (zs[0]'(by omega)) := List.getElem?_eq_getElem (by omega)
        obtain ⟨_, hzl0, hc0⟩ := hzr 0 _ hx0
        have hu0 : (cells (zs[0]'(by omega)))[0]? = some ((cells (zs[0]'(by omega)))[0]'(by omega)) := List.getElem?_eq_getElem (by omega)
        have h00 := hc0 0 _ hu0
        have hspot : spot = none := by simpa [Addr.add] using World.cell?_spot h00
        subst hspot
        refine ⟨b, off, rfl, ?_, fun i x hx j u hu => ?_⟩
        · have := World.block_lt_of_cell? w _ h00
          simpa [Addr.add] using this
        · have h1 := (hzr i x hx).2.2 j u hu
          rw [Go.WideShapes.add_plain] at h1
          rw [Nat.add_assoc]
          exact h1
end Go.Proofs.Ytohidmkfpaiklaa
/- Facts on memory, carried through what a call leaves: one word for all of them (thru). No program is named here. -/
namespace Go.Proofs.Ytohidmkfpaiklaa
open Go.RowKit

theorem below_thru {w0 w w' : World} (h : Below w0.heap.size w0 w) (hb : Below w.heap.size w w') : Below w0.heap.size w0 w' := below_then h hb (Nat.le_refl _)
theorem below_alloc0 (w : World) (o : Obj) : Below w.heap.size w (w.alloc o) := (Below.refl _ _).alloc (Nat.le_refl _) _
theorem below_drewN0 (w : World) (q : Nat) : Below w.heap.size w (w.drewN q) := by
  have h := Below.refl w.heap.size w
  exact ⟨h.os, h.tape, h.output, h.size, h.block⟩
section
variable {w w' : World}
theorem Blk.thru {b : Nat} {t : TypeId} {cs : Array Value} (h : Blk w b t cs) (hb : Below w.heap.size w w') : Blk w' b t cs := h.below hb h.lt
theorem Row.thru {g n c z : Nat} {t : TypeId} {xs : List Value} (h : Row w t z g n c xs) (hb : Below w.heap.size w w') : Row w' t z g n c xs := by
  obtain ⟨cur, h1, h'⟩ := h
  exact ⟨cur, h1.thru hb, h'⟩
theorem ArgInts.thru {k : IntKind} {a : Option Addr} {len cap : Nat} {zs : List Int} (h : ArgInts k w a len cap zs) (hb : Below w.heap.size w w') : ArgInts k w' a len cap zs := h.below hb (Nat.le_refl _)
theorem ArgOf.thru {E : Type} {cells : E → List Value} {z : Nat} {ok : E → Prop} {a : Option Addr} {len cap : Nat} {zs : List E} (h : ArgOf cells z ok w a len cap zs) (hb : Below w.heap.size w w') : ArgOf cells z ok w' a len cap zs := h.below hb (Nat.le_refl _)
/-- A fact on no world. -/
def Lt (n : Nat) (w : World) : Prop := n < w.heap.size
theorem Lt.thru {n : Nat} (h : Lt n w) (hb : Below w.heap.size w w') : Lt n w' := Nat.lt_of_lt_of_le h hb.size
theorem Blk.at1 {b : Nat} {t : TypeId} {a0 : Value} (h : Blk w b t #[a0]) : w.cell? ⟨b, 0, none⟩ = some a0 := h.at_ rfl
theorem Blk.at2 {b : Nat} {t : TypeId} {a0 a1 : Value} (h : Blk w b t #[a0, a1]) : w.cell? ⟨b, 0, none⟩ = some a0 ∧ w.cell? ⟨b, 1, none⟩ = some a1 := ⟨h.at_ rfl, h.at_ rfl⟩
theorem Blk.at3 {b : Nat} {t : TypeId} {a0 a1 a2 : Value} (h : Blk w b t #[a0, a1, a2]) : w.cell? ⟨b, 0, none⟩ = some a0 ∧ w.cell? ⟨b, 1, none⟩ = some a1 ∧ w.cell? ⟨b, 2, none⟩ = some a2 := ⟨h.at_ rfl, h.at_ rfl, h.at_ rfl⟩
theorem Blk.at4 {b : Nat} {t : TypeId} {a0 a1 a2 a3 : Value} (h : Blk w b t #[a0, a1, a2, a3]) : w.cell? ⟨b, 0, none⟩ = some a0 ∧ w.cell? ⟨b, 1, none⟩ = some a1 ∧ w.cell? ⟨b, 2, none⟩ = some a2 ∧ w.cell? ⟨b, 3, none⟩ = some a3 := ⟨h.at_ rfl, h.at_ rfl, h.at_ rfl, h.at_ rfl⟩
theorem Blk.at5 {b : Nat} {t : TypeId} {a0 a1 a2 a3 a4 : Value} (h : Blk w b t #[a0, a1, a2, a3, a4]) : w.cell? ⟨b, 0, none⟩ = some a0 ∧ w.cell? ⟨b, 1, none⟩ = some a1 ∧ w.cell? ⟨b, 2, none⟩ = some a2 ∧ w.cell? ⟨b, 3, none⟩ = some a3 ∧ w.cell? ⟨b, 4, none⟩ = some a4 := ⟨h.at_ rfl, h.at_ rfl, h.at_ rfl, h.at_ rfl, h.at_ rfl⟩
theorem Blk.at6 {b : Nat} {t : TypeId} {a0 a1 a2 a3 a4 a5 : Value} (h : Blk w b t #[a0, a1, a2, a3, a4, a5]) : w.cell? ⟨b, 0, none⟩ = some a0 ∧ w.cell? ⟨b, 1, none⟩ = some a1 ∧ w.cell? ⟨b, 2, none⟩ = some a2 ∧ w.cell? ⟨b, 3, none⟩ = some a3 ∧ w.cell? ⟨b, 4, none⟩ = some a4 ∧ w.cell? ⟨b, 5, none⟩ = some a5 := ⟨h.at_ rfl, h.at_ rfl, h.at_ rfl, h.at_ rfl, h.at_ rfl, h.at_ rfl⟩
theorem Blk.at7 {b : Nat} {t : TypeId} {a0 a1 a2 a3 a4 a5 a6 : Value} (h : Blk w b t #[a0, a1, a2, a3, a4, a5, a6]) : w.cell? ⟨b, 0, none⟩ = some a0 ∧ w.cell? ⟨b, 1, none⟩ = some a1 ∧ w.cell? ⟨b, 2, none⟩ = some a2 ∧ w.cell? ⟨b, 3, none⟩ = some a3 ∧ w.cell? ⟨b, 4, none⟩ = some a4 ∧ w.cell? ⟨b, 5, none⟩ = some a5 ∧ w.cell? ⟨b, 6, none⟩ = some a6 := ⟨h.at_ rfl, h.at_ rfl, h.at_ rfl, h.at_ rfl, h.at_ rfl, h.at_ rfl, h.at_ rfl⟩
theorem Blk.at8 {b : Nat} {t : TypeId} {a0 a1 a2 a3 a4 a5 a6 a7 : Value} (h : Blk w b t #[a0, a1, a2, a3, a4, a5, a6, a7]) : w.cell? ⟨b, 0, none⟩ = some a0 ∧ w.cell? ⟨b, 1, none⟩ = some a1 ∧ w.cell? ⟨b, 2, none⟩ = some a2 ∧ w.cell? ⟨b, 3, none⟩ = some a3 ∧ w.cell? ⟨b, 4, none⟩ = some a4 ∧ w.cell? ⟨b, 5, none⟩ = some a5 ∧ w.cell? ⟨b, 6, none⟩ = some a6 ∧ w.cell? ⟨b, 7, none⟩ = some a7 := ⟨h.at_ rfl, h.at_ rfl, h.at_ rfl, h.at_ rfl, h.at_ rfl, h.at_ rfl, h.at_ rfl, h.at_ rfl⟩
theorem Blk.at9 {b : Nat} {t : TypeId} {a0 a1 a2 a3 a4 a5 a6 a7 a8 : Value} (h : Blk w b t #[a0, a1, a2, a3, a4, a5, a6, a7, a8]) : w.cell? ⟨b, 0, none⟩ = some a0 ∧ w.cell? ⟨b, 1, none⟩ = some a1 ∧ w.cell? ⟨b, 2, none⟩ = some a2 ∧ w.cell? ⟨b, 3, none⟩ = some a3 ∧ w.cell? ⟨b, 4, none⟩ = some a4 ∧ w.cell? ⟨b, 5, none⟩ = some a5 ∧ w.cell? ⟨b, 6, none⟩ = some a6 ∧ w.cell? ⟨b, 7, none⟩ = some a7 ∧ w.cell? ⟨b, 8, none⟩ = some a8 := ⟨h.at_ rfl, h.at_ rfl, h.at_ rfl, h.at_ rfl, h.at_ rfl, h.at_ rfl, h.at_ rfl, h.at_ rfl, h.at_ rfl⟩
theorem Blk.at10 {b : Nat} {t : TypeId} {a0 a1 a2 a3 a4 a5 a6 a7 a8 a9 : Value} (h : Blk w b t #[a0, a1, a2, a3, a4, a5, a6, a7, a8, a9]) : w.cell? ⟨b, 0, none⟩ = some a0 ∧ w.cell? ⟨b, 1, none⟩ = some a1 ∧ w.cell? ⟨b, 2, none⟩ = some a2 ∧ w.cell? ⟨b, 3, none⟩ = some a3 ∧ w.cell? ⟨b, 4, none⟩ = some a4 ∧ w.cell? ⟨b, 5, none⟩ = some a5 ∧ w.cell? ⟨b, 6, none⟩ = some a6 ∧ w.cell? ⟨b, 7, none⟩ = some a7 ∧ w.cell? ⟨b, 8, none⟩ = some a8 ∧ w.cell? ⟨b, 9, none⟩ = some a9 := ⟨h.at_ rfl, h.at_ rfl, h.at_ rfl, h.at_ rfl, h.at_ rfl, h.at_ rfl, h.at_ rfl, h.at_ rfl, h.at_ rfl, h.at_ rfl⟩
theorem Blk.at11 {b : Nat} {t : TypeId} {a0 a1 a2 a3 a4 a5 a6 a7 a8 a9 a10 : Value} (h : Blk w b t #[a0, a1, a2, a3, a4, a5, a6, a7, a8, a9, a10]) : w.cell? ⟨b, 0, none⟩ = some a0 ∧ w.cell? ⟨b, 1, none⟩ = some a1 ∧ w.cell? ⟨b, 2, none⟩ = some a2 ∧ w.cell? ⟨b, 3, none⟩ = some a3 ∧ w.cell? ⟨b, 4, none⟩ = some a4 ∧ w.cell? ⟨b, 5, none⟩ = some a5 ∧ w.cell? ⟨b, 6, none⟩ = some a6 ∧ w.cell? ⟨b, 7, none⟩ = some a7 ∧ w.cell? ⟨b, 8, none⟩ = some a8 ∧ w.cell? ⟨b, 9, none⟩ = some a9 ∧ w.cell? ⟨b, 10, none⟩ = some a10 := ⟨h.at_ rfl, h.at_ rfl, h.at_ rfl, h.at_ rfl, h.at_ rfl, h.at_ rfl, h.at_ rfl, h.at_ rfl, h.at_ rfl, h.at_ rfl, h.at_ rfl⟩
theorem Blk.at12 {b : Nat} {t : TypeId} {a0 a1 a2 a3 a4 a5 a6 a7 a8 a9 a10 a11 : Value} (h : Blk w b t #[a0, a1, a2, a3, a4, a5, a6, a7, a8, a9, a10, a11]) : w.cell? ⟨b, 0, none⟩ = some a0 ∧ w.cell? ⟨b, 1, none⟩ = some a1 ∧ w.cell? ⟨b, 2, none⟩ = some a2 ∧ w.cell? ⟨b, 3, none⟩ = some a3 ∧ w.cell? ⟨b, 4, none⟩ = some a4 ∧ w.cell? ⟨b, 5, none⟩ = some a5 ∧ w.cell? ⟨b, 6, none⟩ = some a6 ∧ w.cell? ⟨b, 7, none⟩ = some a7 ∧ w.cell? ⟨b, 8, none⟩ = some a8 ∧ w.cell? ⟨b, 9, none⟩ = some a9 ∧ w.cell? ⟨b, 10, none⟩ = some a10 ∧ w.cell? ⟨b, 11, none⟩ = some a11 := ⟨h.at_ rfl, h.at_ rfl, h.at_ rfl, h.at_ rfl, h.at_ rfl, h.at_ rfl, h.at_ rfl, h.at_ rfl, h.at_ rfl, h.at_ rfl, h.at_ rfl, h.at_ rfl⟩
theorem Blk.at13 {b : Nat} {t : TypeId} {a0 a1 a2 a3 a4 a5 a6 a7 a8 a9 a10 a11 a12 : Value} (h : Blk w b t #[a0, a1, a2, a3, a4, a5, a6, a7, a8, a9, a10, a11, a12]) : w.cell? ⟨b, 0, none⟩ = some a0 ∧ w.cell? ⟨b, 1, none⟩ = some a1 ∧ w.cell? ⟨b, 2, none⟩ = some a2 ∧ w.cell? ⟨b, 3, none⟩ = some a3 ∧ w.cell? ⟨b, 4, none⟩ = some a4 ∧ w.cell? ⟨b, 5, none⟩ = some a5 ∧ w.cell? ⟨b, 6, none⟩ = some a6 ∧ w.cell? ⟨b, 7, none⟩ = some a7 ∧ w.cell? ⟨b, 8, none⟩ = some a8 ∧ w.cell? ⟨b, 9, none⟩ = some a9 ∧ w.cell? ⟨b, 10, none⟩ = some a10 ∧ w.cell? ⟨b, 11, none⟩ = some a11 ∧ w.cell? ⟨b, 12, none⟩ = some a12 := ⟨h.at_ rfl, h.at_ rfl, h.at_ rfl, h.at_ rfl, h.at_ rfl, h.at_ rfl, h.at_ rfl, h.at_ rfl, h.at_ rfl, h.at_ rfl, h.at_ rfl, h.at_ rfl, h.at_ rfl⟩
theorem Blk.at14 {b : Nat} {t : TypeId} {a0 a1 a2 a3 a4 a5 a6 a7 a8 a9 a10 a11 a12 a13 : Value} (h : Blk w b t #[a0, a1, a2, a3, a4, a5, a6, a7, a8, a9, a10, a11, a12, a13]) : w.cell? ⟨b, 0, none⟩ = some a0 ∧ w.cell? ⟨b, 1, none⟩ = some a1 ∧ w.cell? ⟨b, 2, none⟩ = some a2 ∧ w.cell? ⟨b, 3, none⟩ = some a3 ∧ w.cell? ⟨b, 4, none⟩ = some a4 ∧ w.cell? ⟨b, 5, none⟩ = some a5 ∧ w.cell? ⟨b, 6, none⟩ = some a6 ∧ w.cell? ⟨b, 7, none⟩ = some a7 ∧ w.cell? ⟨b, 8, none⟩ = some a8 ∧ w.cell? ⟨b, 9, none⟩ = some a9 ∧ w.cell? ⟨b, 10, none⟩ = some a10 ∧ w.cell? ⟨b, 11, none⟩ = some a11 ∧ w.cell? ⟨b, 12, none⟩ = some a12 ∧ w.cell? ⟨b, 13, none⟩ = some a13 := ⟨h.at_ rfl, h.at_ rfl, h.at_ rfl, h.at_ rfl, h.at_ rfl, h.at_ rfl, h.at_ rfl, h.at_ rfl, h.at_ rfl, h.at_ rfl, h.at_ rfl, h.at_ rfl, h.at_ rfl, h.at_ rfl⟩
theorem Blk.at15 {b : Nat} {t : TypeId} {a0 a1 a2 a3 a4 a5 a6 a7 a8 a9 a10 a11 a12 a13 a14 : Value} (h : Blk w b t #[a0, a1, a2, a3, a4, a5, a6, a7, a8, a9, a10, a11, a12, a13, a14]) : w.cell? ⟨b, 0, none⟩ = some a0 ∧ w.cell? ⟨b, 1, none⟩ = some a1 ∧ w.cell? ⟨b, 2, none⟩ = some a2 ∧ w.cell? ⟨b, 3, none⟩ = some a3 ∧ w.cell? ⟨b, 4, none⟩ = some a4 ∧ w.cell? ⟨b, 5, none⟩ = some a5 ∧ w.cell? ⟨b, 6, none⟩ = some a6 ∧ w.cell? ⟨b, 7, none⟩ = some a7 ∧ w.cell? ⟨b, 8, none⟩ = some a8 ∧ w.cell? ⟨b, 9, none⟩ = some a9 ∧ w.cell? ⟨b, 10, none⟩ = some a10 ∧ w.cell? ⟨b, 11, none⟩ = some a11 ∧ w.cell? ⟨b, 12, none⟩ = some a12 ∧ w.cell? ⟨b, 13, none⟩ = some a13 ∧ w.cell? ⟨b, 14, none⟩ = some a14 := ⟨h.at_ rfl, h.at_ rfl, h.at_ rfl, h.at_ rfl, h.at_ rfl, h.at_ rfl, h.at_ rfl, h.at_ rfl, h.at_ rfl, h.at_ rfl, h.at_ rfl, h.at_ rfl, h.at_ rfl, h.at_ rfl, h.at_ rfl⟩
theorem Blk.fr1 {b : Nat} {t : TypeId} {cs : Array Value} (h : Blk w b t cs) : w.frozen? ⟨b, 0, none⟩ = false := h.free 0
theorem Blk.fr2 {b : Nat} {t : TypeId} {cs : Array Value} (h : Blk w b t cs) : w.frozen? ⟨b, 0, none⟩ = false ∧ w.frozen? ⟨b, 1, none⟩ = false := ⟨h.free 0, h.free 1⟩
theorem Blk.fr3 {b : Nat} {t : TypeId} {cs : Array Value} (h : Blk w b t cs) : w.frozen? ⟨b, 0, none⟩ = false ∧ w.frozen? ⟨b, 1, none⟩ = false ∧ w.frozen? ⟨b, 2, none⟩ = false := ⟨h.free 0, h.free 1, h.free 2⟩
theorem Blk.fr4 {b : Nat} {t : TypeId} {cs : Array Value} (h : Blk w b t cs) : w.frozen? ⟨b, 0, none⟩ = false ∧ w.frozen? ⟨b, 1, none⟩ = false ∧ w.frozen? ⟨b, 2, none⟩ = false ∧ w.frozen? ⟨b, 3, none⟩ = false := ⟨h.free 0, h.free 1, h.free 2, h.free 3⟩
theorem Blk.fr5 {b : Nat} {t : TypeId} {cs : Array Value} (h : Blk w b t cs) : w.frozen? ⟨b, 0, none⟩ = false ∧ w.frozen? ⟨b, 1, none⟩ = false ∧ w.frozen? ⟨b, 2, none⟩ = false ∧ w.frozen? ⟨b, 3, none⟩ = false ∧ w.frozen? ⟨b, 4, none⟩ = false := ⟨h.free 0, h.free 1, h.free 2, h.free 3, h.free 4⟩
theorem Blk.fr6 {b : Nat} {t : TypeId} {cs : Array Value} (h : Blk w b t cs) : w.frozen? ⟨b, 0, none⟩ = false ∧ w.frozen? ⟨b, 1, none⟩ = false ∧ w.frozen? ⟨b, 2, none⟩ = false ∧ w.frozen? ⟨b, 3, none⟩ = false ∧ w.frozen? ⟨b, 4, none⟩ = false ∧ w.frozen? ⟨b, 5, none⟩ = false := ⟨h.free 0, h.free 1, h.free 2, h.free 3, h.free 4, h.free 5⟩
theorem Blk.fr7 {b : Nat} {t : TypeId} {cs : Array Value} (h : Blk w b t cs) : w.frozen? ⟨b, 0, none⟩ = false ∧ w.frozen? ⟨b, 1, none⟩ = false ∧ w.frozen? ⟨b, 2, none⟩ = false ∧ w.frozen? ⟨b, 3, none⟩ = false ∧ w.frozen? ⟨b, 4, none⟩ = false ∧ w.frozen? ⟨b, 5, none⟩ = false ∧ w.frozen? ⟨b, 6, none⟩ = false := ⟨h.free 0, h.free 1, h.free 2, h.free 3, h.free 4, h.free 5, h.free 6⟩
theorem Blk.fr8 {b : Nat} {t : TypeId} {cs : Array Value} (h : Blk w b t cs) : w.frozen? ⟨b, 0, none⟩ = false ∧ w.frozen? ⟨b, 1, none⟩ = false ∧ w.frozen? ⟨b, 2, none⟩ = false ∧ w.frozen? ⟨b, 3, none⟩ = false ∧ w.frozen? ⟨b, 4, none⟩ = false ∧ w.frozen? ⟨b, 5, none⟩ = false ∧ w.frozen? ⟨b, 6, none⟩ = false ∧ w.frozen? ⟨b, 7, none⟩ = false := ⟨h.free 0, h.free 1, h.free 2, h.free 3, h.free 4, h.free 5, h.free 6, h.free 7⟩
theorem Blk.fr9 {b : Nat} {t : TypeId} {cs : Array Value} (h : Blk w b t cs) : w.frozen? ⟨b, 0, none⟩ = false ∧ w.frozen? ⟨b, 1, none⟩ = false ∧ w.frozen? ⟨b, 2, none⟩ = false ∧ w.frozen? ⟨b, 3, none⟩ = false ∧ w.frozen? ⟨b, 4, none⟩ = false ∧ w.frozen? ⟨b, 5, none⟩ = false ∧ w.frozen? ⟨b, 6, none⟩ = false ∧ w.frozen? ⟨b, 7, none⟩ = false ∧ w.frozen? ⟨b, 8, none⟩ = false := ⟨h.free 0, h.free 1, h.free 2, h.free 3, h.free 4, h.free 5, h.free 6, h.free 7, h.free 8⟩
theorem Blk.fr10 {b : Nat} {t : TypeId} {cs : Array Value} (h : Blk w b t cs) : w.frozen? ⟨b, 0, none⟩ = false ∧ w.frozen? ⟨b, 1, none⟩ = false ∧ w.frozen? ⟨b, 2, none⟩ = false ∧ w.frozen? ⟨b, 3, none⟩ = false ∧ w.frozen? ⟨b, 4, none⟩ = false ∧ w.frozen? ⟨b, 5, none⟩ = false ∧ w.frozen? ⟨b, 6, none⟩ = false ∧ w.frozen? ⟨b, 7, none⟩ = false ∧ w.frozen? ⟨b, 8, none⟩ = false ∧ w.frozen? ⟨b, 9, none⟩ = false := ⟨h.free 0, h.free 1, h.free 2, h.free 3, h.free 4, h.free 5, h.free 6, h.free 7, h.free 8, h.free 9⟩
theorem Blk.fr11 {b : Nat} {t : TypeId} {cs : Array Value} (h : Blk w b t cs) : w.frozen? ⟨b, 0, none⟩ = false ∧ w.frozen? ⟨b, 1, none⟩ = false ∧ w.frozen? ⟨b, 2, none⟩ = false ∧ w.frozen? ⟨b, 3, none⟩ = false ∧ w.frozen? ⟨b, 4, none⟩ = false ∧ w.frozen? ⟨b, 5, none⟩ = false ∧ w.frozen? ⟨b, 6, none⟩ = false ∧ w.frozen? ⟨b, 7, none⟩ = false ∧ w.frozen? ⟨b, 8, none⟩ = false ∧ w.frozen? ⟨b, 9, none⟩ = false ∧ w.frozen? ⟨b, 10, none⟩ = false := ⟨h.free 0, h.free 1, h.free 2, h.free 3, h.free 4, h.free 5, h.free 6, h.free 7, h.free 8, h.free 9, h.free 10⟩
theorem Blk.fr12 {b : Nat} {t : TypeId} {cs : Array Value} (h : Blk w b t cs) : w.frozen? ⟨b, 0, none⟩ = false ∧ w.frozen? ⟨b, 1, none⟩ = false ∧ w.frozen? ⟨b, 2, none⟩ = false ∧ w.frozen? ⟨b, 3, none⟩ = false ∧ w.frozen? ⟨b, 4, none⟩ = false ∧ w.frozen? ⟨b, 5, none⟩ = false ∧ w.frozen? ⟨b, 6, none⟩ = false ∧ w.frozen? ⟨b, 7, none⟩ = false ∧ w.frozen? ⟨b, 8, none⟩ = false ∧ w.frozen? ⟨b, 9, none⟩ = false ∧ w.frozen? ⟨b, 10, none⟩ = false ∧ w.frozen? ⟨b, 11, none⟩ = false := ⟨h.free 0, h.free 1, h.free 2, h.free 3, h.free 4, h.free 5, h.free 6, h.free 7, h.free 8, h.free 9, h.free 10, h.free 11⟩
theorem Blk.fr13 {b : Nat} {t : TypeId} {cs : Array Value} (h : Blk w b t cs) : w.frozen? ⟨b, 0, none⟩ = false ∧ w.frozen? ⟨b, 1, none⟩ = false ∧ w.frozen? ⟨b, 2, none⟩ = false ∧ w.frozen? ⟨b, 3, none⟩ = false ∧ w.frozen? ⟨b, 4, none⟩ = false ∧ w.frozen? ⟨b, 5, none⟩ = false ∧ w.frozen? ⟨b, 6, none⟩ = false ∧ w.frozen? ⟨b, 7, none⟩ = false ∧ w.frozen? ⟨b, 8, none⟩ = false ∧ w.frozen? ⟨b, 9, none⟩ = false ∧ w.frozen? ⟨b, 10, none⟩ = false ∧ w.frozen? ⟨b, 11, none⟩ = false ∧ w.frozen? ⟨b, 12, none⟩ = false := ⟨h.free 0, h.free 1, h.free 2, h.free 3, h.free 4, h.free 5, h.free 6, h.free 7, h.free 8, h.free 9, h.free 10, h.free 11, h.free 12⟩
end
end Go.Proofs.Ytohidmkfpaiklaa
/- A slice of slices that comes in: each row as a slice that comes in. No program is named here. -/
namespace Go.Proofs.Ytohidmkfpaiklaa
open Go.ChangeShapes Go.WideShapes Go.ChangeAt Go.RowKit

structure RowV (E : Type) where
  a : Option Addr
  len : Nat
  cap : Nat
  zs : List E
def RowV.cells {E : Type} (r : RowV E) : List Value := [.slice r.a r.len r.cap]

theorem ArgOf.openRows {H : Type} {enc : TypeId × Value → H} {P : Program} {w : World} {t e1 e2 : TypeId} {a : Option Addr} {len cap : Nat} {d : DataW H} {p : List MemPlace}
    {E : Type} {OK : World → Option Addr → Nat → Nat → List E → Prop}
    (ht : P.underlying t = some (.slice e1)) (he : P.underlying e1 = some (.slice e2)) (hc : P.cellsOf e1 = 1)
    (inner : ∀ (a : Option Addr) (len cap : Nat) (d : DataW H) (p : List MemPlace), DataW.Trod enc P w 0 (fun _ => true) true e1 (.slice a len cap) d p → ∃ zs : List E, OK w a len cap zs)
    (h : DataW.Trod enc P w 0 (fun _ => true) true t (.slice a len cap) d p) :
    ∃ rows : List (RowV E), ArgOf RowV.cells 1 (fun r => OK w r.a r.len r.cap r.zs) w a len cap rows := by
  obtain ⟨fuel, hf⟩ := h
  rcases Go.Deep.open_slice1 ht hc hf with ⟨hcs, _⟩ | ⟨ad, l, c, m, n, V, D, Pl, hcs, hb, hl, hm, hmm, _, hi⟩
  · simp [Value.cells] at hcs
    obtain ⟨rfl, rfl, rfl⟩ := hcs
    exact ⟨[], rfl, Nat.le_refl _, Nat.zero_le _, by simp, .inl rfl⟩
  · simp [Value.cells] at hcs
    obtain ⟨rfl, rfl, rfl⟩ := hcs
    have hmc : m = cap := by simpa using hmm
    have each : ∀ i, i < len → ∃ r : RowV E, OK w r.a r.len r.cap r.zs ∧ w.cell? (ad.add i) = some (.slice r.a r.len r.cap) := by
      intro i hil
      obtain ⟨hc', ht'⟩ := hi i (by omega)
      rcases Go.Deep.open_slice he ht' with ⟨h1, _⟩ | ⟨a', l', c', _, _, _, _, h1, _⟩
      · injection h1 with h1
        rw [h1] at hc' ht'
        obtain ⟨zs, hz⟩ := inner none 0 0 _ _ ⟨n, ht'⟩
        exact ⟨⟨none, 0, 0, zs⟩, hz, hc'⟩
      · injection h1 with h1
        rw [h1] at hc' ht'
        obtain ⟨zs, hz⟩ := inner (some a') l' c' _ _ ⟨n, ht'⟩
        exact ⟨⟨some a', l', c', zs⟩, hz, hc'⟩
    obtain ⟨zs, hzl, hzr⟩ := list_of_each (fun i (r : RowV E) => OK w r.a r.len r.cap r.zs ∧ w.cell? (ad.add i) = some (.slice r.a r.len r.cap)) len each
    refine ⟨zs, hzl, hl, hm, fun x hx => ?_, ?_⟩
    · obtain ⟨i, hi, rfl⟩ := List.getElem_of_mem hx
      exact (hzr i _ (List.getElem?_eq_getElem hi)).1
    · rcases Nat.eq_zero_or_pos len with h0 | h0
      · left
        exact List.eq_nil_of_length_eq_zero (by omega)
      · right
        obtain ⟨b, off, spot⟩ := ad
        have hx0 : zs[0]? = some (zs[0]'(by omega)) := List.getElem?_eq_getElem (by omega)
        have h00 := (hzr 0 _ hx0).2
        have hspot : spot = none := by simpa [Addr.add] using World.cell?_spot h00
        subst hspot
        refine ⟨b, off, rfl, ?_, fun i x hx j u hu => ?_⟩
        · have := World.block_lt_of_cell? w _ h00
          simpa [Addr.add] using this
        · have h1 := (hzr i x hx).2
          rw [Go.WideShapes.add_plain] at h1
          match j, hu with
          | 0, hu =>
            simp [RowV.cells] at hu
            subst hu
            rw [Nat.mul_one, Nat.add_zero]
            exact h1
          | j + 1, hu => simp [RowV.cells] at hu
end Go.Proofs.Ytohidmkfpaiklaa
