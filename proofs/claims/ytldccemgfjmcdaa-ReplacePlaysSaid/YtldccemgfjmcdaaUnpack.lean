/- Layer 15 (slot): Unpack, called alone. -/
import Derived.Test.YtldccemgfjmcdaaWords
import Derived.StillTailTactics
namespace Go.Proofs.Ytldccemgfjmcdaa
open Go.RowKit
set_option linter.unusedSimpArgs false
set_option linter.unusedVariables false

def noNode : Value := .agg #[.bool false, .int .i64 0, .slice none 0 0, .slice none 0 0, .slice none 0 0]
/-- What Unpack answers. -/
def UnpackPost (w : World) (xs : List Int) (e : Ending) (w' : World) : Prop := Below w.heap.size w w' ∧
  ((unpackL xs = none ∧ e = .returned (.tuple #[noNode, .bool false])) ∨ ∃ n, unpackL xs = some n ∧ ∃ g1 g2 g3 c1 c2 c3,
    e = .returned (.tuple #[.agg (nodeCells n.inner n.lo (some ⟨g1, 0, none⟩) (some ⟨g2, 0, none⟩) (some ⟨g3, 0, none⟩) n.ends.length n.slots.length n.gaps.length c1 c2 c3), .bool true]) ∧ w.heap.size ≤ g1 ∧ g1 < g2 ∧ g2 < g3 ∧
    Row w' 2 1 g1 n.ends.length c1 (i64s n.ends) ∧ Row w' 2 1 g2 n.slots.length c2 (i64s n.slots) ∧ Row w' 2 1 g3 n.gaps.length c3 (i64s n.gaps))
theorem headOk_false {xs : List Int} (h : headOk xs = false) : unpackL xs = none := by
  unfold unpackL
  rw [if_neg (by rw [h]; simp)]

theorem ArgInts.sub {w : World} {b o n c : Nat} {xs : List Int} (h : Ints w (some ⟨b, o, none⟩) n c xs) {i k : Nat} : ∀ j u, (((xs.drop i).take k).map (Value.int .i64))[j]? = some u → w.cell? ((⟨b, o + i, none⟩ : Addr).add j) = some u := by
  intro j u hu
  have hadd : (⟨b, o + i, none⟩ : Addr).add j = ⟨b, o + (i + j), none⟩ := by unfold Addr.add; split <;> simp_all; omega
  rw [hadd]
  rcases h.reads with h0 | ⟨b', off, ha, _, hc⟩
  · simp only [List.map_eq_nil_iff] at h0
    subst h0
    simp at hu
  · injection ha with ha
    injection ha with h1 h2
    subst h1 h2
    refine hc (i + j) u ?_
    rw [List.getElem?_map, List.getElem?_take] at hu
    split at hu
    · rw [List.getElem?_drop] at hu
      rw [List.getElem?_map]
      exact hu
    · simp at hu
theorem wf_sub {xs : List Int} (h : ∀ x ∈ xs, (Lit.int .i64 x).wf = true) (i k : Nat) : ∀ x ∈ (xs.drop i).take k, (Lit.int .i64 x).wf = true := fun x hx => h x (List.mem_of_mem_drop (List.mem_of_mem_take hx))
theorem sub_len {xs : List Int} (h : xs.length = 28) {i k : Nat} (hi : i + k ≤ 28) : ((xs.drop i).take k).length = k := by simp; omega
theorem zeros_wf (k : Nat) : ∀ x ∈ zeros k, (Lit.int .i64 x).wf = true := fun x hx => by rw [List.eq_of_mem_replicate hx]; rfl
theorem wf_of_bounds {x : Int} (h : -9223372036854775808 ≤ x ∧ x ≤ 9223372036854775807) : (Lit.int .i64 x).wf = true := WalkArith.wf_i64 h
theorem NodeR.pack_wf {w : World} {n : NodeV} {a1 a2 a3 : Option Addr} {c1 c2 c3 : Nat} (h : NodeR w n a1 a2 a3 c1 c2 c3) (hf : n.formedB = true) : ∀ x ∈ n.pack, (Lit.int .i64 x).wf = true := by
  obtain ⟨h1, h2, -⟩ := NodeV.formed_iff hf
  intro x hx
  simp only [NodeV.pack, List.mem_append, List.mem_cons, List.not_mem_nil, or_false] at hx
  rcases hx with (((((h0 | h0) | h0) | h0) | h0) | h0) | h0
  · rcases h0 with h0 | h0
    · subst h0
      refine wf_of_bounds ?_
      unfold NodeV.head
      split <;> omega
    · subst h0
      exact h.lo
  · exact h.e.wf x h0
  · exact zeros_wf _ x h0
  · exact h.s.wf x h0
  · exact zeros_wf _ x h0
  · exact h.g.wf x h0
  · exact zeros_wf _ x h0
theorem put5 {w : World} {b : Nat} {ty : TypeId} {a0 a1 a2 a3 a4 : Value} (h : Blk w b ty #[a0, a1, a2, a3, a4]) (v0 v1 v2 v3 v4 : Value) : Blk (((((w.setCell ⟨b, 0, none⟩ v0).setCell ⟨b, 1, none⟩ v1).setCell ⟨b, 2, none⟩ v2).setCell ⟨b, 3, none⟩ v3).setCell ⟨b, 4, none⟩ v4) b ty #[v0, v1, v2, v3, v4] :=
  ((((h.put 0 v0).put 1 v1).put 2 v2).put 3 v3).put 4 v4
theorem put5_below {B : Nat} {w w' : World} {b : Nat} (h : Below B w w') (hb : B ≤ b) (v0 v1 v2 v3 v4 : Value) : Below B w (((((w'.setCell ⟨b, 0, none⟩ v0).setCell ⟨b, 1, none⟩ v1).setCell ⟨b, 2, none⟩ v2).setCell ⟨b, 3, none⟩ v3).setCell ⟨b, 4, none⟩ v4) :=
  ((((h.setCell (p := ⟨b, 0, none⟩) hb v0).setCell (p := ⟨b, 1, none⟩) hb v1).setCell (p := ⟨b, 2, none⟩) hb v2).setCell (p := ⟨b, 3, none⟩) hb v3).setCell (p := ⟨b, 4, none⟩) hb v4
theorem put5_row {w : World} {b g : Nat} {ty : TypeId} {z n cap : Nat} {cs : List Value} (h : Row w ty z g n cap cs) (hb : g ≠ b) (v0 v1 v2 v3 v4 : Value) : Row (((((w.setCell ⟨b, 0, none⟩ v0).setCell ⟨b, 1, none⟩ v1).setCell ⟨b, 2, none⟩ v2).setCell ⟨b, 3, none⟩ v3).setCell ⟨b, 4, none⟩ v4) ty z g n cap cs :=
  ((((h.far (p := ⟨b, 0, none⟩) hb v0).far (p := ⟨b, 1, none⟩) hb v1).far (p := ⟨b, 2, none⟩) hb v2).far (p := ⟨b, 3, none⟩) hb v3).far (p := ⟨b, 4, none⟩) hb v4
end Go.Proofs.Ytldccemgfjmcdaa
