/- A struct of slices of int64 that a call makes and appends to: its rows, side by side. -/
import Derived.Test.YtldccemgfjmcdaaSeekA
namespace Go.Proofs.Ytldccemgfjmcdaa
open Go.RowKit
set_option linter.unusedSimpArgs false
set_option linter.unusedVariables false

structure RowV3 where
  a : Option Addr
  cap : Nat
  xs : List Int
def RowV3.val (r : RowV3) : Value := .slice r.a r.xs.length r.cap
/-- The struct in block nb: the cells hd, and behind them the rows; all that is avoided lies apart. -/
structure RowsAt (w : World) (B nb : Nat) (ty : TypeId) (hd : List Value) (rows : List RowV3) (avoid : List Nat) : Prop where
  blk : Blk w nb ty (hd ++ rows.map RowV3.val).toArray
  own : ∀ r ∈ rows, w.ownsRow B 2 1 r.val r.xs.length (i64s r.xs)
  apart : ∀ (k l : Nat) (r q : RowV3), rows[k]? = some r → rows[l]? = some q → k ≠ l → ∀ b ∈ blockOf r.a, b ∉ blockOf q.a
  far : ∀ r ∈ rows, ∀ b ∈ blockOf r.a, b ∉ avoid
  nfar : nb ∉ avoid
  ty : ty ≠ 2
section
variable {w w' w4 : World} {B nb : Nat} {ty : TypeId} {hd : List Value} {rows : List RowV3} {avoid avoid' G : List Nat}
theorem RowsAt.lt (h : RowsAt w B nb ty hd rows avoid) : ∀ r ∈ rows, ∀ b ∈ blockOf r.a, b < w.heap.size := fun r hr b hb => ownsRow_blockLt (h.own r hr) b hb
theorem RowsAt.nb_notin (h : RowsAt w B nb ty hd rows avoid) : ∀ r ∈ rows, nb ∉ blockOf r.a := fun r hr => blk_notin (h.own r hr) h.blk (fun e => h.ty e.symm)
theorem RowsAt.upd (h : RowsAt w B nb ty hd rows avoid) (hu : Upd G w w') (hn : nb ∉ G) (hG : ∀ r ∈ rows, ∀ b ∈ blockOf r.a, b ∉ G) : RowsAt w' B nb ty hd rows avoid :=
  ⟨h.blk.upd hu hn, fun r hr => ownsRow_upd (h.own r hr) hu (hG r hr), h.apart, h.far, h.nfar, h.ty⟩
theorem RowsAt.thru (h : RowsAt w B nb ty hd rows avoid) (hb : Below w.heap.size w w') : RowsAt w' B nb ty hd rows avoid := h.upd (Upd.of_below hb (F := [])) (by simp) (by simp)
theorem RowsAt.keep {p : Pl} {F F' : List Nat} (h : RowsAt w B nb ty hd rows (p.all F)) (hk : Keeps w w' p F F') : RowsAt w' B nb ty hd rows (p.all F') := by
  refine ⟨h.blk.upd hk.1 h.nfar, fun r hr => ownsRow_upd (h.own r hr) hk.1 (h.far r hr), h.apart, fun r hr b hb => hk.notin (h.lt r hr b hb) (h.far r hr b hb), hk.notin h.blk.lt h.nfar, h.ty⟩
theorem RowsAt.field (h : RowsAt w B nb ty hd rows avoid) {k : Nat} {r : RowV3} (hr : rows[k]? = some r) : w.cell? ⟨nb, hd.length + k, none⟩ = some r.val := by
  refine h.blk.at_ ?_
  rw [List.getElem?_toArray, List.getElem?_append_right (by omega), Nat.add_sub_cancel_left, List.getElem?_map, hr]
  rfl
theorem i64s_snoc (xs : List Int) (v : Int) : i64s xs ++ [.int .i64 v] = i64s (xs ++ [v]) := by simp [i64s]
/-- One row grew by one, and its field was set. -/
theorem RowsAt.append (h : RowsAt w B nb ty hd rows avoid) {k : Nat} {r : RowV3} (hr : rows[k]? = some r) (o : Obj) {g cap' : Nat} {v : Int}
    (hown : w4.ownsRow B 2 1 (.slice (some ⟨g, 0, none⟩) (r.xs.length + 1) cap') (r.xs.length + 1) (i64s r.xs ++ [.int .i64 v])) (hgrow : (w.alloc o).grownBy w4 r.val.ownBlock) (hat : r.val.ownBlock = some g ∨ g = w.heap.size + 1)
    (hav : ∀ b ∈ avoid, b < w.heap.size) :
    RowsAt (w4.setCell ⟨nb, hd.length + k, none⟩ (.slice (some ⟨g, 0, none⟩) (r.xs.length + 1) cap')) B nb ty hd (rows.set k ⟨some ⟨g, 0, none⟩, cap', r.xs ++ [v]⟩) avoid ∧
      Upd (nb :: blockOf r.a) w (w4.setCell ⟨nb, hd.length + k, none⟩ (.slice (some ⟨g, 0, none⟩) (r.xs.length + 1) cap')) ∧
      w4.cell? ⟨nb, hd.length + k, none⟩ = some r.val ∧ w4.frozen? ⟨nb, hd.length + k, none⟩ = false := by
  have hmem : r ∈ rows := List.mem_of_getElem? hr
  have hkl : k < rows.length := (List.getElem?_eq_some_iff.1 hr).1
  have hu4 : Upd (blockOf r.a) w w4 := ((Upd.refl _ _).alloc o).grown hgrow (fun b hb => by
    left
    obtain ⟨A, cap, xs⟩ := r
    cases A with
    | none => simp [RowV3.val, Value.ownBlock] at hb
    | some a => simp [RowV3.val, Value.ownBlock] at hb; simp [blockOf, hb])
  have hg : g ∈ blockOf r.a ∨ g = w.heap.size + 1 := by
    rcases hat with e | e
    · left
      obtain ⟨A, cap, xs⟩ := r
      cases A with
      | none => simp [RowV3.val, Value.ownBlock] at e
      | some a => simp [RowV3.val, Value.ownBlock] at e; simp [blockOf, e]
    · exact .inr e
  have hnb := h.nb_notin r hmem
  have hgn : g ≠ nb := by
    rintro rfl
    rcases hg with e | e
    · exact hnb e
    · have := h.blk.lt; omega
  have h4 := h.blk.upd hu4 hnb
  have hput := h4.put (hd.length + k) (.slice (some ⟨g, 0, none⟩) (r.xs.length + 1) cap')
  refine ⟨⟨?_, ?_, ?_, ?_, h.nfar, h.ty⟩, (hu4.mono (by intro b hb; simp [hb])).put (.inl (by simp)) _, ?_, h4.free _⟩
  · have e : ((hd ++ rows.map RowV3.val).toArray).setIfInBounds (hd.length + k) (.slice (some ⟨g, 0, none⟩) (r.xs.length + 1) cap') = (hd ++ (rows.set k ⟨some ⟨g, 0, none⟩, cap', r.xs ++ [v]⟩).map RowV3.val).toArray := by
      apply Array.ext'
      rw [Array.toList_setIfInBounds]
      simp only [List.map_set]
      rw [List.set_append_right _ _ (by omega), Nat.add_sub_cancel_left]
      simp [RowV3.val]
    rw [e] at hput
    exact hput
  · intro q hq
    rcases List.mem_or_eq_of_mem_set hq with hq' | rfl
    · -- another row, or the old one (when it is the same)
      obtain ⟨l, hl⟩ := List.getElem?_of_mem hq
      by_cases hlk : l = k
      · subst hlk
        rw [List.getElem?_set_self hkl] at hl
        injection hl with hl
        subst hl
        have hf := ownsRow_far hown (p := ⟨nb, hd.length + l, none⟩) (by simp [blockOf]; exact fun e => hgn e.symm) (.slice (some ⟨g, 0, none⟩) (r.xs.length + 1) cap')
        rw [i64s_snoc] at hf
        simpa [RowV3.val] using hf
      · rw [List.getElem?_set_ne (by omega)] at hl
        have h5 := ownsRow_upd (h.own q hq') hu4 (h.apart l k q r hl hr hlk)
        exact ownsRow_far h5 (p := ⟨nb, hd.length + k, none⟩) (h.nb_notin q hq') _
    · have hf := ownsRow_far hown (p := ⟨nb, hd.length + k, none⟩) (by simp [blockOf]; exact fun e => hgn e.symm) (.slice (some ⟨g, 0, none⟩) (r.xs.length + 1) cap')
      rw [i64s_snoc] at hf
      simpa [RowV3.val] using hf
  · intro i l x y hx hy hil b hb hb2
    by_cases hik : i = k
    · subst hik
      rw [List.getElem?_set_self hkl] at hx
      injection hx with hx
      subst hx
      rw [List.getElem?_set_ne (by omega)] at hy
      simp only [blockOf, List.mem_singleton] at hb
      subst hb
      rcases hg with e | e
      · exact h.apart i l r y hr hy hil _ e hb2
      · have := h.lt y (List.mem_of_getElem? hy) _ hb2; omega
    · rw [List.getElem?_set_ne (by omega)] at hx
      by_cases hlk : l = k
      · subst hlk
        rw [List.getElem?_set_self hkl] at hy
        injection hy with hy
        subst hy
        simp only [blockOf, List.mem_singleton] at hb2
        subst hb2
        rcases hg with e | e
        · exact h.apart i l x r hx hr hil _ hb e
        · have := h.lt x (List.mem_of_getElem? hx) _ hb; omega
      · rw [List.getElem?_set_ne (by omega)] at hy
        exact h.apart i l x y hx hy hil b hb hb2
  · intro q hq b hb hav2
    rcases List.mem_or_eq_of_mem_set hq with hq' | rfl
    · exact h.far q hq' b hb hav2
    · simp only [blockOf, List.mem_singleton] at hb
      subst hb
      rcases hg with e | e
      · exact h.far r hmem _ e hav2
      · have := hav _ hav2; omega
  · refine h4.at_ ?_
    rw [List.getElem?_toArray, List.getElem?_append_right (by omega), Nat.add_sub_cancel_left, List.getElem?_map, hr]
    rfl
theorem RowsAt.off (h : RowsAt w B nb ty hd rows avoid) {r : RowV3} (hr : r ∈ rows) : r.val.ownBlock ≠ some nb := by
  intro e
  obtain ⟨A, cap, xs⟩ := r
  cases A with
  | none => simp [RowV3.val, Value.ownBlock] at e
  | some a => simp [RowV3.val, Value.ownBlock] at e; exact h.nb_notin _ hr (by simp [blockOf, e])
end
end Go.Proofs.Ytldccemgfjmcdaa
