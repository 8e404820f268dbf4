/- Cells of elements that all have as many: how the cells of a row of structs lie. No program is named here. -/
import Derived.Test.YtldccemgfjmcdaaMem
import Derived.Laws.MakeOwn
namespace Go.Proofs.Ytldccemgfjmcdaa
open Go.RowKit

section
variable {E : Type} {f : E → List Value} {z : Nat}
theorem flat_len (hz : ∀ x, (f x).length = z) : ∀ l : List E, (l.flatMap f).length = l.length * z
  | [] => by simp
  | x :: l => by rw [List.flatMap_cons, List.length_append, hz, flat_len hz l, List.length_cons, Nat.succ_mul, Nat.add_comm]
theorem flat_get (hz : ∀ x, (f x).length = z) : ∀ (l : List E) (i : Nat) (x : E) (j : Nat), l[i]? = some x → j < z → (l.flatMap f)[i * z + j]? = (f x)[j]?
  | [], i, x, j, h, _ => by simp at h
  | y :: l, 0, x, j, h, hj => by
    simp at h
    subst h
    rw [List.flatMap_cons, Nat.zero_mul, Nat.zero_add, List.getElem?_append_left (by rw [hz]; exact hj)]
  | y :: l, i + 1, x, j, h, hj => by
    simp at h
    rw [List.flatMap_cons, List.getElem?_append_right (by rw [hz, Nat.succ_mul]; omega), hz, show (i + 1) * z + j - z = i * z + j by rw [Nat.succ_mul]; omega]
    exact flat_get hz l i x j h hj
theorem div_lt_of {k n z : Nat} (h : k < n * z) : k / z < n := Nat.div_lt_of_lt_mul (by rw [Nat.mul_comm]; exact h)
theorem flat_ext (hz : ∀ x, (f x).length = z) (L : List Value) (l : List E) (hl : L.length = l.length * z) (h : ∀ i x j, l[i]? = some x → j < z → L[i * z + j]? = (f x)[j]?) : L = l.flatMap f := by
  apply List.ext_getElem?
  intro k
  rcases Nat.lt_or_ge k (l.length * z) with hk | hk
  · have hz0 : 0 < z := by
      rcases Nat.eq_zero_or_pos z with h0 | h0
      · subst h0; simp at hk
      · exact h0
    have hi := div_lt_of hk
    have hx : l[k / z]? = some (l[k / z]'hi) := List.getElem?_eq_getElem hi
    have e := Nat.div_add_mod' k z
    have hm := Nat.mod_lt k hz0
    rw [← e, h _ _ _ hx hm, flat_get hz l _ _ _ hx hm]
  · rw [List.getElem?_eq_none (by omega), List.getElem?_eq_none (by rw [flat_len hz]; omega)]
/-- One element was replaced. -/
theorem flat_put (hz : ∀ x, (f x).length = z) (L : List Value) (l : List E) (i : Nat) (x' : E) (hl : L.length = l.length * z) (hi : i < l.length)
    (h1 : ∀ j, j < z → L[i * z + j]? = (f x')[j]?) (h2 : ∀ k, k < i * z ∨ i * z + z ≤ k → L[k]? = (l.flatMap f)[k]?) : L = (l.set i x').flatMap f := by
  refine flat_ext hz L _ (by rw [List.length_set]; exact hl) fun k x j hk hj => ?_
  by_cases hik : i = k
  · subst hik
    rw [List.getElem?_set_self hi] at hk
    injection hk with hk
    subst hk
    exact h1 j hj
  · rw [List.getElem?_set_ne hik] at hk
    rw [h2 _ ?_, flat_get hz l k x j hk hj]
    rcases Nat.lt_or_ge k i with h | h
    · left
      have := Nat.mul_le_mul_right z (show k + 1 ≤ i from h)
      rw [Nat.succ_mul] at this
      omega
    · right
      have := Nat.mul_le_mul_right z (show i + 1 ≤ k by omega)
      rw [Nat.succ_mul] at this
      omega
/-- A made row of elements. -/
theorem made_flat (hz : ∀ x, (f x).length = z) (cs : Array Value) (x : E) (h : f x = cs.toList) (N : Nat) : madeCells cs (N * z) = ((List.replicate N x).flatMap f).toArray := by
  apply Array.ext'
  have hcz : cs.size = z := by have := hz x; rw [h] at this; simpa using this
  refine flat_ext hz _ _ (by simp [madeCells]) fun i y j hi hj => ?_
  have hiN : i < N := by have := (List.getElem?_eq_some_iff.1 hi).1; simpa using this
  have hx : y = x := by
    rw [List.getElem?_replicate, if_pos hiN] at hi
    exact (Option.some.inj hi).symm
  subst hx
  have hlt : i * z + j < N * z := by
    have := Nat.mul_le_mul_right z (show i + 1 ≤ N from hiN)
    rw [Nat.succ_mul] at this
    omega
  have hm : (i * z + j) % z = j := by rw [Nat.mul_comm, Nat.mul_add_mod, Nat.mod_eq_of_lt hj]
  have hjc : j < cs.size := by omega
  rw [h]
  simp only [madeCells, Array.toList_map, Array.toList_range, List.getElem?_map, List.getElem?_range hlt, Option.map_some, hcz, hm, Array.getElem?_toList]
  rw [Array.getElem?_eq_getElem hjc, getElem!_pos cs j hjc]
theorem flat_snoc (l : List E) (x : E) : (l ++ [x]).flatMap f = l.flatMap f ++ f x := by simp
end
end Go.Proofs.Ytldccemgfjmcdaa
