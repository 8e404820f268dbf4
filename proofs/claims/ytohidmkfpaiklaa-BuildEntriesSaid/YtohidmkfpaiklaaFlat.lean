/- Cells of elements that all have as many: how the cells of a row of structs lie. No program is named here. -/
import Derived.Test.YtohidmkfpaiklaaMem
import Derived.Laws.MakeOwn
namespace Go.Proofs.Ytohidmkfpaiklaa
open Go.RowKit

section
variable {E : Type} {f : E → List Value} {z : Nat}
theorem flat_len (hz : ∀ x, (f x).length = z) : ∀ l : List E, (l.flatMap f).length = l.length * z
  | [] => by simp
  | x :: l => by rw [List.flatMap_cons, List.length_append, hz, flat_len hz l, List.length_cons, Nat.succ_mul, Nat.add_comm]
theorem flat_get (hz : ∀ x, (f x).length = z) : ∀ (l : List E) (i : Nat) (x : E) (j : Nat), l[i]? = some x → j < z → (l.flatMap f)[i * z + j]? = (f x)[j]?
  | [], i, x, j, h, _ => by simp at h
  | y :: l, 0, x, j, h, hj => by
    simp at h
    subst h
    rw [List.flatMap_cons, Nat.zero_mul, Nat.zero_add, List.getElem?_append_left (by rw [hz]; exact hj)]
  | y :: l, i + 1, x, j, h, hj => by
    simp at h
    rw [List.flatMap_cons, List.getElem?_append_right (by rw [hz, Nat.succ_mul]; omega), hz, show (i + 1) * z + j - z = i * z + j by rw [Nat.succ_mul]; omega]
    exact flat_get hz l i x j h hj
theorem div_lt_of {k n z : Nat} (h : k < n * z) : k / z < n := Nat.div_lt_of_lt_mul (by rw [Nat.mul_comm]; exact h)
theorem flat_ext (hz : ∀ x, (f x).length = z) (L : List Value) (l : List E) (hl : L.length = l.length * z) (h : ∀ i x j, l[i]? = some x → j < z → L[i * z + j]? = (f x)[j]?) : L = l.flatMap f := by
  apply List.ext_getElem?
  intro k
  rcases Nat.lt_or_ge k (l.length * z) with hk | hk
  · have hz0 : 0 < z := by
      rcases Nat.eq_zero_or_pos z with h0 | h0
      · subst h0; simp at hk
      · exact h0
    have hi := div_lt_of hk
    have hx : l[k / z]? = some (l[k / z]'hi) := List.getElem?_eq_getElem hi
    have e := Nat.div_add_mod' k z
    have hm := Nat.mod_lt k hz0
    rw [← e, h _ _ _ hx hm, flat_get hz l _ _ _ hx hm]
  · rw [List.getElem?_eq_none (by omega), List.getElem?_eq_none (by rw [flat_len hz]; omega)]
/-- One element was replaced. -/
theorem flat_put (hz : ∀ x, (f x).length = z) (L : List Value) (l : List E) (i : Nat) (x' : E) (hl : L.length = l.length * z) (hi : i < l.length)
    (h1 : ∀ j, j < z → L[i * z + j]? = (f x')[j]?) (h2 : ∀ k, k < i * z ∨ i * z + z ≤ k → L[k]? = (l.flatMap f)[k]?) : L = (l.set i x').flatMap f := by
  refine flat_ext hz L _ (by rw [List.length_set]; exact hl) fun k x j hk hj => ?_
  by_cases hik : i = k
  · subst hik
    rw [List.getElem?_set_self hi] at hk
    injection hk with hk
    subst hk
    exact h1 j hj
  · rw [List.getElem?_set_ne hik] at hk
    rw [h2 _ ?_, flat_get hz l k x j hk hj]
    rcases Nat.lt_or_ge k i with h | h
    · left
      have := Nat.mul_le_mul_right z (show k + 1 ≤ i from h)
      rw [Nat.succ_mul] at this
      omega
    · right
      have := Nat.mul_le_mul_right z (show i + 1 ≤ k by omega)
      rw [Nat.succ_mul] at this
      omega
/-- A made row of elements. -/
theorem made_flat (hz : ∀ x, (f x).length = z) (cs : Array Value) (x : E) (h : f x = cs.toList) (N : Nat) : madeCells cs (N * z) = ((List.replicate N x).flatMap f).toArray := by
  apply Array.ext'
  have hcz : cs.size = z := by have := hz x; rw [h] at this; simpa using this
  refine flat_ext hz _ _ (by simp [madeCells]) fun i y j hi hj => ?_
  have hiN : i < N := by have := (List.getElem?_eq_some_iff.1 hi).1; simpa using this
  have hx : y = x := by
    rw [List.getElem?_replicate, if_pos hiN] at hi
    exact (Option.some.inj hi).symm
  subst hx
  have hlt : i * z + j < N * z := by
    have := Nat.mul_le_mul_right z (show i + 1 ≤ N from hiN)
    rw [Nat.succ_mul] at this
    omega
  have hm : (i * z + j) % z = j := by rw [Nat.mul_comm, Nat.mul_add_mod, Nat.mod_eq_of_lt hj]
  have hjc : j < cs.size := by omega
  rw [h]
  simp only [madeCells, Array.toList_map, Array.toList_range, List.getElem?_map, List.getElem?_range hlt, Option.map_some, hcz, hm, Array.getElem?_toList]
  rw [Array.getElem?_eq_getElem hjc, getElem!_pos cs j hjc]
theorem flat_snoc (l : List E) (x : E) : (l ++ [x]).flatMap f = l.flatMap f ++ f x := by simp
end
end Go.Proofs.Ytohidmkfpaiklaa
/- Layer 2's arena, plainly: its slots, and what its calls tell. No program is named here. -/
namespace Go.Proofs.Ytohidmkfpaiklaa
open Go.RowKit

structure ArS where
  first : Int
  slots : List (Int × Bool)
  stale : Bool
  double : Bool

def slotOf (h : Int) : Int := if h < 0 then 0 else h % 65536
def ArS.has (α : ArS) (s : Int) : Bool := decide (1 ≤ s) && decide (s ≤ α.slots.length)
def ArS.at_ (α : ArS) (s : Int) : Int × Bool := α.slots.getD (s - 1).toNat (0, false)
def ArS.cell (α : ArS) (h word : Int) : Int := if (α.has (slotOf h) && (decide (0 ≤ word) && decide (word < 28))) = true then α.first + (slotOf h - 1) * 28 + word else -1
def hand (g s : Int) : Int := wrap64 (g * 65536 + s)
def ArS.handle (α : ArS) (s : Int) : Int := hand (α.at_ s).1 s
def ArS.right (α : ArS) (h : Int) : Bool := α.has (slotOf h) && (α.at_ (slotOf h)).2 && (α.handle (slotOf h) == h)
def ArS.touch (α : ArS) (h : Int) : ArS := if α.right h = true then α else { α with stale := true }
def ArS.put (α : ArS) (s : Int) (p : Int × Bool) : ArS := { α with slots := α.slots.set (s - 1).toNat p }
def ArS.born (α : ArS) (s : Int) : Int × ArS :=
  if α.has s = true then (hand (wrap64 ((α.at_ s).1 + 1)) s, { α.put s (wrap64 ((α.at_ s).1 + 1), true) with double := α.double || (α.at_ s).2 }) else (0, α)
def ArS.died (α : ArS) (h : Int) : ArS := if α.right h = true then α.put (slotOf h) ((α.at_ (slotOf h)).1, false) else { α with double := true }
def capA (n hi : Int) : Int := if n < 0 then 0 else if hi < n then hi else n
def ArS.new (first n : Int) : ArS := ⟨capA first 65536, List.replicate (capA n 1000).toNat (0, false), false, false⟩

def stOf (p : Int × Bool) : List Value := [.int .i64 p.1, .bool p.2]
theorem stOf_len (p : Int × Bool) : (stOf p).length = 2 := rfl
def stCells (l : List (Int × Bool)) : Array Value := (l.flatMap stOf).toArray

theorem slotOf_lo (h : Int) : 0 ≤ slotOf h ∧ slotOf h < 65536 := by unfold slotOf; split <;> omega
theorem ArS.has_iff {α : ArS} {s : Int} (h : α.has s = true) : ∃ k : Nat, s = k + 1 ∧ k < α.slots.length := by
  simp only [ArS.has, Bool.and_eq_true, decide_eq_true_eq] at h
  exact ⟨(s - 1).toNat, by omega, by omega⟩
theorem ArS.has_not {α : ArS} {s : Int} (h : α.has s = false) : s < 1 ∨ (α.slots.length : Int) < s := by
  simp only [ArS.has, Bool.and_eq_false_iff, decide_eq_false_iff_not] at h
  omega
theorem ArS.at_succ (α : ArS) (k : Nat) : α.at_ (k + 1) = α.slots.getD k (0, false) := by
  unfold ArS.at_
  rw [show ((k : Int) + 1 - 1).toNat = k by omega]
theorem stCells_size (l : List (Int × Bool)) : (stCells l).size = l.length * 2 := by
  unfold stCells
  rw [List.size_toArray]
  exact flat_len stOf_len l
theorem stCells_gen {l : List (Int × Bool)} {k : Nat} (h : k < l.length) : (stCells l)[k * 2]? = some (.int .i64 (l.getD k (0, false)).1) := by
  unfold stCells
  have := flat_get stOf_len l k (l.getD k (0, false)) 0 (by simp [h]) (by omega)
  simpa [stOf] using this
theorem stCells_live {l : List (Int × Bool)} {k : Nat} (h : k < l.length) : (stCells l)[k * 2 + 1]? = some (.bool (l.getD k (0, false)).2) := by
  unfold stCells
  have := flat_get stOf_len l k (l.getD k (0, false)) 1 (by simp [h]) (by omega)
  simpa [stOf] using this
theorem stCells_put_live {l : List (Int × Bool)} {k : Nat} (h : k < l.length) (b : Bool) : (stCells l).setIfInBounds (k * 2 + 1) (.bool b) = stCells (l.set k ((l.getD k (0, false)).1, b)) := by
  unfold stCells
  apply Array.ext'
  rw [Array.toList_setIfInBounds]
  induction l generalizing k with
  | nil => simp at h
  | cons p l ih =>
    cases k with
    | zero => simp [stOf]
    | succ k =>
      have := ih (k := k) (by simpa using h)
      simp only [List.flatMap_cons, List.set_cons_succ, List.getD_cons_succ]
      rw [show (k + 1) * 2 + 1 = (stOf p).length + (k * 2 + 1) by simp [stOf]; omega, List.set_append_right _ _ (by omega), show (stOf p).length + (k * 2 + 1) - (stOf p).length = k * 2 + 1 by omega]
      simp only at this
      rw [this]
theorem stCells_put_gen {l : List (Int × Bool)} {k : Nat} (h : k < l.length) (g : Int) : (stCells l).setIfInBounds (k * 2) (.int .i64 g) = stCells (l.set k (g, (l.getD k (0, false)).2)) := by
  unfold stCells
  apply Array.ext'
  rw [Array.toList_setIfInBounds]
  induction l generalizing k with
  | nil => simp at h
  | cons p l ih =>
    cases k with
    | zero => simp [stOf]
    | succ k =>
      have := ih (k := k) (by simpa using h)
      simp only [List.flatMap_cons, List.set_cons_succ, List.getD_cons_succ]
      rw [show (k + 1) * 2 = (stOf p).length + k * 2 by simp [stOf]; omega, List.set_append_right _ _ (by omega), show (stOf p).length + k * 2 - (stOf p).length = k * 2 by omega]
      simp only at this
      rw [this]
theorem bits_low (h : Int) (h0 : 0 ≤ h) (h1 : h < 9223372036854775808) : bits .and .i64 h 65535 = h % 65536 := by
  obtain ⟨n, rfl⟩ := Int.eq_ofNat_of_zero_le h0
  simp only [bits]
  have e : (BitVec.ofInt IntKind.i64.bits (n : Int) &&& BitVec.ofInt IntKind.i64.bits 65535).toNat = n % 65536 := by
    rw [BitVec.toNat_and]
    have a : (BitVec.ofInt IntKind.i64.bits (n : Int)).toNat = n := by
      rw [BitVec.toNat_ofInt]
      show ((n : Int) % (18446744073709551616 : Nat)).toNat = n
      omega
    have b : (BitVec.ofInt IntKind.i64.bits 65535).toNat = 2 ^ 16 - 1 := rfl
    rw [a, b, Nat.and_two_pow_sub_one_eq_mod]
  rw [e, IntKind.wrap_i64]
  omega
theorem bits_or_low (g s : Int) (h0 : 0 ≤ s) (h1 : s < 65536) : bits .or .i64 (IntKind.i64.wrap (g * 65536)) s = hand g s := by
  obtain ⟨n, rfl⟩ := Int.eq_ofNat_of_zero_le h0
  simp only [bits]
  obtain ⟨m, hm⟩ : ∃ m : Nat, (IntKind.i64.wrap (g * 65536)) % 18446744073709551616 = (65536 * m : Nat) := by
    rw [IntKind.wrap_i64]
    exact ⟨((g * 65536 % 18446744073709551616) / 65536).toNat, by omega⟩
  have e : (BitVec.ofInt IntKind.i64.bits (IntKind.i64.wrap (g * 65536)) ||| BitVec.ofInt IntKind.i64.bits (n : Int)).toNat = 65536 * m + n := by
    rw [BitVec.toNat_or]
    have a : (BitVec.ofInt IntKind.i64.bits (IntKind.i64.wrap (g * 65536))).toNat = 2 ^ 16 * m := by
      rw [BitVec.toNat_ofInt]
      show (IntKind.i64.wrap (g * 65536) % (18446744073709551616 : Nat)).toNat = _
      rw [show ((18446744073709551616 : Nat) : Int) = 18446744073709551616 from rfl, hm]
      omega
    have b : (BitVec.ofInt IntKind.i64.bits (n : Int)).toNat = n := by
      rw [BitVec.toNat_ofInt]
      show ((n : Int) % (18446744073709551616 : Nat)).toNat = n
      omega
    rw [a, b, ← Nat.two_pow_add_eq_or_of_lt (show n < 2 ^ 16 by omega)]
  rw [e]
  unfold hand wrap64
  rw [IntKind.wrap_i64] at hm ⊢
  omega
end Go.Proofs.Ytohidmkfpaiklaa
