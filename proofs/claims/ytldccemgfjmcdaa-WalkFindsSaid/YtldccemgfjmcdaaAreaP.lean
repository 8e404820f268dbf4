/- Layer 15: areas and their words, in plain Lean. -/
import Derived.Test.YtldccemgfjmcdaaSlotP
namespace Go.Proofs.Ytldccemgfjmcdaa
set_option linter.unusedSimpArgs false
set_option linter.unusedVariables false

@[ext] structure AreaV where
  start : Int
  stop : Int
  prot : Int
  shared : Bool
  back : Int
  off : Int
  deriving DecidableEq
def AreaV.formedB (a : AreaV) : Bool := decide (a.start % 4096 = 0 ∧ a.stop % 4096 = 0 ∧ 65536 ≤ a.start ∧ a.stop ≤ 2097152 ∧ a.start < a.stop ∧ 0 ≤ a.prot ∧ a.prot ≤ 7 ∧ 0 ≤ a.back ∧ a.back ≤ 9 ∧ (a.back = 0 → a.off = 0) ∧ a.off % 4096 = 0 ∧ 0 ≤ a.off ∧ (a.back ≠ 0 → a.off ≤ 1099511627776 - (a.stop - a.start)))
theorem AreaV.formed_iff (a : AreaV) : a.formedB = true ↔ (a.start % 4096 = 0 ∧ a.stop % 4096 = 0 ∧ 65536 ≤ a.start ∧ a.stop ≤ 2097152 ∧ a.start < a.stop ∧ 0 ≤ a.prot ∧ a.prot ≤ 7 ∧ 0 ≤ a.back ∧ a.back ≤ 9 ∧ (a.back = 0 → a.off = 0) ∧ a.off % 4096 = 0 ∧ 0 ≤ a.off ∧ (a.back ≠ 0 → a.off ≤ 1099511627776 - (a.stop - a.start))) := by
  unfold AreaV.formedB
  rw [decide_eq_true_iff]
def numB (b : Bool) : Int := if b then 1 else 0
def AreaV.pack (a : AreaV) (dead : Bool) : List Int := [3, numB dead, a.start, a.stop, a.prot, numB a.shared, a.back, a.off] ++ zeros 20
theorem AreaV.pack_len (a : AreaV) (dead : Bool) : (a.pack dead).length = 28 := by simp [AreaV.pack, zeros]
def areaOf (xs : List Int) : AreaV := ⟨xs.getD 2 0, xs.getD 3 0, xs.getD 4 0, xs.getD 5 0 == 1, xs.getD 6 0, xs.getD 7 0⟩
def deadOf (xs : List Int) : Bool := xs.getD 1 0 == 1
/-- What UnpackArea makes of words. -/
def unpackA (xs : List Int) : Option (AreaV × Bool) := if xs.length = 28 ∧ (areaOf xs).formedB = true ∧ (areaOf xs).pack (deadOf xs) = xs then some (areaOf xs, deadOf xs) else none
theorem numB_one (b : Bool) : (numB b == 1) = b := by cases b <;> rfl
theorem areaOf_pack (a : AreaV) (dead : Bool) : areaOf (a.pack dead) = a := by
  obtain ⟨x1, x2, x3, x4, x5, x6⟩ := a
  simp [areaOf, AreaV.pack, numB_one]
theorem deadOf_pack (a : AreaV) (dead : Bool) : deadOf (a.pack dead) = dead := by simp [deadOf, AreaV.pack, numB_one]
theorem unpackA_pack {a : AreaV} (h : a.formedB = true) (dead : Bool) : unpackA (a.pack dead) = some (a, dead) := by
  unfold unpackA
  rw [areaOf_pack, deadOf_pack, if_pos ⟨a.pack_len dead, h, rfl⟩]
theorem unpackA_some {xs : List Int} {a : AreaV} {dead : Bool} (h : unpackA xs = some (a, dead)) : a.formedB = true ∧ a.pack dead = xs := by
  unfold unpackA at h
  split at h
  · rename_i hc
    simp only [Option.some.injEq, Prod.mk.injEq] at h
    obtain ⟨rfl, rfl⟩ := h
    exact ⟨hc.2.1, hc.2.2⟩
  · cases h
theorem unpackA_inj {xs ys : List Int} {p : AreaV × Bool} (h : unpackA xs = some p) (h' : unpackA ys = some p) : xs = ys := (unpackA_some (a := p.1) (dead := p.2) h).2.symm.trans (unpackA_some (a := p.1) (dead := p.2) h').2
theorem AreaV.pack_wf {a : AreaV} (h : a.formedB = true) (dead : Bool) : ∀ x ∈ a.pack dead, -9223372036854775808 ≤ x ∧ x ≤ 9223372036854775807 := by
  rw [AreaV.formed_iff] at h
  obtain ⟨h1, h2, h3, h4, h5, h6, h7, h8, h9, h10, h11, h12, h13⟩ := h
  have ho : a.off ≤ 1099511627776 := by
    by_cases hb : a.back = 0
    · rw [h10 hb]; omega
    · have := h13 hb; omega
  intro x hx
  have hn : ∀ b, 0 ≤ numB b ∧ numB b ≤ 1 := fun b => by cases b <;> decide
  have hn1 := hn dead
  have hn2 := hn a.shared
  simp only [AreaV.pack, List.mem_append, List.mem_cons, List.not_mem_nil, or_false] at hx
  rcases hx with (h0 | h0 | h0 | h0 | h0 | h0 | h0 | h0) | h0
  all_goals first | omega | (have := List.eq_of_mem_replicate h0; omega)
/-- A thing's words say whether it is a node or an area. -/
theorem node_or_area {xs : List Int} {n : NodeV} {p : AreaV × Bool} (h : unpackL xs = some n) (h' : unpackA xs = some p) : False := by
  obtain ⟨-, hf, hp⟩ := unpack_some h
  obtain ⟨-, hq⟩ := unpackA_some (a := p.1) (dead := p.2) h'
  obtain ⟨h1, h2, -⟩ := NodeV.formed_iff hf
  have e : n.pack.getD 0 0 = n.head := rfl
  have e' : (p.1.pack p.2).getD 0 0 = 3 := rfl
  rw [hp] at e
  rw [hq, e] at e'
  unfold NodeV.head at e'
  split at e' <;> omega
end Go.Proofs.Ytldccemgfjmcdaa
