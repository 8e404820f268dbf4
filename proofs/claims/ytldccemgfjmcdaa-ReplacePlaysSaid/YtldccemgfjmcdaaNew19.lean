/- Layer 19: the land at first. -/
import Derived.Test.YtldccemgfjmcdaaDo19
import Derived.Test.YtldccemgfjmcdaaLaw15
namespace Go.Proofs.Ytldccemgfjmcdaa
open Go.RowKit
set_option linter.unusedSimpArgs false
set_option linter.unusedVariables false

/-- A memory's cells, one by one. -/
def MemIs (μ : MemS) (len : Nat) (f : Nat → Int) : Prop := μ.cells.length = len ∧ ∀ k, k < len → μ.cells.getD k 0 = f k
def upd1 (f : Nat → Int) (i : Nat) (v : Int) : Nat → Int := fun k => if k = i then v else f k
theorem MemIs.store {μ : MemS} {len : Nat} {f : Nat → Int} (h : MemIs μ len f) {i : Nat} (hi : i < len) (v : Int) : MemIs (μ.store (i : Int) v).2 len (upd1 f i v) := by
  have hh : μ.has (i : Int) = true := by
    unfold MemS.has
    rw [h.1]
    simp only [Bool.and_eq_true, decide_eq_true_eq]
    omega
  unfold MemS.store
  rw [if_pos hh]
  simp only [MemS.set, MemS.tick, Int.toNat_natCast]
  refine ⟨by rw [List.length_set]; exact h.1, fun k hk => ?_⟩
  unfold upd1
  by_cases hki : k = i
  · subst hki
    rw [if_pos rfl]
    simp [List.getD_eq_getElem?_getD, h.1, hk]
  · rw [if_neg hki, ← h.2 k hk]
    simp only [List.getD_eq_getElem?_getD]
    rw [List.getElem?_set_ne (fun e => hki e.symm)]
theorem MemIs.load {μ : MemS} {len : Nat} {f : Nat → Int} (h : MemIs μ len f) {i : Nat} (hi : i < len) : (μ.load (i : Int)).1 = f i ∧ MemIs (μ.load (i : Int)).2.2 len f := by
  have hh : μ.has (i : Int) = true := by
    unfold MemS.has
    rw [h.1]
    simp only [Bool.and_eq_true, decide_eq_true_eq]
    omega
  unfold MemS.load
  rw [if_pos hh]
  refine ⟨?_, h.1, h.2⟩
  simp only [MemS.get, Int.toNat_natCast]
  exact h.2 i hi
theorem MemIs.ext {μ : MemS} {len : Nat} {f g : Nat → Int} (h : MemIs μ len f) (e : ∀ k, k < len → f k = g k) : MemIs μ len g := ⟨h.1, fun k hk => (h.2 k hk).trans (e k hk)⟩
theorem MemIs.zero (len : Nat) (c : Int) : MemIs ⟨List.replicate len 0, c⟩ len fun _ => 0 := ⟨by simp, fun k hk => by simp [List.getD_eq_getElem?_getD, hk]⟩
def capL (n : Int) : Nat := (if n < 1 then 1 else if 1000 < n then 1000 else n).toNat
theorem capL_lo (n : Int) : 1 ≤ capL n ∧ capL n ≤ 1000 := by unfold capL; split <;> (try split) <;> omega
def wholeN : NodeV := ⟨false, 65536, [2097152], [0], [2031616]⟩
/-- The land's cells at first. -/
def newF (N : Nat) (k : Nat) : Int :=
  if k = 2 then 65537 else if k = 3 then 65536 else if k = 21 then (if 2 ≤ N then 2 else 0) else if k < 24 + 2 * N then 0
  else if k < 24 + 2 * N + 28 then (if k = 24 + 2 * N + 27 then 1 else wholeN.pack.getD (k - (24 + 2 * N)) 0)
  else if (k - (24 + 2 * N)) % 28 = 0 then (if (k - (24 + 2 * N)) / 28 + 1 = N then 0 else (((k - (24 + 2 * N)) / 28 + 2 : Nat) : Int)) else 0
def newA (N : Nat) : ArS := ⟨24 + 2 * (N : Int), (1, true) :: List.replicate (N - 1) (0, false), false, false⟩
/-- A land, as New leaves it. -/
structure NewLand (w : World) (B lb m c a b N : Nat) : Prop where
  land : ∃ σ, LandAt w m c a b σ ∧ MemIs σ.mu (24 + 30 * N) (newF N) ∧ σ.ar = newA N
  top : LandB w lb m a N
  new : B ≤ lb ∧ B ≤ m ∧ B ≤ c ∧ B ≤ a ∧ B ≤ b
  apart : lb ∉ [m, c, a, b]
theorem replace_next (i N : Nat) (hi : i ≤ 1000) (w : World) : Calls Try.prog 70 #[.int .i64 i, .int .i64 N] w fun e w' => e = .returned (.int .i64 (if i = N then 0 else ((i + 1 : Nat) : Int))) ∧ w' = w := by
  by_cases h : i = N
  · subst h
    rw [if_pos rfl]
    go_enter Try.func70, Try.ntmps70
    go_wp2
    go_ret
    exact ⟨rfl, rfl⟩
  · rw [if_neg h]
    have hb : ((i : Int) == (N : Int)) = false := by rw [beq_eq_false_iff_ne]; omega
    have hc : ((i + 1 : Nat) : Int) = (i : Int) + 1 := by omega
    have HC := Lib.hid hc
    clear h hc
    go_enter Try.func70, Try.ntmps70
    go_wp2
    go_ret
    exact ⟨by rw [HC.out]; rfl, rfl⟩
/-- The land that is being made. -/
structure MkLand (w wr : World) (lb m c a b N : Nat) (μ : MemS) (α : ArS) : Prop where
  low : Below w.heap.size w wr
  mem : MemAt wr m c μ
  wm : WfM μ
  ar : ArAt wr a b α
  top : LandB wr lb m a N
  new : w.heap.size ≤ lb ∧ w.heap.size ≤ m ∧ w.heap.size ≤ c ∧ w.heap.size ≤ a ∧ w.heap.size ≤ b
  apart : lb ∉ [m, c, a, b]
section
variable {w wr w' : World} {lb m c a b N : Nat} {μ : MemS} {α : ArS}
theorem MkLand.thru (h : MkLand w wr lb m c a b N μ α) (hb : Below wr.heap.size wr w') : MkLand w w' lb m c a b N μ α := ⟨below_thru h.low hb, MemAt.below h.mem hb h.mem.1.lt h.mem.2.1.lt, h.wm, h.ar.thru hb, Blk.thru h.top hb, h.new, h.apart⟩
theorem MkLand.st (h : MkLand w wr lb m c a b N μ α) {i v : Int} (hv : WfI v) (hm : MemAt w' m c (μ.store i v).2) (hu : Upd [m, c] wr w') : MkLand w w' lb m c a b N (μ.store i v).2 α := by
  have hp := h.apart
  simp only [List.mem_cons, List.not_mem_nil, or_false, not_or] at hp
  refine ⟨below_upd h.low hu (Nat.le_refl _) ?_, hm, store_wf h.wm hv i, h.ar.upd hu ?_ ?_, Blk.upd h.top hu (by simp [hp.1, hp.2.1]), h.new, h.apart⟩
  · intro x hx
    simp only [List.mem_cons, List.not_mem_nil, or_false] at hx
    rcases hx with rfl | rfl
    · exact h.new.2.1
    · exact h.new.2.2.1
  · have h1 := h.mem.1.ne_ h.ar.top (by decide)
    have h2 := h.mem.2.1.ne_ h.ar.top (by decide)
    simp only [List.mem_cons, List.not_mem_nil, or_false, not_or]
    exact ⟨fun e => h1 e.symm, fun e => h2 e.symm⟩
  · have h1 := h.mem.1.ne_ h.ar.row (by decide)
    have h2 := h.mem.2.1.ne_ h.ar.row (by decide)
    simp only [List.mem_cons, List.not_mem_nil, or_false, not_or]
    exact ⟨fun e => h1 e.symm, fun e => h2 e.symm⟩
end
/-- The cells behind i words; behind the root's; behind the slots 2 .. i - 1. -/
def F1 (N i : Nat) (k : Nat) : Int := if 24 + 2 * N ≤ k ∧ k < 24 + 2 * N + i then wholeN.pack.getD (k - (24 + 2 * N)) 0 else 0
def F2 (N : Nat) : Nat → Int := upd1 (upd1 (upd1 (F1 N 28) (24 + 2 * N + 27) 1) 2 65537) 3 65536
def F3 (N i : Nat) (k : Nat) : Int := if k = 21 ∧ 2 < i then 2 else if 24 + 2 * N + 28 ≤ k ∧ (k - (24 + 2 * N)) % 28 = 0 ∧ (k - (24 + 2 * N)) / 28 + 1 < i then (if (k - (24 + 2 * N)) / 28 + 1 = N then 0 else (((k - (24 + 2 * N)) / 28 + 2 : Nat) : Int)) else F2 N k
theorem F1_zero (N k : Nat) : F1 N 0 k = 0 := by unfold F1; rw [if_neg (by omega)]
theorem F1_step (N i : Nat) : ∀ k, upd1 (F1 N i) (24 + 2 * N + i) (wholeN.pack.getD i 0) k = F1 N (i + 1) k := by
  intro k
  unfold upd1 F1
  by_cases h : k = 24 + 2 * N + i
  · subst h
    rw [if_pos rfl, if_pos (by omega), show 24 + 2 * N + i - (24 + 2 * N) = i by omega]
  · rw [if_neg h]
    by_cases h2 : 24 + 2 * N ≤ k ∧ k < 24 + 2 * N + i
    · rw [if_pos h2, if_pos (by omega)]
    · rw [if_neg h2, if_neg (by omega)]
theorem F3_two (N : Nat) : ∀ k, F2 N k = F3 N 2 k := by
  intro k
  unfold F3
  rw [if_neg (by omega), if_neg (by omega)]
theorem F3_step (N i : Nat) (h2 : 2 ≤ i) (hi : i ≤ N) : ∀ k, upd1 (upd1 (F3 N i) (24 + 2 * N + 28 * (i - 1)) (if i = N then 0 else ((i + 1 : Nat) : Int))) 21 2 k = F3 N (i + 1) k := by
  intro k
  unfold upd1 F3
  by_cases h21 : k = 21
  · rw [if_pos h21, if_pos (by omega)]
  · rw [if_neg h21]
    have g1 : ¬ (k = 21 ∧ 2 < i) := by omega
    have g2 : ¬ (k = 21 ∧ 2 < i + 1) := by omega
    rw [if_neg g1, if_neg g2]
    by_cases hk : k = 24 + 2 * N + 28 * (i - 1)
    · have e1 : k - (24 + 2 * N) = 28 * (i - 1) := by omega
      rw [if_pos hk, e1, show 28 * (i - 1) / 28 = i - 1 by omega, show i - 1 + 1 = i by omega, show i - 1 + 2 = i + 1 by omega]
      have g3 : 24 + 2 * N + 28 ≤ k ∧ 28 * (i - 1) % 28 = 0 ∧ i < i + 1 := by omega
      rw [if_pos g3]
    · rw [if_neg hk]
      by_cases hc : 24 + 2 * N + 28 ≤ k ∧ (k - (24 + 2 * N)) % 28 = 0 ∧ (k - (24 + 2 * N)) / 28 + 1 < i
      · have g3 : 24 + 2 * N + 28 ≤ k ∧ (k - (24 + 2 * N)) % 28 = 0 ∧ (k - (24 + 2 * N)) / 28 + 1 < i + 1 := by omega
        rw [if_pos hc, if_pos g3]
      · have g3 : ¬ (24 + 2 * N + 28 ≤ k ∧ (k - (24 + 2 * N)) % 28 = 0 ∧ (k - (24 + 2 * N)) / 28 + 1 < i + 1) := by omega
        rw [if_neg hc, if_neg g3]
theorem F3_end (N : Nat) (hN : 1 ≤ N) : ∀ k, k < 24 + 30 * N → F3 N (N + 1) k = newF N k := by
  intro k hk
  by_cases h21 : k = 21
  · subst h21
    have r : newF N 21 = if 2 ≤ N then 2 else 0 := by
      unfold newF
      rw [if_neg (by omega), if_neg (by omega), if_pos rfl]
    rw [r]
    unfold F3
    by_cases h2 : 2 ≤ N
    · rw [if_pos (by omega), if_pos h2]
    · have g1 : ¬ (21 = 21 ∧ 2 < N + 1) := by omega
      rw [if_neg g1, if_neg h2, if_neg (by omega)]
      unfold F2 upd1 F1
      rw [if_neg (by omega), if_neg (by omega), if_neg (by omega), if_neg (by omega)]
  · have g1 : ¬ (k = 21 ∧ 2 < N + 1) := by omega
    unfold F3
    rw [if_neg g1]
    by_cases hc : 24 + 2 * N + 28 ≤ k ∧ (k - (24 + 2 * N)) % 28 = 0 ∧ (k - (24 + 2 * N)) / 28 + 1 < N + 1
    · rw [if_pos hc]
      have r : newF N k = if (k - (24 + 2 * N)) / 28 + 1 = N then 0 else (((k - (24 + 2 * N)) / 28 + 2 : Nat) : Int) := by
        unfold newF
        rw [if_neg (by omega), if_neg (by omega), if_neg h21, if_neg (by omega), if_neg (by omega), if_pos hc.2.1]
      rw [r]
    · rw [if_neg hc]
      unfold F2 upd1 F1
      by_cases h3 : k = 3
      · subst h3
        rw [if_pos rfl]
        unfold newF
        rw [if_neg (by omega), if_pos rfl]
      · rw [if_neg h3]
        by_cases h2 : k = 2
        · subst h2
          rw [if_pos rfl]
          unfold newF
          rw [if_pos rfl]
        · rw [if_neg h2]
          unfold newF
          rw [if_neg h2, if_neg h3, if_neg h21]
          by_cases h27 : k = 24 + 2 * N + 27
          · rw [if_pos h27, if_neg (show ¬ k < 24 + 2 * N by omega), if_pos (show k < 24 + 2 * N + 28 by omega), if_pos h27]
          · rw [if_neg h27]
            by_cases hlo : k < 24 + 2 * N
            · rw [if_neg (show ¬ (24 + 2 * N ≤ k ∧ k < 24 + 2 * N + 28) by omega), if_pos hlo]
            · rw [if_neg hlo]
              by_cases hin : k < 24 + 2 * N + 28
              · rw [if_pos (show 24 + 2 * N ≤ k ∧ k < 24 + 2 * N + 28 by omega), if_pos hin, if_neg h27]
              · rw [if_neg (show ¬ (24 + 2 * N ≤ k ∧ k < 24 + 2 * N + 28) by omega), if_neg hin, if_neg (show ¬ (k - (24 + 2 * N)) % 28 = 0 by omega)]
theorem cell_root (N i : Nat) (hN : 1 ≤ N) (hi : i < 28) : (newA N).cell 65537 (i : Int) = ((24 + 2 * N + i : Nat) : Int) := by
  have hs : slotOf 65537 = 1 := by decide
  unfold ArS.cell
  rw [hs, if_pos]
  · simp only [newA]; omega
  · simp only [ArS.has, newA, Bool.and_eq_true, decide_eq_true_eq, List.length_cons, List.length_replicate]
    omega
theorem cell_slot (N i : Nat) (h2 : 1 ≤ i) (hi : i ≤ N) (hN : N ≤ 1000) : (newA N).cell (i : Int) 0 = ((24 + 2 * N + 28 * (i - 1) : Nat) : Int) := by
  have hs : slotOf (i : Int) = i := by unfold slotOf; rw [if_neg (by omega)]; omega
  unfold ArS.cell
  rw [hs, if_pos]
  · simp only [newA]; omega
  · simp only [ArS.has, newA, Bool.and_eq_true, decide_eq_true_eq, List.length_cons, List.length_replicate]
    omega
end Go.Proofs.Ytldccemgfjmcdaa
