/- Layer 1's statements, walked: awake, CellSizes, CellAdds, CellSwaps. -/
import Derived.Test.YtnglbgdokdcefaaCell
import Derived.Test.YtnglbgdokdcefaaArgs
namespace Go.Proofs.Ytnglbgdokdcefaa
open Go.RowKit

theorem sto3 : (⟨List.replicate 3 0, 0⟩ : MemS).store 1 5 = (0, ⟨[0, 5, 0], 1⟩) := by
  simp [MemS.store, MemS.has, MemS.tick, MemS.set, wrap64, List.replicate]

theorem awake01 (w : World) : Calls Try.prog 15 #[] w fun e w' => e = .returned (.bool true) ∧ Below w.heap.size w w' := by
  go_enter Try.func15, Try.ntmps15
  go_wp2_with fail
  refine (cell_new 3 _).mono ?_
  rintro e w1 ⟨rfl, hm, hb, -⟩
  rw [show (capn 3).toNat = 3 from rfl] at hm
  go_wp2_with fail
  refine (cell_size _ _ _ _ hm).mono ?_
  rintro e w' ⟨rfl, rfl⟩
  go_wp2_with fail
  refine (cell_store _ _ _ 1 5 _ hm).mono ?_
  rw [sto3]
  rintro e w2 ⟨rfl, hm2, hu⟩
  go_wp2_with fail
  refine (cell_count _ _ _ _ hm2).mono ?_
  rintro e w' ⟨rfl, rfl⟩
  go_wp2
  go_ret
  exact ⟨rfl, hb.trans (hu.below hb.size (by simp))⟩

set_option maxRecDepth 100000 in
theorem sizes01 (n : Int) (w : World) (_ : (Lit.int .i64 n).wf = true) : Calls Try.prog 3 #[.int .i64 n] w fun e w' => e = .returned (.bool true) ∧ Below w.heap.size w w' := by
  have hk : (n < 0 ∧ (capn n).toNat = 0) ∨ (65536 < n ∧ (capn n).toNat = 65536) ∨ (0 ≤ n ∧ n ≤ 65536 ∧ (capn n).toNat = n.toNat) := by unfold capn; split <;> (try split) <;> omega
  have HA := Lib.hid (awake01 w)
  rcases hk with ⟨h1, h2⟩ | ⟨h1, h2⟩ | ⟨h0, h1, h2⟩
  all_goals
    have H2 := Lib.hid h2
    clear h2
    go_enter Try.func3, Try.ntmps3
    go_wp2_with fail
    refine HA.out.mono ?_
    rintro e w1 ⟨rfl, hb⟩
    go_wp2_with fail
    refine (cell_new n _).mono ?_
    rw [H2.out]
    rintro e w2 ⟨rfl, hm, hb2, -⟩
    go_wp2_with fail
    refine (cell_size _ _ _ _ hm).mono ?_
    rintro e w' ⟨rfl, rfl⟩
    simp only [List.length_replicate]
    go_wp2
    go_ret
    exact ⟨by first | rfl | (congr 2; simp; omega), hb.trans (hb2.mono hb.size)⟩

theorem wrap_back (v d : Int) (hv : (Lit.int .i64 v).wf = true) : wrap64 (wrap64 (v + d) + wrap64 (-d)) = v := by
  have h1 := bounds_i64 hv
  unfold wrap64
  omega

set_option maxRecDepth 100000 in
theorem adds01 (v d : Int) (w : World) (hv : (Lit.int .i64 v).wf = true) (_ : (Lit.int .i64 d).wf = true) :
    Calls Try.prog 5 #[.int .i64 v, .int .i64 d] w fun e w' => e = .returned (.bool true) ∧ Below w.heap.size w w' := by
  have HA := Lib.hid awake01
  go_enter Try.func5, Try.ntmps5
  go_wp2_with fail
  refine (cell_new 1 _).mono ?_
  rintro e w1 ⟨rfl, hm, hb, -⟩
  rw [show (capn 1).toNat = 1 from rfl] at hm
  go_wp2_with fail
  refine (cell_store _ _ _ 0 v _ hm).mono ?_
  rw [show (⟨List.replicate 1 0, 0⟩ : MemS).store 0 v = (0, ⟨[v], 1⟩) by simp [MemS.store, MemS.has, MemS.tick, MemS.set, wrap64, List.replicate]]
  rintro e w2 ⟨rfl, hm2, hu2⟩
  go_wp2_with fail
  refine (cell_add _ _ _ 0 d _ hm2).mono ?_
  rw [show (⟨[v], 1⟩ : MemS).add 0 d = (v, 0, ⟨[wrap64 (v + d)], 2⟩) by simp [MemS.add, MemS.has, MemS.tick, MemS.set, MemS.get, wrap64]]
  rintro e w3 ⟨rfl, hm3, hu3⟩
  go_wp2_with fail
  refine (cell_add _ _ _ 0 (wrap64 (-d)) _ hm3).mono ?_
  rw [show (⟨[wrap64 (v + d)], 2⟩ : MemS).add 0 (wrap64 (-d)) = (wrap64 (v + d), 0, ⟨[v], 3⟩) by simp [MemS.add, MemS.has, MemS.tick, MemS.set, MemS.get, wrap_back v d hv]; simp [wrap64]]
  rintro e w4 ⟨rfl, hm4, hu4⟩
  go_wp2_with fail
  refine (cell_load _ _ _ 0 _ hm4).mono ?_
  rw [show (⟨[v], 3⟩ : MemS).load 0 = (v, 0, ⟨[v], 4⟩) by simp [MemS.load, MemS.has, MemS.tick, MemS.get]; simp [wrap64]]
  rintro e w5 ⟨rfl, hm5, hu5⟩
  go_wp2_with fail
  refine (HA.out _).mono ?_
  rintro e w6 ⟨rfl, hb6⟩
  go_wp2
  go_ret
  have hF : ∀ b ∈ [w.heap.size + 1, w.heap.size], w.heap.size ≤ b := by simp
  exact ⟨by rw [u64_sum]; simp, below_then (below_upd (below_upd (below_upd (below_upd hb hu2 (Nat.le_refl _) hF) hu3 (Nat.le_refl _) hF) hu4 (Nat.le_refl _) hF) hu5 (Nat.le_refl _) (by simp)) hb6 (Nat.le_refl _)⟩

set_option maxRecDepth 100000 in
theorem swaps01 (v old fresh : Int) (w : World) (_ : (Lit.int .i64 v).wf = true) (_ : (Lit.int .i64 old).wf = true) (_ : (Lit.int .i64 fresh).wf = true) :
    Calls Try.prog 6 #[.int .i64 v, .int .i64 old, .int .i64 fresh] w fun e w' => e = .returned (.bool true) ∧ Below w.heap.size w w' := by
  have HA := Lib.hid awake01
  by_cases he : v = old
  · subst he
    have hb0 : (v == v) = true := by simp
    go_enter Try.func6, Try.ntmps6
    go_wp2_with fail
    refine (cell_new 1 _).mono ?_
    rintro e w1 ⟨rfl, hm, hb, -⟩
    rw [show (capn 1).toNat = 1 from rfl] at hm
    go_wp2_with fail
    refine (cell_store _ _ _ 0 v _ hm).mono ?_
    rw [show (⟨List.replicate 1 0, 0⟩ : MemS).store 0 v = (0, ⟨[v], 1⟩) by simp [MemS.store, MemS.has, MemS.tick, MemS.set, wrap64, List.replicate]]
    rintro e w2 ⟨rfl, hm2, hu2⟩
    go_wp2_with fail
    refine (cell_swap _ _ _ 0 v fresh _ hm2).mono ?_
    rw [show (⟨[v], 1⟩ : MemS).swap 0 v fresh = (true, 0, ⟨[fresh], 2⟩) by simp [MemS.swap, MemS.has, MemS.tick, MemS.set, MemS.get, wrap64]]
    rintro e w3 ⟨rfl, hm3, hu3⟩
    go_wp2_with fail
    refine (cell_load _ _ _ 0 _ hm3).mono ?_
    rw [show (⟨[fresh], 2⟩ : MemS).load 0 = (fresh, 0, ⟨[fresh], 3⟩) by simp [MemS.load, MemS.has, MemS.tick, MemS.get, wrap64]]
    rintro e w4 ⟨rfl, hm4, hu4⟩
    go_wp2_with fail
    refine (HA.out _).mono ?_
    rintro e w5 ⟨rfl, hb5⟩
    go_wp2
    go_ret
    have hF : ∀ b ∈ [w.heap.size + 1, w.heap.size], w.heap.size ≤ b := by simp
    exact ⟨by simp, below_then (below_upd (below_upd (below_upd hb hu2 (Nat.le_refl _) hF) hu3 (Nat.le_refl _) hF) hu4 (Nat.le_refl _) (by simp)) hb5 (Nat.le_refl _)⟩
  · have hb0 : (v == old) = false := by simp [he]
    go_enter Try.func6, Try.ntmps6
    go_wp2_with fail
    refine (cell_new 1 _).mono ?_
    rintro e w1 ⟨rfl, hm, hb, -⟩
    rw [show (capn 1).toNat = 1 from rfl] at hm
    go_wp2_with fail
    refine (cell_store _ _ _ 0 v _ hm).mono ?_
    rw [show (⟨List.replicate 1 0, 0⟩ : MemS).store 0 v = (0, ⟨[v], 1⟩) by simp [MemS.store, MemS.has, MemS.tick, MemS.set, wrap64, List.replicate]]
    rintro e w2 ⟨rfl, hm2, hu2⟩
    go_wp2_with fail
    refine (cell_swap _ _ _ 0 old fresh _ hm2).mono ?_
    rw [show (⟨[v], 1⟩ : MemS).swap 0 old fresh = (false, 0, ⟨[v], 2⟩) by simp [MemS.swap, MemS.has, MemS.tick, MemS.get, wrap64, he]]
    rintro e w3 ⟨rfl, hm3, hu3⟩
    go_wp2_with fail
    refine (cell_load _ _ _ 0 _ hm3).mono ?_
    rw [show (⟨[v], 2⟩ : MemS).load 0 = (v, 0, ⟨[v], 3⟩) by simp [MemS.load, MemS.has, MemS.tick, MemS.get, wrap64]]
    rintro e w4 ⟨rfl, hm4, hu4⟩
    go_wp2_with fail
    refine (HA.out _).mono ?_
    rintro e w5 ⟨rfl, hb5⟩
    go_wp2
    go_ret
    have hF : ∀ b ∈ [w.heap.size + 1, w.heap.size], w.heap.size ≤ b := by simp
    exact ⟨by simp, below_then (below_upd (below_upd (below_upd hb hu2 (Nat.le_refl _) hF) hu3 (Nat.le_refl _) hF) hu4 (Nat.le_refl _) (by simp)) hb5 (Nat.le_refl _)⟩
end Go.Proofs.Ytnglbgdokdcefaa
