/- Layers 6, 15: the reference's areas, walked. -/
import Derived.Test.YtohidmkfpaiklaaArea
namespace Go.Proofs.Ytohidmkfpaiklaa
open Go.RowKit
set_option linter.unusedSimpArgs false
set_option linter.unusedVariables false

set_option maxRecDepth 100000 in
set_option maxHeartbeats 1000000 in
theorem ref06_formed (a : AreaV) (w : World) (ok : a.Ok) : Calls Try.prog 63 #[.agg (areaCells a)] w fun e w' => e = .returned (.bool a.formedB) ∧ Below w.heap.size w w' := by
  obtain ⟨ok1, ok2, ok3, ok4, ok5⟩ := ok
  have HFI := Lib.hid a.formed_iff
  have HB := Lib.hid ((Below.refl w.heap.size w).alloc (Nat.le_refl _) (.cells (areaCells a) 79))
  have HN := Lib.hid (Blk.new w 79 (areaCells a))
  obtain ⟨R, hR⟩ : ∃ R, a.formedB = R := ⟨_, rfl⟩
  rw [hR] at HFI ⊢
  clear hR
  obtain ⟨start, stop, prot, shared, back, off⟩ := a
  simp only [areaCells] at *
  have t0 := (HN.out).at_ (i := 0) rfl
  have t1 := (HN.out).at_ (i := 1) rfl
  have t2 := (HN.out).at_ (i := 2) rfl
  have t3 := (HN.out).at_ (i := 3) rfl
  have t4 := (HN.out).at_ (i := 4) rfl
  have t5 := (HN.out).at_ (i := 5) rfl
  simp only [List.getElem_toArray, List.getElem_cons_succ, List.getElem_cons_zero] at t0 t1 t2 t3 t4 t5
  have b1 := bounds_i64 ok1
  have b2 := bounds_i64 ok2
  have b3 := bounds_i64 ok3
  have b4 := bounds_i64 ok4
  have b5 := bounds_i64 ok5
  by_cases g1 : 65536 ≤ start ∧ stop ≤ 2097152 ∧ start < stop ∧ start % 4096 = 0 ∧ stop % 4096 = 0
  · obtain ⟨p1, p2, p3, p4, p5⟩ := g1
    have p6 : 65536 < stop := by omega
    by_cases g2 : 0 ≤ prot ∧ prot ≤ 7 ∧ 0 ≤ back ∧ back ≤ 9 ∧ 0 ≤ off ∧ off % 4096 = 0
    · obtain ⟨q1, q2, q3, q4, q5, q6⟩ := g2
      go_enter Try.func63, Try.ntmps63
      go_upto_region 1 with fail
      generalize w.alloc (.cells #[.int .i64 start, .int .i64 stop, .int .i64 prot, .bool shared, .int .i64 back, .int .i64 off] 79) = w1 at *
      go_wp2
      all_goals go_ret
      all_goals refine ⟨ret_bool ?_, HB.out⟩
      all_goals rw [Bool.eq_iff_iff, HFI.out]
      all_goals clear HFI
      all_goals first | (simp_all; done) | (simp_all; omega)
    · have HR : R = false := by rw [← Bool.not_eq_true, HFI.out]; omega
      subst HR
      go_enter Try.func63, Try.ntmps63
      go_upto_region 1 with fail
      generalize w.alloc (.cells #[.int .i64 start, .int .i64 stop, .int .i64 prot, .bool shared, .int .i64 back, .int .i64 off] 79) = w1 at *
      go_wp2
      all_goals first | (go_ret; exact ⟨rfl, HB.out⟩) | skip
      all_goals (exfalso; simp only [bne_eq_false_iff_eq] at *; omega)
  · have HR : R = false := by rw [← Bool.not_eq_true, HFI.out]; omega
    subst HR
    go_enter Try.func63, Try.ntmps63
    go_upto_region 1 with fail
    generalize w.alloc (.cells #[.int .i64 start, .int .i64 stop, .int .i64 prot, .bool shared, .int .i64 back, .int .i64 off] 79) = w1 at *
    go_wp2
    all_goals first | (go_ret; exact ⟨rfl, HB.out⟩) | skip
    all_goals try (exfalso; simp_all; omega)
end Go.Proofs.Ytohidmkfpaiklaa
