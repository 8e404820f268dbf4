/- Layers 6, 15: areas, walked. -/
import Derived.Test.YtohidmkfpaiklaaLaw15
import Derived.Test.YtohidmkfpaiklaaSlotP
namespace Go.Proofs.Ytohidmkfpaiklaa
open Go.RowKit
set_option linter.unusedSimpArgs false
set_option linter.unusedVariables false

structure AreaV.Ok (a : AreaV) : Prop where
  start : (Lit.int .i64 a.start).wf = true
  stop : (Lit.int .i64 a.stop).wf = true
  prot : (Lit.int .i64 a.prot).wf = true
  back : (Lit.int .i64 a.back).wf = true
  off : (Lit.int .i64 a.off).wf = true
def areaCells (a : AreaV) : Array Value := #[.int .i64 a.start, .int .i64 a.stop, .int .i64 a.prot, .bool a.shared, .int .i64 a.back, .int .i64 a.off]
theorem tmod_zero (x : Int) : (x.tmod 4096 == 0) = decide (x % 4096 = 0) := by
  rw [Bool.eq_iff_iff, beq_iff_eq, decide_eq_true_iff, ← Int.dvd_iff_tmod_eq_zero, ← Int.dvd_iff_emod_eq_zero]
set_option maxRecDepth 100000 in
theorem area_whole (x : Int) (w : World) (hx : (Lit.int .i64 x).wf = true) : Calls Try.prog 84 #[.int .i64 x] w fun e w' => e = .returned (.bool (decide (x % 4096 = 0))) ∧ Below w.heap.size w w' := by
  have hb := bounds_i64 hx
  clear hx
  go_enter Try.func84, Try.ntmps84
  go_wp2
  rw [tmod_zero]
  go_ret
  exact ⟨rfl, Below.refl _ _⟩
set_option maxRecDepth 100000 in
set_option maxHeartbeats 1000000 in
theorem area_formed (a : AreaV) (w : World) (ok : a.Ok) : Calls Try.prog 66 #[.agg (areaCells a)] w fun e w' => e = .returned (.bool a.formedB) ∧ Below w.heap.size w w' := by
  obtain ⟨ok1, ok2, ok3, ok4, ok5⟩ := ok
  have HFI := Lib.hid a.formed_iff
  have HB := Lib.hid ((Below.refl w.heap.size w).alloc (Nat.le_refl _) (.cells (areaCells a) 79))
  have HN := Lib.hid (Blk.new w 79 (areaCells a))
  obtain ⟨R, hR⟩ : ∃ R, a.formedB = R := ⟨_, rfl⟩
  rw [hR] at HFI ⊢
  clear hR
  obtain ⟨start, stop, prot, shared, back, off⟩ := a
  simp only [areaCells] at *
  have t0 := (HN.out).at_ (i := 0) rfl
  have t1 := (HN.out).at_ (i := 1) rfl
  have t2 := (HN.out).at_ (i := 2) rfl
  have t3 := (HN.out).at_ (i := 3) rfl
  have t4 := (HN.out).at_ (i := 4) rfl
  have t5 := (HN.out).at_ (i := 5) rfl
  simp only [List.getElem_toArray, List.getElem_cons_succ, List.getElem_cons_zero] at t0 t1 t2 t3 t4 t5
  have b1 := bounds_i64 ok1
  have b2 := bounds_i64 ok2
  have b3 := bounds_i64 ok3
  have b4 := bounds_i64 ok4
  have b5 := bounds_i64 ok5
  by_cases g1 : start % 4096 = 0
  · by_cases g2 : stop % 4096 = 0
    · by_cases g3 : 65536 ≤ start ∧ stop ≤ 2097152 ∧ start < stop ∧ 0 ≤ prot ∧ prot ≤ 7 ∧ 0 ≤ back ∧ back ≤ 9
      · obtain ⟨p1, p2, p3, p4, p5, p6, p7⟩ := g3
        by_cases g4 : back = 0
        · have HR : (off == 0) = R := by rw [Bool.eq_iff_iff, HFI.out, beq_iff_eq]; omega
          have HRR := Lib.hid HR
          subst g4
          clear HR
          go_enter Try.func66, Try.ntmps66
          go_upto_region 1 with fail
          generalize w.alloc (.cells #[.int .i64 start, .int .i64 stop, .int .i64 prot, .bool shared, .int .i64 0, .int .i64 off] 79) = w1 at *
          go_wp2_with fail
          refine (area_whole start w1 ok1).mono ?_
          rintro e w2 ⟨rfl, hb2⟩
          rw [decide_eq_true g1]
          have HB2 := Lib.hid (below_then HB.out hb2 (Nat.le_refl _))
          have HN2 := Lib.hid (HN.out.below hb2 HN.out.lt)
          clear t0 t1 t2 t3 t4 t5
          have t0 := (HN2.out).at_ (i := 0) rfl
          have t1 := (HN2.out).at_ (i := 1) rfl
          have t2 := (HN2.out).at_ (i := 2) rfl
          have t3 := (HN2.out).at_ (i := 3) rfl
          have t4 := (HN2.out).at_ (i := 4) rfl
          have t5 := (HN2.out).at_ (i := 5) rfl
          simp only [List.getElem_toArray, List.getElem_cons_succ, List.getElem_cons_zero] at t0 t1 t2 t3 t4 t5
          clear hb2
          go_wp2_with fail
          refine (area_whole stop w2 ok2).mono ?_
          rintro e w3 ⟨rfl, hb3⟩
          rw [decide_eq_true g2]
          have HB3 := Lib.hid (below_then HB2.out hb3 (Nat.le_refl _))
          have HN3 := Lib.hid (HN2.out.below hb3 HN2.out.lt)
          clear t0 t1 t2 t3 t4 t5
          have t0 := (HN3.out).at_ (i := 0) rfl
          have t1 := (HN3.out).at_ (i := 1) rfl
          have t2 := (HN3.out).at_ (i := 2) rfl
          have t3 := (HN3.out).at_ (i := 3) rfl
          have t4 := (HN3.out).at_ (i := 4) rfl
          have t5 := (HN3.out).at_ (i := 5) rfl
          simp only [List.getElem_toArray, List.getElem_cons_succ, List.getElem_cons_zero] at t0 t1 t2 t3 t4 t5
          clear hb3
          go_wp2
          all_goals go_ret
          all_goals exact ⟨ret_bool HRR.out, HB3.out⟩
        · have HR : (decide (off % 4096 = 0) && (decide (0 ≤ off) && decide (off ≤ 1099511627776 - (stop - start)))) = R := by
            rw [Bool.eq_iff_iff, HFI.out]
            simp only [Bool.and_eq_true, decide_eq_true_eq]
            omega
          have HRR := Lib.hid HR
          have g4' : (back == 0) = false := beq_eq_false_iff_ne.2 g4
          clear HR
          go_enter Try.func66, Try.ntmps66
          go_upto_region 1 with fail
          generalize w.alloc (.cells #[.int .i64 start, .int .i64 stop, .int .i64 prot, .bool shared, .int .i64 back, .int .i64 off] 79) = w1 at *
          go_wp2_with fail
          refine (area_whole start w1 ok1).mono ?_
          rintro e w2 ⟨rfl, hb2⟩
          rw [decide_eq_true g1]
          have HB2 := Lib.hid (below_then HB.out hb2 (Nat.le_refl _))
          have HN2 := Lib.hid (HN.out.below hb2 HN.out.lt)
          clear t0 t1 t2 t3 t4 t5
          have t0 := (HN2.out).at_ (i := 0) rfl
          have t1 := (HN2.out).at_ (i := 1) rfl
          have t2 := (HN2.out).at_ (i := 2) rfl
          have t3 := (HN2.out).at_ (i := 3) rfl
          have t4 := (HN2.out).at_ (i := 4) rfl
          have t5 := (HN2.out).at_ (i := 5) rfl
          simp only [List.getElem_toArray, List.getElem_cons_succ, List.getElem_cons_zero] at t0 t1 t2 t3 t4 t5
          clear hb2
          go_wp2_with fail
          refine (area_whole stop w2 ok2).mono ?_
          rintro e w3 ⟨rfl, hb3⟩
          rw [decide_eq_true g2]
          have HB3 := Lib.hid (below_then HB2.out hb3 (Nat.le_refl _))
          have HN3 := Lib.hid (HN2.out.below hb3 HN2.out.lt)
          clear t0 t1 t2 t3 t4 t5
          have t0 := (HN3.out).at_ (i := 0) rfl
          have t1 := (HN3.out).at_ (i := 1) rfl
          have t2 := (HN3.out).at_ (i := 2) rfl
          have t3 := (HN3.out).at_ (i := 3) rfl
          have t4 := (HN3.out).at_ (i := 4) rfl
          have t5 := (HN3.out).at_ (i := 5) rfl
          simp only [List.getElem_toArray, List.getElem_cons_succ, List.getElem_cons_zero] at t0 t1 t2 t3 t4 t5
          clear hb3
          go_wp2_with fail
          refine (area_whole off w3 ok5).mono ?_
          rintro e w4 ⟨rfl, hb4⟩
          have HB4 := Lib.hid (below_then HB3.out hb4 (Nat.le_refl _))
          have HN4 := Lib.hid (HN3.out.below hb4 HN3.out.lt)
          clear t0 t1 t2 t3 t4 t5
          have t0 := (HN4.out).at_ (i := 0) rfl
          have t1 := (HN4.out).at_ (i := 1) rfl
          have t2 := (HN4.out).at_ (i := 2) rfl
          have t3 := (HN4.out).at_ (i := 3) rfl
          have t4 := (HN4.out).at_ (i := 4) rfl
          have t5 := (HN4.out).at_ (i := 5) rfl
          simp only [List.getElem_toArray, List.getElem_cons_succ, List.getElem_cons_zero] at t0 t1 t2 t3 t4 t5
          clear hb4
          generalize decide (off % 4096 = 0) = d at *
          go_wp2
          all_goals go_ret
          all_goals refine ⟨ret_bool ?_, HB4.out⟩
          all_goals rw [← HRR.out]
          all_goals clear HRR HFI
          all_goals first | (simp_all; done) | (simp_all; omega)
      · have HR : R = false := by rw [← Bool.not_eq_true, HFI.out]; omega
        subst HR
        go_enter Try.func66, Try.ntmps66
        go_upto_region 1 with fail
        generalize w.alloc (.cells #[.int .i64 start, .int .i64 stop, .int .i64 prot, .bool shared, .int .i64 back, .int .i64 off] 79) = w1 at *
        go_wp2_with fail
        refine (area_whole start w1 ok1).mono ?_
        rintro e w2 ⟨rfl, hb2⟩
        rw [decide_eq_true g1]
        have HB2 := Lib.hid (below_then HB.out hb2 (Nat.le_refl _))
        have HN2 := Lib.hid (HN.out.below hb2 HN.out.lt)
        clear t0 t1 t2 t3 t4 t5
        have t0 := (HN2.out).at_ (i := 0) rfl
        have t1 := (HN2.out).at_ (i := 1) rfl
        have t2 := (HN2.out).at_ (i := 2) rfl
        have t3 := (HN2.out).at_ (i := 3) rfl
        have t4 := (HN2.out).at_ (i := 4) rfl
        have t5 := (HN2.out).at_ (i := 5) rfl
        simp only [List.getElem_toArray, List.getElem_cons_succ, List.getElem_cons_zero] at t0 t1 t2 t3 t4 t5
        clear hb2
        go_wp2_with fail
        refine (area_whole stop w2 ok2).mono ?_
        rintro e w3 ⟨rfl, hb3⟩
        rw [decide_eq_true g2]
        have HB3 := Lib.hid (below_then HB2.out hb3 (Nat.le_refl _))
        have HN3 := Lib.hid (HN2.out.below hb3 HN2.out.lt)
        clear t0 t1 t2 t3 t4 t5
        have t0 := (HN3.out).at_ (i := 0) rfl
        have t1 := (HN3.out).at_ (i := 1) rfl
        have t2 := (HN3.out).at_ (i := 2) rfl
        have t3 := (HN3.out).at_ (i := 3) rfl
        have t4 := (HN3.out).at_ (i := 4) rfl
        have t5 := (HN3.out).at_ (i := 5) rfl
        simp only [List.getElem_toArray, List.getElem_cons_succ, List.getElem_cons_zero] at t0 t1 t2 t3 t4 t5
        clear hb3
        go_wp2
        all_goals first | (go_ret; exact ⟨rfl, HB3.out⟩) | (exfalso; omega)
    · have HR : R = false := by rw [← Bool.not_eq_true, HFI.out]; omega
      subst HR
      go_enter Try.func66, Try.ntmps66
      go_upto_region 1 with fail
      generalize w.alloc (.cells #[.int .i64 start, .int .i64 stop, .int .i64 prot, .bool shared, .int .i64 back, .int .i64 off] 79) = w1 at *
      go_wp2_with fail
      refine (area_whole start w1 ok1).mono ?_
      rintro e w2 ⟨rfl, hb2⟩
      rw [decide_eq_true g1]
      have HB2 := Lib.hid (below_then HB.out hb2 (Nat.le_refl _))
      have HN2 := Lib.hid (HN.out.below hb2 HN.out.lt)
      clear t0 t1 t2 t3 t4 t5
      have t0 := (HN2.out).at_ (i := 0) rfl
      have t1 := (HN2.out).at_ (i := 1) rfl
      have t2 := (HN2.out).at_ (i := 2) rfl
      have t3 := (HN2.out).at_ (i := 3) rfl
      have t4 := (HN2.out).at_ (i := 4) rfl
      have t5 := (HN2.out).at_ (i := 5) rfl
      simp only [List.getElem_toArray, List.getElem_cons_succ, List.getElem_cons_zero] at t0 t1 t2 t3 t4 t5
      clear hb2
      go_wp2_with fail
      refine (area_whole stop w2 ok2).mono ?_
      rintro e w3 ⟨rfl, hb3⟩
      rw [decide_eq_false g2]
      have HB3 := Lib.hid (below_then HB2.out hb3 (Nat.le_refl _))
      have HN3 := Lib.hid (HN2.out.below hb3 HN2.out.lt)
      clear t0 t1 t2 t3 t4 t5
      have t0 := (HN3.out).at_ (i := 0) rfl
      have t1 := (HN3.out).at_ (i := 1) rfl
      have t2 := (HN3.out).at_ (i := 2) rfl
      have t3 := (HN3.out).at_ (i := 3) rfl
      have t4 := (HN3.out).at_ (i := 4) rfl
      have t5 := (HN3.out).at_ (i := 5) rfl
      simp only [List.getElem_toArray, List.getElem_cons_succ, List.getElem_cons_zero] at t0 t1 t2 t3 t4 t5
      clear hb3
      go_wp2
      go_ret
      exact ⟨rfl, HB3.out⟩
  · have HR : R = false := by rw [← Bool.not_eq_true, HFI.out]; omega
    subst HR
    go_enter Try.func66, Try.ntmps66
    go_upto_region 1 with fail
    generalize w.alloc (.cells #[.int .i64 start, .int .i64 stop, .int .i64 prot, .bool shared, .int .i64 back, .int .i64 off] 79) = w1 at *
    go_wp2_with fail
    refine (area_whole start w1 ok1).mono ?_
    rintro e w2 ⟨rfl, hb2⟩
    rw [decide_eq_false g1]
    have HB2 := Lib.hid (below_then HB.out hb2 (Nat.le_refl _))
    have HN2 := Lib.hid (HN.out.below hb2 HN.out.lt)
    clear t0 t1 t2 t3 t4 t5
    have t0 := (HN2.out).at_ (i := 0) rfl
    have t1 := (HN2.out).at_ (i := 1) rfl
    have t2 := (HN2.out).at_ (i := 2) rfl
    have t3 := (HN2.out).at_ (i := 3) rfl
    have t4 := (HN2.out).at_ (i := 4) rfl
    have t5 := (HN2.out).at_ (i := 5) rfl
    simp only [List.getElem_toArray, List.getElem_cons_succ, List.getElem_cons_zero] at t0 t1 t2 t3 t4 t5
    clear hb2
    go_wp2
    go_ret
    exact ⟨rfl, HB2.out⟩
end Go.Proofs.Ytohidmkfpaiklaa
