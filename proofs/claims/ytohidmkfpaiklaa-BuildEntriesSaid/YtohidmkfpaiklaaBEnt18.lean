/- Law 18's BuildEntries: of all lists and handles the entries are the chapter's, or none. -/
import Derived.Test.YtohidmkfpaiklaaEntr18
import Derived.Test.YtohidmkfpaiklaaCut
import Derived.Test.YtohidmkfpaiklaaOpenAreas
namespace Go.Proofs.Ytohidmkfpaiklaa
open Go.RowKit
set_option linter.unusedSimpArgs false
set_option linter.unusedVariables false

theorem ent_three {w : World} {B n c : Nat} {A : Option Addr} {es : List EntV} {i : Nat} {e : EntV} (h : w.ownsRow B 31 3 (.slice A n c) n (es.flatMap entCells)) (he : es[i]? = some e) :
    ∃ g, A = some ⟨g, 0, none⟩ ∧ w.cell? ⟨g, i * 3, none⟩ = some (.int .i64 e.lo) ∧ w.cell? ⟨g, i * 3 + 1, none⟩ = some (.int .i64 e.stop) ∧ w.cell? ⟨g, i * 3 + 2, none⟩ = some (.int .i64 e.h) := by
  obtain ⟨g, hA, h0, -⟩ := own_at h (j := i * 3 + 0) (u := .int .i64 e.lo) (by rw [flat_get entCells_len es i e 0 he (by omega)]; rfl)
  obtain ⟨g1, hA1, h1, -⟩ := own_at h (j := i * 3 + 1) (u := .int .i64 e.stop) (by rw [flat_get entCells_len es i e 1 he (by omega)]; rfl)
  obtain ⟨g2, hA2, h2, -⟩ := own_at h (j := i * 3 + 2) (u := .int .i64 e.h) (by rw [flat_get entCells_len es i e 2 he (by omega)]; rfl)
  subst hA
  injection hA1 with e1; injection e1 with e1; subst e1
  injection hA2 with e2; injection e2 with e2; subst e2
  exact ⟨g, rfl, h0, h1, h2⟩
set_option maxRecDepth 100000 in
set_option maxHeartbeats 4000000 in
theorem walk_BuildEntries (la : Option Addr) (len cap : Nat) (zs : List AreaV) (ha : Option Addr) (n c : Nat) (hs : List Int) (right : Bool) (w : World) (hz : ArgOf AreaV.cells 6 AreaV.Ok w la len cap zs) (hh : ArgInts .i64 w ha n c hs) :
    Calls Try.prog 3 #[.slice la len cap, .slice ha n c, .bool right] w fun e w' => e = .returned (.bool true) ∧ Below w.heap.size w w' := by
  have hle := hz.le
  have hzm := hz.hm
  have hle2 := hh.le
  have hzm2 := hh.hm
  unfold maxLen at hzm hzm2
  have HZ := Lib.hid hz
  have HH0 := Lib.hid hh
  have HB := Lib.hid (Below.refl w.heap.size w)
  clear hz hh
  by_cases h40 : 40 < len
  · have h40i : (40 : Int) < len := by omega
    go_enter Try.func3, Try.ntmps3
    go_wp2_with fail
    refine (awake18 w).mono ?_
    rintro e w1 ⟨rfl, hb⟩
    replace HB := Lib.hid (below_thru HB.out hb)
    clear hb
    go_wp2_with fail
    refine (awake18 w1).mono ?_
    rintro e w2 ⟨rfl, hb⟩
    replace HB := Lib.hid (below_thru HB.out hb)
    clear hb
    go_wp2
    go_ret
    exact ⟨rfl, HB.out⟩
  · have h40i : ¬ (40 : Int) < len := by omega
    by_cases h60 : 60 < n
    · have h60i : (60 : Int) < n := by omega
      go_enter Try.func3, Try.ntmps3
      go_wp2_with fail
      refine (awake18 w).mono ?_
      rintro e w1 ⟨rfl, hb⟩
      replace HB := Lib.hid (below_thru HB.out hb)
      clear hb
      go_wp2_with fail
      refine (awake18 w1).mono ?_
      rintro e w2 ⟨rfl, hb⟩
      replace HB := Lib.hid (below_thru HB.out hb)
      clear hb
      go_wp2
      go_ret
      exact ⟨rfl, HB.out⟩
    · have h60i : ¬ (60 : Int) < n := by omega
      cases right with
      | false =>
        go_enter Try.func3, Try.ntmps3
        go_wp2_with fail
        refine (awake18 w).mono ?_
        rintro e w1 ⟨rfl, hb⟩
        replace HB := Lib.hid (below_thru HB.out hb)
        clear hb
        have HX := Lib.hid (HZ.out.below HB.out (Nat.le_refl _))
        have HH := Lib.hid (HH0.out.below HB.out (Nat.le_refl _))
        have HW3 := Lib.hid HB.out
        clear HZ HH0 HB
        have HBE := Lib.hid (build_entries la ha len cap n c zs hs w1 HX.out HH.out (by omega) (by omega))
        obtain ⟨mm, hmm⟩ : ∃ b, mayB zs hs = b := ⟨_, rfl⟩
        simp only [hmm] at HBE
        have HMM := Lib.hid hmm
        obtain ⟨Y, hY⟩ : ∃ Y, (if mm = true then entsL zs hs else []) = Y := ⟨_, rfl⟩
        simp only [hY] at HBE
        have HY := Lib.hid hY
        clear hY
        go_wp2_with fail
        refine HBE.out.mono ?_
        rintro e w4 ⟨G, cg, rfl, hg, hb4⟩
        have HG := Lib.hid hg
        have HX4 := Lib.hid (HX.out.thru hb4)
        have HH4 := Lib.hid (HH.out.thru hb4)
        have HW4 := Lib.hid (below_thru HW3.out hb4)
        have HMY := Lib.hid (ref18_may la ha len cap n c zs hs w4 HX4.out HH4.out (by omega) (by omega))
        simp only [hmm] at HMY
        clear hg hb4 hmm HBE
        go_wp2_with fail
        refine HMY.out.mono ?_
        rintro e w5 ⟨rfl, hb5⟩
        have HG5 := Lib.hid (ownsRow_upd HG.out (Upd.of_below hb5 (F := [])) (by simp))
        have HX5 := Lib.hid (HX4.out.thru hb5)
        have HH5 := Lib.hid (HH4.out.thru hb5)
        have HW5 := Lib.hid (below_thru HW4.out hb5)
        clear hb5 HMY HG HX4 HH4 HW4
        cases mm with
        | false =>
          have hY0 := HY.out
          simp only [Bool.false_eq_true, if_false] at hY0
          subst hY0
          simp only [List.length_nil]
          go_wp2
          go_ret
          exact ⟨rfl, HW5.out⟩
        | true =>
          have hY0 := HY.out
          simp only [if_true] at hY0
          subst hY0
          have hkm : len = n := by
            have h1 := HMM.out
            unfold mayB at h1
            rw [Bool.and_eq_true, Bool.and_eq_true, decide_eq_true_eq, HX5.out.hl, HH5.out.hl] at h1
            all_goals exact h1.2.1
          first
            | subst hkm
            | clear hkm
          go_wp2_with fail
          refine (ref18_entries la ha _ cap c zs hs w5 HX5.out HH5.out (by omega)).mono ?_
          rintro e w6 ⟨D, cd, rfl, hd, hb6⟩
          have HD := Lib.hid hd
          have HG6 := Lib.hid (ownsRow_upd HG5.out (Upd.of_below hb6 (F := [])) (by simp))
          have HW6 := Lib.hid (below_thru HW5.out hb6)
          obtain ⟨Q, hQ⟩ : ∃ Q, entsL zs hs = Q := ⟨_, rfl⟩
          have hln := entsL_len zs hs
          rw [HX5.out.hl] at hln
          simp only [hQ] at HD HG6 hln ⊢
          clear hd hb6 HG5 HX5 HH5 HW5 hQ HMM HX HH HY
          go_wp2_with fail
          go_loopw [11] (fun vi wr => ∃ i : Nat, i ≤ Q.length ∧ vi = .int .i64 i ∧ (∃ B1, wr.ownsRow B1 31 3 (.slice G Q.length cg) Q.length (Q.flatMap entCells)) ∧ (∃ B2, wr.ownsRow B2 31 3 (.slice D Q.length cd) Q.length (Q.flatMap entCells)) ∧ Below w.heap.size w wr) (fun vi _ => Q.length - (intOf vi).toNat)
          case atStart => exact ⟨0, by omega, rfl, ⟨_, HG6.out⟩, ⟨_, HD.out⟩, HW6.out⟩
          case round =>
            clear HG6 HD HW6
            obtain ⟨i, hi, rfl, ⟨B1, hg⟩, ⟨B2, hd⟩, hw⟩ := hrel
            have HG := Lib.hid hg
            have HD := Lib.hid hd
            have HW := Lib.hid hw
            clear hg hd hw
            by_cases hlt : i < Q.length
            · have hlti : (i : Int) < Q.length := by omega
              have hi0 : (0 : Int) ≤ i := by omega
              obtain ⟨e, he⟩ : ∃ e, Q[i]? = some e := ⟨_, List.getElem?_eq_getElem hlt⟩
              obtain ⟨g1, rfl, x0, x1, x2⟩ := ent_three HG.out he
              obtain ⟨g2, rfl, y0, y1, y2⟩ := ent_three HD.out he
              clear he
              go_upto_region 16 with fail
              go_quiet (fail)
              go_wp2
              go_roundw
              case rel => exact ⟨i + 1, by omega, by go_num, ⟨B1, ownsRow_upd HG.out ((Upd.refl [] wr).drewN _) (by simp)⟩, ⟨B2, ownsRow_upd HD.out ((Upd.refl [] wr).drewN _) (by simp)⟩, below_thru HW.out (below_drewN0 wr _)⟩
              case measure => simp [intOf]; omega
            · obtain rfl : i = Q.length := by omega
              go_wp2
              go_ret
              exact ⟨rfl, HW.out⟩
      | true =>
        go_enter Try.func3, Try.ntmps3
        go_wp2_with fail
        refine (awake18 w).mono ?_
        rintro e w1 ⟨rfl, hb⟩
        replace HB := Lib.hid (below_thru HB.out hb)
        clear hb
        go_wp2_with fail
        refine (law10_some la len cap zs w1 (HZ.out.below HB.out (Nat.le_refl _))).mono ?_
        rintro e w2 ⟨A, ca, rfl, hA, -, hb⟩
        have hm24 := someL_len zs
        obtain ⟨X, hX⟩ : ∃ X, someL zs = X := ⟨_, rfl⟩
        simp only [hX] at hA hm24 ⊢
        obtain ⟨m, hm⟩ : ∃ m, X.length = m := ⟨_, rfl⟩
        simp only [hm] at hA hm24 ⊢
        have HX2 := Lib.hid hA
        have HW2 := Lib.hid (below_thru HB.out hb)
        clear hb hA hX hm HZ HH0 HB h40 h40i h60 h60i hle hzm hle2 hzm2
        go_wp2_with fail
        refine (law18_handles 1 m w2 (by omega) (by omega) (by omega)).mono ?_
        rintro e w3 ⟨B, cb, rfl, ho, hb⟩
        have HX := Lib.hid (HX2.out.thru hb)
        have HH := Lib.hid (ArgInts.ofOwn ho (handlesL_len 1 m) (fun x hx => by
          simp only [handlesL, List.mem_map, List.mem_range] at hx
          obtain ⟨q, hq, rfl⟩ := hx
          exact wf_of_bounds ⟨by omega, by omega⟩))
        have HW3 := Lib.hid (below_thru HW2.out hb)
        clear ho hb HX2 HW2
        obtain ⟨H, hH⟩ : ∃ H, handlesL 1 m = H := ⟨_, rfl⟩
        simp only [hH] at HH
        clear hH
        have HBE := Lib.hid (build_entries A B m ca m cb X H w3 HX.out HH.out (by omega) (by omega))
        obtain ⟨mm, hmm⟩ : ∃ b, mayB X H = b := ⟨_, rfl⟩
        simp only [hmm] at HBE
        have HMM := Lib.hid hmm
        obtain ⟨Y, hY⟩ : ∃ Y, (if mm = true then entsL X H else []) = Y := ⟨_, rfl⟩
        simp only [hY] at HBE
        have HY := Lib.hid hY
        clear hY
        go_wp2_with fail
        refine HBE.out.mono ?_
        rintro e w4 ⟨G, cg, rfl, hg, hb4⟩
        have HG := Lib.hid hg
        have HX4 := Lib.hid (HX.out.thru hb4)
        have HH4 := Lib.hid (HH.out.thru hb4)
        have HW4 := Lib.hid (below_thru HW3.out hb4)
        have HMY := Lib.hid (ref18_may A B m ca m cb X H w4 HX4.out HH4.out (by omega) (by omega))
        simp only [hmm] at HMY
        clear hg hb4 hmm HBE
        go_wp2_with fail
        refine HMY.out.mono ?_
        rintro e w5 ⟨rfl, hb5⟩
        have HG5 := Lib.hid (ownsRow_upd HG.out (Upd.of_below hb5 (F := [])) (by simp))
        have HX5 := Lib.hid (HX4.out.thru hb5)
        have HH5 := Lib.hid (HH4.out.thru hb5)
        have HW5 := Lib.hid (below_thru HW4.out hb5)
        clear hb5 HMY HG HX4 HH4 HW4
        cases mm with
        | false =>
          have hY0 := HY.out
          simp only [Bool.false_eq_true, if_false] at hY0
          subst hY0
          simp only [List.length_nil]
          go_wp2
          go_ret
          exact ⟨rfl, HW5.out⟩
        | true =>
          have hY0 := HY.out
          simp only [if_true] at hY0
          subst hY0
          have hkm : m = m := by
            have h1 := HMM.out
            unfold mayB at h1
            rw [Bool.and_eq_true, Bool.and_eq_true, decide_eq_true_eq, HX5.out.hl, HH5.out.hl] at h1
            all_goals exact h1.2.1
          first
            | subst hkm
            | clear hkm
          go_wp2_with fail
          refine (ref18_entries A B _ ca cb X H w5 HX5.out HH5.out (by omega)).mono ?_
          rintro e w6 ⟨D, cd, rfl, hd, hb6⟩
          have HD := Lib.hid hd
          have HG6 := Lib.hid (ownsRow_upd HG5.out (Upd.of_below hb6 (F := [])) (by simp))
          have HW6 := Lib.hid (below_thru HW5.out hb6)
          obtain ⟨Q, hQ⟩ : ∃ Q, entsL X H = Q := ⟨_, rfl⟩
          have hln := entsL_len X H
          rw [HX5.out.hl] at hln
          simp only [hQ] at HD HG6 hln ⊢
          clear hd hb6 HG5 HX5 HH5 HW5 hQ HMM HX HH HY
          go_wp2_with fail
          go_loopw [11] (fun vi wr => ∃ i : Nat, i ≤ Q.length ∧ vi = .int .i64 i ∧ (∃ B1, wr.ownsRow B1 31 3 (.slice G Q.length cg) Q.length (Q.flatMap entCells)) ∧ (∃ B2, wr.ownsRow B2 31 3 (.slice D Q.length cd) Q.length (Q.flatMap entCells)) ∧ Below w.heap.size w wr) (fun vi _ => Q.length - (intOf vi).toNat)
          case atStart => exact ⟨0, by omega, rfl, ⟨_, HG6.out⟩, ⟨_, HD.out⟩, HW6.out⟩
          case round =>
            clear HG6 HD HW6
            obtain ⟨i, hi, rfl, ⟨B1, hg⟩, ⟨B2, hd⟩, hw⟩ := hrel
            have HG := Lib.hid hg
            have HD := Lib.hid hd
            have HW := Lib.hid hw
            clear hg hd hw
            by_cases hlt : i < Q.length
            · have hlti : (i : Int) < Q.length := by omega
              have hi0 : (0 : Int) ≤ i := by omega
              obtain ⟨e, he⟩ : ∃ e, Q[i]? = some e := ⟨_, List.getElem?_eq_getElem hlt⟩
              obtain ⟨g1, rfl, x0, x1, x2⟩ := ent_three HG.out he
              obtain ⟨g2, rfl, y0, y1, y2⟩ := ent_three HD.out he
              clear he
              go_upto_region 16 with fail
              go_quiet (fail)
              go_wp2
              go_roundw
              case rel => exact ⟨i + 1, by omega, by go_num, ⟨B1, ownsRow_upd HG.out ((Upd.refl [] wr).drewN _) (by simp)⟩, ⟨B2, ownsRow_upd HD.out ((Upd.refl [] wr).drewN _) (by simp)⟩, below_thru HW.out (below_drewN0 wr _)⟩
              case measure => simp [intOf]; omega
            · obtain rfl : i = Q.length := by omega
              go_wp2
              go_ret
              exact ⟨rfl, HW.out⟩
end Go.Proofs.Ytohidmkfpaiklaa
