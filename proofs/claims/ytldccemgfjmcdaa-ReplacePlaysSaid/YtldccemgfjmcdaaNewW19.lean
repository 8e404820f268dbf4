/- Layer 19: New, walked. -/
import Derived.Test.YtldccemgfjmcdaaNew19
namespace Go.Proofs.Ytldccemgfjmcdaa
open Go.RowKit
set_option linter.unusedSimpArgs false
set_option linter.unusedVariables false

theorem born_root (N : Nat) (hN : 1 ≤ N) : (⟨24 + 2 * (N : Int), List.replicate N (0, false), false, false⟩ : ArS).born 1 = (65537, newA N) := by
  obtain ⟨q, rfl⟩ : ∃ q, N = q + 1 := ⟨N - 1, by omega⟩
  unfold ArS.born
  rw [if_pos (by simp only [ArS.has, Bool.and_eq_true, decide_eq_true_eq, List.length_replicate]; omega)]
  simp only [ArS.at_, ArS.put, newA, show ((1 : Int) - 1).toNat = 0 from rfl, List.replicate_succ, List.getD_cons_zero, List.set_cons_zero, Nat.add_sub_cancel, Bool.false_or]
  rw [show wrap64 (0 + 1) = 1 by unfold wrap64; omega, show hand 1 1 = 65537 by unfold hand wrap64; omega]
theorem MkLand.tell {w wr w' : World} {lb m c a b N : Nat} {μ : MemS} {α α' : ArS} (h : MkLand w wr lb m c a b N μ α) (ha : ArAt w' a b α') (hu : Upd [a, b] wr w') : MkLand w w' lb m c a b N μ α' := by
  have hp := h.apart
  simp only [List.mem_cons, List.not_mem_nil, or_false, not_or] at hp
  have h1 := h.mem.1.ne_ h.ar.top (by decide)
  have h2 := h.mem.2.1.ne_ h.ar.top (by decide)
  have h3 := h.mem.1.ne_ h.ar.row (by decide)
  have h4 := h.mem.2.1.ne_ h.ar.row (by decide)
  refine ⟨below_upd h.low hu (Nat.le_refl _) ?_, h.mem.upd hu (by simp [h1, h3]) (by simp [h2, h4]), h.wm, ha, Blk.upd h.top hu (by simp [hp.2.2.1, hp.2.2.2]), h.new, h.apart⟩
  intro x hx
  simp only [List.mem_cons, List.not_mem_nil, or_false] at hx
  rcases hx with rfl | rfl
  · exact h.new.2.2.2.1
  · exact h.new.2.2.2.2
theorem MkLand.at3 {w wr : World} {lb m c a b N : Nat} {μ : MemS} {α : ArS} (h : MkLand w wr lb m c a b N μ α) : wr.cell? ⟨lb, 0, none⟩ = some (.pointer (some ⟨m, 0, none⟩)) ∧ wr.cell? ⟨lb, 1, none⟩ = some (.pointer (some ⟨a, 0, none⟩)) ∧ wr.cell? ⟨lb, 2, none⟩ = some (.int .i64 N) := Blk.at3 h.top
theorem row_int19 {w : World} {g n cap i : Nat} {ys : List Int} (h : Row w 2 1 g n cap (i64s ys)) (hi : i < ys.length) : w.cell? ⟨g, i, none⟩ = some (.int .i64 (ys.getD i 0)) :=
  h.cell (by unfold i64s; rw [List.getElem?_map, List.getElem?_eq_getElem hi, List.getD_eq_getElem?_getD, List.getElem?_eq_getElem hi]; rfl)
theorem whole_formed : wholeN.formedB = true := by decide
theorem whole_wf : ∀ x ∈ wholeN.pack, (Lit.int .i64 x).wf = true := by decide
theorem whole_len : wholeN.pack.length = 28 := by decide
set_option maxRecDepth 100000 in
set_option maxHeartbeats 8000000 in
theorem replace_new (n : Int) (w : World) (hn : WfI n) :
    Calls Try.prog 38 #[.int .i64 n] w fun e w' => ∃ lb m c a b, e = .returned (.pointer (some ⟨lb, 0, none⟩)) ∧ Below w.heap.size w w' ∧ NewLand w' w.heap.size lb m c a b (capL n) := by
  obtain ⟨b1, b2⟩ := hn.bounds
  clear hn
  go_enter Try.func38, Try.ntmps38
  go_upto_region 1 with fail
  go_cut [0] (fun v wc => v = .int .i64 (capL n : Nat) ∧ wc = w)
  case first =>
    rcases Int.lt_or_le n 1 with h1 | h1
    · have e : capL n = 1 := by unfold capL; rw [if_pos h1]; rfl
      have HE := Lib.hid e
      clear e
      go_wp2_with fail
      go_meet
      exact ⟨by rw [HE.out]; rfl, rfl⟩
    · rcases Int.lt_or_le 1000 n with h2 | h2
      · have e : capL n = 1000 := by unfold capL; rw [if_neg (by omega), if_pos h2]; rfl
        have HE := Lib.hid e
        clear e
        go_wp2_with fail
        go_meet
        exact ⟨by rw [HE.out]; rfl, rfl⟩
      · have e : ((capL n : Nat) : Int) = n := by unfold capL; rw [if_neg (by omega), if_neg (by omega)]; omega
        have HE := Lib.hid e
        clear e
        go_wp2_with fail
        go_meet
        exact ⟨by rw [HE.out], rfl⟩
  case rest =>
    obtain ⟨rfl, rfl⟩ := hcut
    obtain ⟨hN1, hN2⟩ := capL_lo n
    obtain ⟨N, hN⟩ : ∃ N, capL n = N := ⟨_, rfl⟩
    rw [hN] at hN1 hN2 ⊢
    have HNE := Lib.hid hN
    clear hN b1 b2
    have hN2i : (N : Int) ≤ 1000 := by omega
    have HN1 := Lib.hid hN1
    have HN2 := Lib.hid hN2
    have HC := Lib.hid (cell_new (24 + 2 * (N : Int) + (N : Int) * 28) wc)
    go_wp2_with fail
    refine HC.out.mono ?_
    rintro e w1 ⟨rfl, hm1, hb1, hs1⟩
    have hcap : (capn (24 + 2 * (N : Int) + (N : Int) * 28)).toNat = 24 + 30 * N := by unfold capn; rw [if_neg (by omega), if_neg (by omega)]; omega
    rw [hcap] at hm1
    have HM1 := Lib.hid hm1
    have HB1 := Lib.hid hb1
    have HS1 := Lib.hid hs1
    have HA := Lib.hid (arena_new (24 + 2 * (N : Int)) N w1 (by omega) (by omega) (by omega))
    rw [HS1.out] at HA
    clear hm1 hb1 hs1 hcap HC
    go_wp2_with fail
    refine HA.out.mono ?_
    rintro e w2 ⟨rfl, ha2, hb2', hs2⟩
    have hb2 : Below w1.heap.size w1 w2 := by rw [HS1.out]; exact hb2'
    have HZ2 := Lib.hid (show w2.heap.size = wc.heap.size + 4 by rw [hs2])
    have HL := Lib.hid (show MkLand wc (w2.alloc (.cells #[.pointer (some ⟨wc.heap.size + 1, 0, none⟩), .pointer (some ⟨wc.heap.size + 2 + 1, 0, none⟩), .int .i64 N] 93)) w2.heap.size (wc.heap.size + 1) wc.heap.size (wc.heap.size + 2 + 1) (wc.heap.size + 2) N ⟨List.replicate (24 + 30 * N) 0, 0⟩ ⟨24 + 2 * (N : Int), List.replicate N (0, false), false, false⟩ from
      have hb3 := below_alloc0 w2 (.cells #[.pointer (some ⟨wc.heap.size + 1, 0, none⟩), .pointer (some ⟨wc.heap.size + 2 + 1, 0, none⟩), .int .i64 N] 93)
      have hm2 := MemAt.below HM1.out hb2 HM1.out.1.lt HM1.out.2.1.lt
      ⟨below_thru (below_thru HB1.out hb2) hb3, MemAt.below hm2 hb3 hm2.1.lt hm2.2.1.lt, by intro x hx; rw [(List.mem_replicate.1 hx).2]; exact WfI.zero, ha2.thru hb3, Blk.new _ _ _, by rw [HZ2.out]; omega, by rw [HZ2.out]; simp⟩)
    clear ha2 hb2 hb2' hs2 HM1 HB1 HS1 HA
    go_upto_region 4 with fail
    obtain ⟨lb, hlb⟩ : ∃ x, w2.heap.size = x := ⟨_, rfl⟩
    obtain ⟨m, hm⟩ : ∃ x, wc.heap.size + 1 = x := ⟨_, rfl⟩
    obtain ⟨a, ha⟩ : ∃ x, wc.heap.size + 2 + 1 = x := ⟨_, rfl⟩
    obtain ⟨b, hb⟩ : ∃ x, wc.heap.size + 2 = x := ⟨_, rfl⟩
    obtain ⟨c, hc⟩ : ∃ x, wc.heap.size = x := ⟨_, rfl⟩
    rw [ha, hb, hm, hlb, hc] at HL
    rw [ha, hm, hlb]
    generalize w2.alloc (.cells #[.pointer (some ⟨m, 0, none⟩), .pointer (some ⟨a, 0, none⟩), .int .i64 N] 93) = w3 at *
    have HBO := Lib.hid (arena_born a b _ 1 w3 HL.out.ar)
    rw [born_root N HN1.out] at HBO
    obtain ⟨k0, k1, k2⟩ := HL.out.at3
    clear hlb hm ha hb hc HZ2
    go_wp2_with fail
    refine HBO.out.mono ?_
    rintro e w4 ⟨rfl, har, hu⟩
    have HM := Lib.hid (HL.out.tell har hu)
    have HF := Lib.hid (MemIs.zero (24 + 30 * N) 0)
    clear har hu HBO HL k0 k1 k2
    replace HM := Lib.hid (HM.out.thru (below_alloc0 w4 (.cells #[.int .i64 2097152] 2)))
    have H1 := Lib.hid (Blk.new w4 2 #[.int .i64 2097152])
    go_upto_region 6 with fail
    have HZ := Lib.hid (World.size_alloc w4 (.cells #[.int .i64 2097152] 2))
    obtain ⟨ib, hib⟩ : ∃ x, w4.heap.size = x := ⟨_, rfl⟩
    simp only [hib] at H1 HZ ⊢
    replace hib := Lib.hid hib
    generalize w4.alloc (.cells #[.int .i64 2097152] 2) = w5 at *
    replace HM := Lib.hid (HM.out.thru (below_alloc0 w5 (.cells #[.int .i64 0] 2)))
    replace H1 := Lib.hid (H1.out.thru (below_alloc0 w5 (.cells #[.int .i64 0] 2)))
    have H2 := Lib.hid (Blk.new w5 2 #[.int .i64 0])
    rw [HZ.out] at H2
    try simp only [HZ.out]
    replace HZ := Lib.hid (show (w5.alloc (.cells #[.int .i64 0] 2)).heap.size = ib + 1 + 1 by rw [World.size_alloc, HZ.out])
    generalize w5.alloc (.cells #[.int .i64 0] 2) = w6 at *
    replace HM := Lib.hid (HM.out.thru (below_alloc0 w6 (.cells #[.int .i64 2031616] 2)))
    replace H1 := Lib.hid (H1.out.thru (below_alloc0 w6 (.cells #[.int .i64 2031616] 2)))
    replace H2 := Lib.hid (H2.out.thru (below_alloc0 w6 (.cells #[.int .i64 2031616] 2)))
    have H3 := Lib.hid (Blk.new w6 2 #[.int .i64 2031616])
    rw [HZ.out] at H3
    try simp only [HZ.out]
    replace HZ := Lib.hid (show (w6.alloc (.cells #[.int .i64 2031616] 2)).heap.size = ib + 1 + 1 + 1 by rw [World.size_alloc, HZ.out])
    generalize w6.alloc (.cells #[.int .i64 2031616] 2) = w7 at *
    replace HM := Lib.hid (HM.out.thru (below_alloc0 w7 (.cells #[.bool false, .int .i64 65536, .slice (some ⟨ib, 0, none⟩) 1 1, .slice (some ⟨ib + 1, 0, none⟩) 1 1, .slice (some ⟨ib + 1 + 1, 0, none⟩) 1 1] 50)))
    replace H1 := Lib.hid (H1.out.thru (below_alloc0 w7 (.cells #[.bool false, .int .i64 65536, .slice (some ⟨ib, 0, none⟩) 1 1, .slice (some ⟨ib + 1, 0, none⟩) 1 1, .slice (some ⟨ib + 1 + 1, 0, none⟩) 1 1] 50)))
    replace H2 := Lib.hid (H2.out.thru (below_alloc0 w7 (.cells #[.bool false, .int .i64 65536, .slice (some ⟨ib, 0, none⟩) 1 1, .slice (some ⟨ib + 1, 0, none⟩) 1 1, .slice (some ⟨ib + 1 + 1, 0, none⟩) 1 1] 50)))
    replace H3 := Lib.hid (H3.out.thru (below_alloc0 w7 (.cells #[.bool false, .int .i64 65536, .slice (some ⟨ib, 0, none⟩) 1 1, .slice (some ⟨ib + 1, 0, none⟩) 1 1, .slice (some ⟨ib + 1 + 1, 0, none⟩) 1 1] 50)))
    have H4 := Lib.hid (Blk.new w7 50 #[.bool false, .int .i64 65536, .slice (some ⟨ib, 0, none⟩) 1 1, .slice (some ⟨ib + 1, 0, none⟩) 1 1, .slice (some ⟨ib + 1 + 1, 0, none⟩) 1 1])
    rw [HZ.out] at H4
    try simp only [HZ.out]
    replace HZ := Lib.hid (show (w7.alloc (.cells #[.bool false, .int .i64 65536, .slice (some ⟨ib, 0, none⟩) 1 1, .slice (some ⟨ib + 1, 0, none⟩) 1 1, .slice (some ⟨ib + 1 + 1, 0, none⟩) 1 1] 50)).heap.size = ib + 1 + 1 + 1 + 1 by rw [World.size_alloc, HZ.out])
    generalize w7.alloc (.cells #[.bool false, .int .i64 65536, .slice (some ⟨ib, 0, none⟩) 1 1, .slice (some ⟨ib + 1, 0, none⟩) 1 1, .slice (some ⟨ib + 1 + 1, 0, none⟩) 1 1] 50) = w8 at *
    have HPK := Lib.hid (slot_pack wholeN (some ⟨ib, 0, none⟩) (some ⟨ib + 1, 0, none⟩) (some ⟨ib + 1 + 1, 0, none⟩) 1 1 1 w8 ⟨rfl, ints_one H1.out rfl, ints_one H2.out rfl, ints_one H3.out rfl⟩)
    simp only [nodeCells, wholeN, List.length_singleton] at HPK
    obtain ⟨k0, k1, k2, k3, k4⟩ := H4.out.at5
    go_wp2_with fail
    refine HPK.out.mono ?_
    rintro e w9 ⟨hb9, hor⟩
    obtain ⟨g, cap, rfl, hg, hrow⟩ : ∃ g cap, e = .returned (.slice (some ⟨g, 0, none⟩) 28 cap) ∧ w8.heap.size ≤ g ∧ Row w9 2 1 g 28 cap (i64s wholeN.pack) := by
      rcases hor with ⟨hf, -⟩ | ⟨-, h⟩
      · exact absurd hf (by decide)
      · exact h
    have HGN := Lib.hid (show g ∉ [m, c] by
      have h1 := HM.out.mem.1.lt
      have h2 := HM.out.mem.2.1.lt
      simp only [List.mem_cons, List.not_mem_nil, or_false]
      omega)
    have hcap : 28 ≤ cap ∧ cap ≤ maxLen := by obtain ⟨_, _, _, _, h4, h5, _⟩ := hrow; exact ⟨h4, h5⟩
    unfold maxLen at hcap
    have HR := Lib.hid hrow
    replace HM := Lib.hid (HM.out.thru hb9)
    clear hor hb9 hg hrow HPK H1 H2 H3 H4 k0 k1 k2 k3 k4 HZ
    have HF0 := Lib.hid (HF.out.ext (g := F1 N 0) fun k _ => (F1_zero N k).symm)
    clear HF
    obtain ⟨hc1, hc2⟩ := hcap
    go_wp2_with fail
    go_loopw [39] (fun v wr => ∃ (i : Nat) (μ : MemS), i ≤ 28 ∧ v = .int .i64 i ∧ MkLand wc wr lb m c a b N μ (newA N) ∧ MemIs μ (24 + 30 * N) (F1 N i) ∧ Row wr 2 1 g 28 cap (i64s wholeN.pack)) (fun v _ => 28 - (intOf v).toNat)
    case atStart => exact ⟨0, _, Nat.zero_le _, rfl, HM.out, HF0.out, HR.out⟩
    case round =>
      clear HM HF0 HR
      obtain ⟨i, μ, hi, rfl, hm, hf, hr⟩ := hrel
      have HM := Lib.hid hm
      have HF := Lib.hid hf
      have HR := Lib.hid hr
      clear hm hf hr
      by_cases hlt : i < 28
      · have x0 := row_int19 HR.out (i := i) (by rw [whole_len]; exact hlt)
        obtain ⟨x, hx⟩ : ∃ x, wholeN.pack.getD i 0 = x := ⟨_, rfl⟩
        rw [hx] at x0
        have HX := Lib.hid hx
        have HWX := Lib.hid (show WfI x by rw [← hx]; exact whole_wf _ (by rw [List.getD_eq_getElem?_getD, List.getElem?_eq_getElem (by rw [whole_len]; exact hlt)]; exact List.getElem_mem _))
        obtain ⟨k0, k1, k2⟩ := HM.out.at3
        have HCL := arena_cell a b (newA N) 65537 i wr.drew (HM.out.ar.drewN 1) (by omega)
        rw [cell_root N i HN1.out hlt] at HCL
        have HCL' := Lib.hid (show Calls Try.prog 34 #[.pointer (some ⟨a, 0, none⟩), .int .i64 65537, .int .i64 i] wr.drew (fun e w' => e = .returned (.int .i64 ((24 + 2 * N + i : Nat) : Int)) ∧ w' = wr.drew) from HCL.mono fun _ _ ⟨x, y⟩ => ⟨x, y.symm⟩)
        have HST := Lib.hid (cell_store m c μ ((24 + 2 * N + i : Nat) : Int) x wr.drew (HM.out.mem.drewN 1))
        have HMD := Lib.hid (HM.out.thru (show Below wr.heap.size wr wr.drew from below_drewN0 wr 1))
        have HRD := Lib.hid (show Row wr.drew 2 1 g 28 cap (i64s wholeN.pack) from HR.out.drewN 1)
        clear hx HCL HM HR
        go_upto_region 9 with fail
        refine wp_region_still_tail 12 (by kernel_rfl) (by kernel_rfl) ?_
        simp only [List.take_succ_cons, List.take_zero, List.drop_succ_cons, List.drop_zero]
        repeat (first | still_call (HCL'.out) | still_step)
        try refine wpStill_nil ?_
        change wpList _ _ _ _ _ wr.drew
        clear k0 k1 k2 HCL'
        generalize wr.drew = wd at *
        go_wp2_with fail
        refine HST.out.mono ?_
        rintro e w5 ⟨rfl, hm', hu⟩
        have HM2 := Lib.hid (HMD.out.st HWX.out hm' hu)
        have HF2 := Lib.hid ((HF.out.store (i := 24 + 2 * N + i) (by have := HN1.out; omega) x).ext (g := F1 N (i + 1)) fun k _ => by rw [← HX.out]; exact F1_step N i k)
        have HR2 := Lib.hid (HRD.out.upd hu HGN.out)
        clear hm' hu HST HMD HRD HF
        go_wp2
        go_roundw
        case rel => exact ⟨i + 1, _, by omega, by go_num, HM2.out, HF2.out, HR2.out⟩
        case measure => simp [intOf]; omega
      · obtain rfl : i = 28 := by omega
        obtain ⟨k0, k1, k2⟩ := HM.out.at3
        have HCL := arena_cell a b (newA N) 65537 ((27 : Nat) : Int) wr.drew (HM.out.ar.drewN 1) (by omega)
        rw [cell_root N 27 HN1.out (by omega)] at HCL
        have HCL' := Lib.hid (show Calls Try.prog 34 #[.pointer (some ⟨a, 0, none⟩), .int .i64 65537, .int .i64 27] wr.drew (fun e w' => e = .returned (.int .i64 ((24 + 2 * N + 27 : Nat) : Int)) ∧ w' = wr.drew) from HCL.mono fun _ _ ⟨x, y⟩ => ⟨x, y.symm⟩)
        have HST := Lib.hid (cell_store m c μ ((24 + 2 * N + 27 : Nat) : Int) 1 wr.drew (HM.out.mem.drewN 1))
        have HMD := Lib.hid (HM.out.thru (show Below wr.heap.size wr wr.drew from below_drewN0 wr 1))
        clear HCL HM HR
        go_upto_region 11 with fail
        refine wp_region_still_tail 10 (by kernel_rfl) (by kernel_rfl) ?_
        simp only [List.take_succ_cons, List.take_zero, List.drop_succ_cons, List.drop_zero]
        repeat (first | still_call (HCL'.out) | still_step)
        try refine wpStill_nil ?_
        change wpList _ _ _ _ _ wr.drew
        clear k0 k1 k2 HCL'
        generalize wr.drew = wd at *
        go_wp2_with fail
        refine HST.out.mono ?_
        rintro e w5 ⟨rfl, hm', hu⟩
        have HM2 := Lib.hid (HMD.out.st (show WfI 1 from rfl) hm' hu)
        have HF2 := Lib.hid (HF.out.store (i := 24 + 2 * N + 27) (by have := HN1.out; omega) 1)
        generalize (μ.store ((24 + 2 * N + 27 : Nat) : Int) 1).2 = μ2 at *
        clear hm' hu HST HMD HF
        obtain ⟨k0, k1, k2⟩ := HM2.out.at3
        have HST := Lib.hid (cell_store m c μ2 ((2 : Nat) : Int) 65537 w5 HM2.out.mem)
        go_wp2_with fail
        refine HST.out.mono ?_
        rintro e w6 ⟨rfl, hm', hu⟩
        have HM3 := Lib.hid (HM2.out.st (show WfI 65537 from rfl) hm' hu)
        have HF3 := Lib.hid (HF2.out.store (i := 2) (by omega) 65537)
        generalize (μ2.store ((2 : Nat) : Int) 65537).2 = μ3 at *
        clear hm' hu HST HM2 HF2 k0 k1 k2
        obtain ⟨k0, k1, k2⟩ := HM3.out.at3
        have HST := Lib.hid (cell_store m c μ3 ((3 : Nat) : Int) 65536 w6 HM3.out.mem)
        go_wp2_with fail
        refine HST.out.mono ?_
        rintro e w7 ⟨rfl, hm', hu⟩
        have HM4 := Lib.hid (HM3.out.st (show WfI 65536 from rfl) hm' hu)
        have HF4 := Lib.hid ((HF3.out.store (i := 3) (by omega) 65536).ext (g := F3 N 2) fun k _ => F3_two N k)
        generalize (μ3.store ((3 : Nat) : Int) 65536).2 = μ4 at *
        clear hm' hu HST HM3 HF3 k0 k1 k2
        go_wp2_with fail
        go_loopw [9] (fun v wr => ∃ (i : Nat) (μ : MemS), 2 ≤ i ∧ i ≤ N + 1 ∧ v = .int .i64 i ∧ MkLand wc wr lb m c a b N μ (newA N) ∧ MemIs μ (24 + 30 * N) (F3 N i)) (fun v _ => N + 1 - (intOf v).toNat)
        case atStart => exact ⟨2, _, Nat.le_refl _, by have := HN1.out; omega, rfl, HM4.out, HF4.out⟩
        case round =>
          clear HM4 HF4
          obtain ⟨i, μ, hi2, hi, rfl, hm, hf⟩ := hrel
          have HM := Lib.hid hm
          have HF := Lib.hid hf
          clear hm hf
          by_cases hlt : i ≤ N
          · have hii : (i : Int) ≤ N := by omega
            obtain ⟨k0, k1, k2⟩ := HM.out.at3
            have HCL := arena_cell a b (newA N) (i : Int) 0 wr.drew (HM.out.ar.drewN 1) (by omega)
            rw [cell_slot N i (by omega) hlt HN2.out] at HCL
            have HCL' := Lib.hid (show Calls Try.prog 34 #[.pointer (some ⟨a, 0, none⟩), .int .i64 i, .int .i64 0] wr.drew (fun e w' => e = .returned (.int .i64 ((24 + 2 * N + 28 * (i - 1) : Nat) : Int)) ∧ w' = wr.drew) from HCL.mono fun _ _ ⟨x, y⟩ => ⟨x, y.symm⟩)
            have HNX := Lib.hid (replace_next i N (by have := HN2.out; omega) wr.drew)
            obtain ⟨x, hx⟩ : ∃ x, (if i = N then (0 : Int) else ((i + 1 : Nat) : Int)) = x := ⟨_, rfl⟩
            rw [hx] at HNX
            have HX := Lib.hid hx
            have HWX := Lib.hid (show WfI x by rw [← hx]; have := HN2.out; split; exact WfI.zero; exact WfI.of (by omega))
            have HST := Lib.hid (cell_store m c μ ((24 + 2 * N + 28 * (i - 1) : Nat) : Int) x wr.drew (HM.out.mem.drewN 1))
            have HMD := Lib.hid (HM.out.thru (show Below wr.heap.size wr wr.drew from below_drewN0 wr 1))
            clear hx HCL HM
            go_upto_region 17 with fail
            refine wp_region_still_tail 13 (by kernel_rfl) (by kernel_rfl) ?_
            simp only [List.take_succ_cons, List.take_zero, List.drop_succ_cons, List.drop_zero]
            repeat (first | still_call (HCL'.out) | still_call (HNX.out) | still_step)
            try refine wpStill_nil ?_
            change wpList _ _ _ _ _ wr.drew
            clear k0 k1 k2 HCL' HNX
            generalize wr.drew = wd at *
            go_wp2_with fail
            refine HST.out.mono ?_
            rintro e w5 ⟨rfl, hm', hu⟩
            have HM2 := Lib.hid (HMD.out.st HWX.out hm' hu)
            have HF2 := Lib.hid (HF.out.store (i := 24 + 2 * N + 28 * (i - 1)) (by omega) x)
            generalize (μ.store ((24 + 2 * N + 28 * (i - 1) : Nat) : Int) x).2 = μ2 at *
            clear hm' hu HST HMD HF
            obtain ⟨k0, k1, k2⟩ := HM2.out.at3
            have HST := Lib.hid (cell_store m c μ2 ((21 : Nat) : Int) 2 w5 HM2.out.mem)
            go_wp2_with fail
            refine HST.out.mono ?_
            rintro e w6 ⟨rfl, hm', hu⟩
            have HM3 := Lib.hid (HM2.out.st (show WfI 2 from rfl) hm' hu)
            have HF3 := Lib.hid ((HF2.out.store (i := 21) (by omega) 2).ext (g := F3 N (i + 1)) fun k _ => by rw [← HX.out]; exact F3_step N i hi2 hlt k)
            generalize (μ2.store ((21 : Nat) : Int) 2).2 = μ3 at *
            clear hm' hu HST HM2 HF2 k0 k1 k2
            go_wp2
            go_roundw
            case rel => exact ⟨i + 1, μ3, by omega, by omega, by go_num, HM3.out, HF3.out⟩
            case measure => simp [intOf]; omega
          · obtain rfl : i = N + 1 := by omega
            have HE := Lib.hid (show ∃ lb' m' c' a' b', Ending.returned (.pointer (some ⟨lb, 0, none⟩)) = .returned (.pointer (some ⟨lb', 0, none⟩)) ∧ Below wc.heap.size wc wr ∧ NewLand wr wc.heap.size lb' m' c' a' b' N from
              ⟨lb, m, c, a, b, rfl, HM.out.low, ⟨⟨μ, newA N⟩, ⟨HM.out.mem, HM.out.ar, HM.out.wm⟩, HF.out.ext (F3_end N HN1.out), rfl⟩, HM.out.top, HM.out.new, HM.out.apart⟩)
            clear HM HF
            go_wp2
            go_ret
            rw [HNE.out]
            exact HE.out
end Go.Proofs.Ytldccemgfjmcdaa
