/- ReplaceWrites. -/
import Derived.Test.YtldccemgfjmcdaaWrites19
namespace Go.Proofs.Ytldccemgfjmcdaa
open Go.RowKit
set_option linter.unusedSimpArgs false
set_option linter.unusedVariables false

theorem step_writes {w0 w : World} {p : Pl} {pb lb : Nat} {n : Int} {ty : TypeId} {z0 cs : Array Value} {H : Int} {wa : Option Addr} {len cap : Nat} {zs : List Int} {σ0 : LandS} {j : Nat} {s : TrS} {F : List Nat}
    (h : RoundL w0 w p pb ty z0 (writeT H (zs.take 26)) (RC z0) σ0 j s F cs) (hl : LandB w lb p.m p.a n) (hlf : lb ∉ p.all F) (hh : WfI H) (hz : ∀ w1, Upd [p.t] w w1 → IntsOff w1 wa len cap zs (p.all F)) (time : Int) (hj : j < 1000000) :
    Calls Try.prog 54 #[.pointer (some ⟨p.t, 0, none⟩), .int .i64 time, .func (.func 55) #[.agg #[.pointer (some ⟨lb, 0, none⟩), .int .i64 H, .slice wa len cap]] #[]] w fun e w' =>
      ∃ b s' F' cs', e = .returned (.bool b) ∧ RoundL w0 w' p pb ty z0 (writeT H (zs.take 26)) (RC z0) σ0 (j + 1) s' F' cs' ∧ Upd (pb :: p.all F) w w' ∧ ∀ x ∈ F', x ∈ F ∨ w.heap.size ≤ x := by
  refine (putl_step _ _ p pb ty (writeT H (zs.take 26)) (RC z0) _ s F cs _ time w h.run.put (RC.apart _ _) (fun _ => by kernel_rfl) ?_).mono fun e w' hs => h.next (writeT_free H _) hs
  intro w1 h1 hb1 hov hu
  have hc := h.open_ hov
  subst hc
  refine writing_run H wa len cap zs lb n pb ty _ p _ (s.begin time) F 1000000 w1 h1 (h.run.begin_in time hj) (Nat.le_refl _) hov hb1 h.run.put.far (Blk.upd hl hu ?_) hlf hh (hz w1 hu)
  have htF := h.run.put.tl.tm.tF
  simp only [List.mem_singleton]
  rintro rfl
  exact hlf (by simp [Pl.all, htF])
theorem nums_at28 {xs : List Int} {i : Nat} (h : i < xs.length) : (xs.map (Value.int .i64))[i]? = some (.int .i64 (xs.getD i 0)) := by simp [List.getElem?_map, List.getElem?_eq_getElem h, List.getD_eq_getElem?_getD]
theorem take26 (zs : List Int) (k : Nat) (hk : k < 26) : (zs.take 26).getD k 0 = zs.getD k 0 := by
  simp only [List.getD_eq_getElem?_getD]
  rw [List.getElem?_take_of_lt hk]
set_option maxRecDepth 100000 in
set_option maxHeartbeats 4000000 in
theorem walk_ReplaceWrites (wa : Option Addr) (len cap : Nat) (zs : List Int) (st : Bool) (w : World) (hz : ArgInts .i64 w wa len cap zs) :
    Calls Try.prog 14 #[.slice wa len cap, .bool st] w fun e w' => e = .returned (.bool true) ∧ Below w.heap.size w w' := by
  have hzl := hz.hl
  have hle := hz.le
  have hzm := hz.hm
  unfold maxLen at hzm
  have HB := Lib.hid (Below.refl w.heap.size w)
  have HA := Lib.hid hz
  have HZL := Lib.hid hzl
  clear hz hzl
  by_cases h60 : 60 < len
  · have h60i : (60 : Int) < len := by omega
    go_enter Try.func14, Try.ntmps14
    go_wp2_with fail
    refine (awake19 w).mono ?_
    rintro e w1 ⟨rfl, hb⟩
    replace HB := Lib.hid (below_thru HB.out hb)
    clear hb
    go_wp2_with fail
    refine (awake19 w1).mono ?_
    rintro e w2 ⟨rfl, hb⟩
    replace HB := Lib.hid (below_thru HB.out hb)
    clear hb
    go_wp2
    go_ret
    exact ⟨rfl, HB.out⟩
  · have h60i : ¬ (60 : Int) < len := by omega
    obtain ⟨H, hH⟩ : ∃ H : Int, H = if st then 131074 else 65538 := ⟨_, rfl⟩
    have HH := Lib.hid hH
    have HHW := Lib.hid (show WfI H from WfI.of (by subst hH; split <;> omega))
    have hHb : H < 9223372036854775808 := by have := HHW.out.bounds.2; omega
    go_enter Try.func14, Try.ntmps14
    go_wp2_with fail
    refine (awake19 w).mono ?_
    rintro e w1 ⟨rfl, hb⟩
    replace HB := Lib.hid (below_thru HB.out hb)
    clear hb
    have HN := Lib.hid (replace_new 3 w1 (WfI.of ⟨by omega, by omega⟩))
    go_wp2_with fail
    refine HN.out.mono ?_
    rintro e w2 ⟨lb, m, c, a, b, rfl, hb0, hnl⟩
    have hnl3 : NewLand w2 w1.heap.size lb m c a b 3 := hnl
    have HL0 := Lib.hid (hnl3.of (by decide) (by decide))
    have HNEW := Lib.hid (show ∀ x ∈ [m, c, a, b], w.heap.size ≤ x by
      have h1 := hnl.new
      have h2 := HB.out.size
      intro x hx
      simp only [List.mem_cons, List.not_mem_nil, or_false] at hx
      omega)
    have HB2 := Lib.hid (below_thru HB.out hb0)
    clear hb0 hnl hnl3 HN HB
    have HD := Lib.hid (do_take HL0.out (sm_new 3) (by omega) (by omega) 0 0 0 0 0 none)
    obtain ⟨d0, d1, d2⟩ := HL0.out.top.at3
    go_wp2_with fail
    refine HD.out.mono ?_
    rintro e w3 ⟨cs, n, rfl, hn, ⟨A, ec, rfl, -, -, -⟩, hl, hu⟩
    have HLO := Lib.hid hl
    have HB := Lib.hid (below_upd HB2.out hu (Nat.le_refl _) HNEW.out)
    clear hu hl HD HL0 HB2 hn d0 d1 d2
    have HT2 := Lib.hid take2
    simp only [HT2.out, Int.cast_ofNat_Int]
    obtain ⟨σ, f, α, hla, hli, hrl⟩ := HLO.out.land
    have HLB := Lib.hid HLO.out.top
    have HLF := Lib.hid HLO.out.off
    have HLA := Lib.hid hla
    obtain ⟨σ', X, Y, hw⟩ := writes_plain hli hrl st H HH.out (zs.take 26) (by rw [List.length_take]; omega)
    have HW := Lib.hid hw
    have HW3 := Lib.hid (show w.heap.size ≤ w3.heap.size from HB.out.size)
    have HLT := Lib.hid hla.lt
    have HU := Lib.hid (Upd.refl [m, c, a, b] w3)
    have HLB0 := HLB
    clear hla hli hrl hw HLO hH
    replace HLA := Lib.hid (HLA.out.thru (below_alloc0 w3 (.cells #[.int .i64 65538, .slice A 0 ec, .bool false, .int .i64 0] 84)))
    replace HLB := Lib.hid (HLB.out.thru (below_alloc0 w3 (.cells #[.int .i64 65538, .slice A 0 ec, .bool false, .int .i64 0] 84)))
    replace HU := Lib.hid (HU.out.thru (below_alloc0 w3 (.cells #[.int .i64 65538, .slice A 0 ec, .bool false, .int .i64 0] 84)))
    have HRR := Lib.hid (Blk.new w3 84 #[.int .i64 65538, .slice A 0 ec, .bool false, .int .i64 0])
    go_upto_region 5 with fail
    have HZ := Lib.hid (World.size_alloc w3 (.cells #[.int .i64 65538, .slice A 0 ec, .bool false, .int .i64 0] 84))
    obtain ⟨rb, hrb⟩ : ∃ x, w3.heap.size = x := ⟨_, rfl⟩
    simp only [hrb] at HRR HZ ⊢
    replace hrb := Lib.hid hrb
    generalize w3.alloc (.cells #[.int .i64 65538, .slice A 0 ec, .bool false, .int .i64 0] 84) = w4 at *
    have HLB3 := Lib.hid (show LandB w3 lb m a 3 from HLB0.out)
    obtain ⟨q0, q1, q2, q3⟩ := HRR.out.at4
    by_cases h26 : len ≤ 26
    · have h26i : (len : Int) ≤ 26 := by omega
      have HTK := Lib.hid (show (zs.take 26).length = len by rw [List.length_take, HZL.out]; omega)
      cases st with
      | false =>
        obtain rfl : H = 65538 := HH.out
        have HC := Lib.hid (show Calls Try.prog 34 #[.pointer (some ⟨a, 0, none⟩), .int .i64 65538, .int .i64 0] (w4).drew (fun e w' => e = .returned (.int .i64 (σ.ar.cell 65538 0)) ∧ w' = (w4).drew) from (arena_cell a b σ.ar 65538 0 (w4).drew (HLA.out.ar.drewN 1) (by omega)).mono fun _ _ ⟨h1, h2⟩ => ⟨h1, h2.symm⟩)
        have HK := Lib.hid (cell_look_as m c σ.mu (σ.ar.cell 65538 0) 28 X 28 HW.out.x HW.out.xl (w4).drew (HLA.out.mem.drewN 1))
        obtain ⟨d0, d1, d2⟩ := (show Blk (w4).drew lb 93 _ from HLB.out).at3
        go_upto_region 8 with fail
        refine wp_region_still_tail 10 (by kernel_rfl) (by kernel_rfl) ?_
        simp only [List.take_succ_cons, List.take_zero, List.drop_succ_cons, List.drop_zero]
        repeat (first | still_call (HC.out) | still_step)
        try refine wpStill_nil ?_
        change wpList _ _ _ _ _ (w4).drew
        clear d0 d1 d2 HC
        go_wp2_with fail
        refine HK.out.mono ?_
        rintro e w5 ⟨g, gc8, rfl, hg, hrow, hb⟩
        clear HK
        replace HLA := Lib.hid (HLA.out.thru (below_thru (below_drewN0 w4 1) hb))
        replace HLB := Lib.hid (HLB.out.thru (below_thru (below_drewN0 w4 1) hb))
        replace HU := Lib.hid (HU.out.thru (below_thru (below_drewN0 w4 1) hb))
        replace HRR := Lib.hid (HRR.out.thru (below_thru (below_drewN0 w4 1) hb))
        have HXR := Lib.hid hrow
        have HG := Lib.hid (show rb < g ∧ g < w5.heap.size from ⟨by have : w4.heap.size ≤ g := hg; have := HZ.out; omega, hrow.lt⟩)
        clear hrow hg hb HZ
        obtain ⟨tb, htb⟩ : ∃ x, w5.heap.size = x := ⟨_, rfl⟩
        have HT := Lib.hid (t_new m c σ.mu w5 HLA.out.mem)
        rw [htb] at HT HG
        have HTB := Lib.hid htb
        clear htb
        obtain ⟨d0, d1, d2⟩ := HLB.out.at3
        go_wp2_with fail
        refine HT.out.mono ?_
        rintro e w6 ⟨rfl, htm, hb⟩
        clear d0 d1 d2 HT
        replace HLA := Lib.hid (HLA.out.thru (show Below w5.heap.size w5 w6 from (by rw [HTB.out]; exact hb)))
        replace HLB := Lib.hid (HLB.out.thru (show Below w5.heap.size w5 w6 from (by rw [HTB.out]; exact hb)))
        replace HU := Lib.hid (HU.out.thru (show Below w5.heap.size w5 w6 from (by rw [HTB.out]; exact hb)))
        replace HRR := Lib.hid (HRR.out.thru (show Below w5.heap.size w5 w6 from (by rw [HTB.out]; exact hb)))
        replace HXR := Lib.hid (HXR.out.thru (show Below w5.heap.size w5 w6 from (by rw [HTB.out]; exact hb)))
        have HR0 := Lib.hid (RoundL.first (r := writeT 65538 (zs.take 26)) (R := RC #[.int .i64 65538, .slice A 0 ec, .bool false, .int .i64 0]) (w0 := w3) HLA.out htm (by have := hrb.out; have := HG.out; omega) (by have := hrb.out; omega) (by have := HG.out; omega) HRR.out HLT.out HU.out)
        clear htm hb HLA HLB HU HRR HTB
        go_wp2_with fail
        go_loopw [12] (fun i wr => ∃ (j : Nat) (s : TrS) (F : List Nat) (cs : Array Value), j ≤ 70 ∧ i = .int .i64 j ∧ RoundL w3 wr ⟨m, c, tb, a, b⟩ rb 84 #[.int .i64 65538, .slice A 0 ec, .bool false, .int .i64 0] (writeT 65538 (zs.take 26)) (RC #[.int .i64 65538, .slice A 0 ec, .bool false, .int .i64 0]) σ j s F cs ∧
            Row wr 2 1 g 28 gc8 (X.map (Value.int .i64)) ∧ g ∉ F) (fun i _ => 70 - (intOf i).toNat)
        case atStart => exact ⟨0, _, _, _, by omega, rfl, HR0.out, HXR.out, by have := HG.out; simp; omega⟩
        case round =>
          clear HR0 HXR
          obtain ⟨j, s, F, cs, hj, rfl, hrd, hxr, hgf⟩ := hrel
          have HRD := Lib.hid hrd
          have HO := Lib.hid (t_over m c tb _ s F wr hrd.run.put.tl.tm)
          clear hrd
          cases hov : s.over with
          | true =>
            rw [hov] at HO
            by_cases hlt : j < 70
            · go_wp2_with fail
              refine HO.out.mono ?_
              rintro e w6 ⟨rfl, rfl⟩
              obtain ⟨htl, hblk, -, htold⟩ := HRD.out.run.ends (writeT_free _ _) hov
              rw [HW.out.s] at htl
              rw [HW.out.n] at htold
              have HLA := Lib.hid htl.land
              have HLB := Lib.hid (Blk.upd HLB3.out HRD.out.run.low HLF.out)
              have HXR := Lib.hid hxr
              have HBW := Lib.hid (below_upd HB.out HRD.out.run.low (Nat.le_refl _) HNEW.out)
              have HTL := Lib.hid htl
              have HTO := Lib.hid htold
              have HOV := Lib.hid hov
              clear hxr htl hblk HRD hov htold HO hgf
              have HC := Lib.hid (show Calls Try.prog 34 #[.pointer (some ⟨a, 0, none⟩), .int .i64 65538, .int .i64 0] (wr).drew (fun e w' => e = .returned (.int .i64 (σ'.ar.cell 65538 0)) ∧ w' = (wr).drew) from (arena_cell a b σ'.ar 65538 0 (wr).drew (HLA.out.ar.drewN 1) (by omega)).mono fun _ _ ⟨h1, h2⟩ => ⟨h1, h2.symm⟩)
              have HK := Lib.hid (cell_look_as m c σ'.mu (σ'.ar.cell 65538 0) 28 Y 28 HW.out.y HW.out.yl (wr).drew (HLA.out.mem.drewN 1))
              obtain ⟨d0, d1, d2⟩ := (show Blk (wr).drew lb 93 _ from HLB.out).at3
              go_upto_region 14 with fail
              refine wp_region_still_tail 10 (by kernel_rfl) (by kernel_rfl) ?_
              simp only [List.take_succ_cons, List.take_zero, List.drop_succ_cons, List.drop_zero]
              repeat (first | still_call (HC.out) | still_step)
              try refine wpStill_nil ?_
              change wpList _ _ _ _ _ (wr).drew
              clear d0 d1 d2 HC
              go_wp2_with fail
              refine HK.out.mono ?_
              rintro e w7 ⟨g2, gc14, rfl, hg, hyr, hb⟩
              clear HK
              replace HLA := Lib.hid (HLA.out.thru (below_thru (below_drewN0 wr 1) hb))
              replace HLB := Lib.hid (HLB.out.thru (below_thru (below_drewN0 wr 1) hb))
              replace HXR := Lib.hid (HXR.out.thru (below_thru (below_drewN0 wr 1) hb))
              replace HBW := Lib.hid (below_thru HBW.out (below_thru (below_drewN0 wr 1) hb))
              replace HTL := Lib.hid (HTL.out.thru (below_thru (below_drewN0 wr 1) hb))
              have HYR := Lib.hid hyr
              clear hyr hg hb
              have HO := Lib.hid (t_over m c tb _ s F w7 HTL.out.tm)
              have HS := Lib.hid (t_steps m c tb _ s F w7 HTL.out.tm)
              rw [HOV.out] at HO
              rw [HTO.out, HTK.out] at HS
              go_wp2_with fail
              refine HO.out.mono ?_
              rintro e w8 ⟨rfl, rfl⟩
              go_wp2_with fail
              refine HS.out.mono ?_
              rintro e w8 ⟨rfl, rfl⟩
              go_wp2_with fail
              go_loopw [14] (fun i w9 => ∃ k : Nat, k ≤ 28 ∧ i = .int .i64 k ∧ w7 = w9) (fun i _ => 28 - (intOf i).toNat)
              case atStart => exact ⟨0, by omega, rfl, by trivial⟩
              case round =>
                obtain ⟨k, hk, rfl, rfl⟩ := hrel
                by_cases hlt : k < 28
                · have hput := HW.out.put k hlt
                  rw [HTK.out] at hput
                  obtain ⟨x, hx⟩ : ∃ x, X.getD k 0 = x := ⟨_, rfl⟩
                  obtain ⟨y, hy⟩ : ∃ y, Y.getD k 0 = y := ⟨_, rfl⟩
                  have cx := HXR.out.cell (j := k) (u := .int .i64 x) (by rw [← hx]; exact nums_at28 (by rw [HW.out.xl]; exact hlt))
                  have cy := HYR.out.cell (j := k) (u := .int .i64 y) (by rw [← hy]; exact nums_at28 (by rw [HW.out.yl]; exact hlt))
                  rw [hx, hy] at hput
                  clear hx hy
                  by_cases hkl : k < len
                  · obtain ⟨zb, zo, hza, -, cz⟩ := (HA.out.thru HBW.out).at_ (j := k) (by omega)
                    subst hza
                    rw [if_pos hkl, take26 zs k (by omega)] at hput
                    generalize zs.getD k 0 = z at hput cz
                    subst hput
                    go_wp2
                    go_roundw
                    case rel => exact ⟨k + 1, by omega, by go_num, by trivial⟩
                    case measure => simp [intOf]; omega
                  · rw [if_neg hkl] at hput
                    subst hput
                    go_wp2
                    all_goals
                      go_roundw
                      case rel => exact ⟨k + 1, by omega, by go_num, by trivial⟩
                      case measure => simp [intOf]; omega
                · obtain rfl : k = 28 := by omega
                  have HSL := Lib.hid (arena_stale a b σ'.ar w7 HLA.out.ar)
                  have hst := HW.out.stale
                  rw [HTK.out] at hst
                  rw [hst] at HSL
                  obtain ⟨d0, d1, d2⟩ := HLB.out.at3
                  clear hst
                  go_wp2_with fail
                  refine HSL.out.mono ?_
                  rintro e w8 ⟨rfl, rfl⟩
                  go_wp2
                  all_goals go_ret
                  all_goals exact ⟨by simp <;> omega, HBW.out⟩
            · obtain rfl : j = 70 := by omega
              obtain ⟨htl, hblk, -, htold⟩ := HRD.out.run.ends (writeT_free _ _) hov
              rw [HW.out.s] at htl
              rw [HW.out.n] at htold
              have HLA := Lib.hid htl.land
              have HLB := Lib.hid (Blk.upd HLB3.out HRD.out.run.low HLF.out)
              have HXR := Lib.hid hxr
              have HBW := Lib.hid (below_upd HB.out HRD.out.run.low (Nat.le_refl _) HNEW.out)
              have HTL := Lib.hid htl
              have HTO := Lib.hid htold
              have HOV := Lib.hid hov
              clear hxr htl hblk HRD hov htold HO hgf
              have HC := Lib.hid (show Calls Try.prog 34 #[.pointer (some ⟨a, 0, none⟩), .int .i64 65538, .int .i64 0] (wr).drew (fun e w' => e = .returned (.int .i64 (σ'.ar.cell 65538 0)) ∧ w' = (wr).drew) from (arena_cell a b σ'.ar 65538 0 (wr).drew (HLA.out.ar.drewN 1) (by omega)).mono fun _ _ ⟨h1, h2⟩ => ⟨h1, h2.symm⟩)
              have HK := Lib.hid (cell_look_as m c σ'.mu (σ'.ar.cell 65538 0) 28 Y 28 HW.out.y HW.out.yl (wr).drew (HLA.out.mem.drewN 1))
              obtain ⟨d0, d1, d2⟩ := (show Blk (wr).drew lb 93 _ from HLB.out).at3
              go_upto_region 14 with fail
              refine wp_region_still_tail 10 (by kernel_rfl) (by kernel_rfl) ?_
              simp only [List.take_succ_cons, List.take_zero, List.drop_succ_cons, List.drop_zero]
              repeat (first | still_call (HC.out) | still_step)
              try refine wpStill_nil ?_
              change wpList _ _ _ _ _ (wr).drew
              clear d0 d1 d2 HC
              go_wp2_with fail
              refine HK.out.mono ?_
              rintro e w7 ⟨g2, gc14, rfl, hg, hyr, hb⟩
              clear HK
              replace HLA := Lib.hid (HLA.out.thru (below_thru (below_drewN0 wr 1) hb))
              replace HLB := Lib.hid (HLB.out.thru (below_thru (below_drewN0 wr 1) hb))
              replace HXR := Lib.hid (HXR.out.thru (below_thru (below_drewN0 wr 1) hb))
              replace HBW := Lib.hid (below_thru HBW.out (below_thru (below_drewN0 wr 1) hb))
              replace HTL := Lib.hid (HTL.out.thru (below_thru (below_drewN0 wr 1) hb))
              have HYR := Lib.hid hyr
              clear hyr hg hb
              have HO := Lib.hid (t_over m c tb _ s F w7 HTL.out.tm)
              have HS := Lib.hid (t_steps m c tb _ s F w7 HTL.out.tm)
              rw [HOV.out] at HO
              rw [HTO.out, HTK.out] at HS
              go_wp2_with fail
              refine HO.out.mono ?_
              rintro e w8 ⟨rfl, rfl⟩
              go_wp2_with fail
              refine HS.out.mono ?_
              rintro e w8 ⟨rfl, rfl⟩
              go_wp2_with fail
              go_loopw [14] (fun i w9 => ∃ k : Nat, k ≤ 28 ∧ i = .int .i64 k ∧ w7 = w9) (fun i _ => 28 - (intOf i).toNat)
              case atStart => exact ⟨0, by omega, rfl, by trivial⟩
              case round =>
                obtain ⟨k, hk, rfl, rfl⟩ := hrel
                by_cases hlt : k < 28
                · have hput := HW.out.put k hlt
                  rw [HTK.out] at hput
                  obtain ⟨x, hx⟩ : ∃ x, X.getD k 0 = x := ⟨_, rfl⟩
                  obtain ⟨y, hy⟩ : ∃ y, Y.getD k 0 = y := ⟨_, rfl⟩
                  have cx := HXR.out.cell (j := k) (u := .int .i64 x) (by rw [← hx]; exact nums_at28 (by rw [HW.out.xl]; exact hlt))
                  have cy := HYR.out.cell (j := k) (u := .int .i64 y) (by rw [← hy]; exact nums_at28 (by rw [HW.out.yl]; exact hlt))
                  rw [hx, hy] at hput
                  clear hx hy
                  by_cases hkl : k < len
                  · obtain ⟨zb, zo, hza, -, cz⟩ := (HA.out.thru HBW.out).at_ (j := k) (by omega)
                    subst hza
                    rw [if_pos hkl, take26 zs k (by omega)] at hput
                    generalize zs.getD k 0 = z at hput cz
                    subst hput
                    go_wp2
                    go_roundw
                    case rel => exact ⟨k + 1, by omega, by go_num, by trivial⟩
                    case measure => simp [intOf]; omega
                  · rw [if_neg hkl] at hput
                    subst hput
                    go_wp2
                    all_goals
                      go_roundw
                      case rel => exact ⟨k + 1, by omega, by go_num, by trivial⟩
                      case measure => simp [intOf]; omega
                · obtain rfl : k = 28 := by omega
                  have HSL := Lib.hid (arena_stale a b σ'.ar w7 HLA.out.ar)
                  have hst := HW.out.stale
                  rw [HTK.out] at hst
                  rw [hst] at HSL
                  obtain ⟨d0, d1, d2⟩ := HLB.out.at3
                  clear hst
                  go_wp2_with fail
                  refine HSL.out.mono ?_
                  rintro e w8 ⟨rfl, rfl⟩
                  go_wp2
                  all_goals go_ret
                  all_goals exact ⟨by simp <;> omega, HBW.out⟩
          | false =>
            have hlt : j < 70 := by
              have h1 := HRD.out.run.over
              rw [hov, HW.out.n] at h1
              have h2 : (zs.take 26).length ≤ 26 := by rw [List.length_take]; omega
              by_cases h3 : j < 70
              · exact h3
              · simp only [Bool.false_eq, Bool.and_eq_false_iff, decide_eq_false_iff_not] at h1
                omega
            have HLBr := Lib.hid (Blk.upd HLB3.out HRD.out.run.low HLF.out)
            have hall : ∀ x, w3.heap.size ≤ x → x ≠ tb → x ∉ F → x ∉ (Pl.mk m c tb a b).all F := by
              intro x hx hx2 hxF hin
              have h1 := HLT.out m (by simp)
              have h2 := HLT.out c (by simp)
              have h3 := HLT.out a (by simp)
              have h4 := HLT.out b (by simp)
              simp only [Pl.all, List.mem_cons] at hin
              rcases hin with e | e | e | e | e
              · omega
              · omega
              · omega
              · omega
              · exact hxF e
            have HS := Lib.hid (step_writes (wa := wa) (len := len) (cap := cap) (zs := zs) HRD.out HLBr.out (by
                intro hin
                have h2 := HLF.out
                simp only [List.mem_cons, List.not_mem_nil, or_false, not_or] at h2
                simp only [Pl.all, List.mem_cons] at hin
                rcases hin with e | e | e | e | e
                · exact h2.1 e
                · exact h2.2.1 e
                · exact h2.2.2.1 e
                · exact h2.2.2.2 e
                · have := HRD.out.run.new _ e
                  have := HLB3.out.lt
                  omega) HHW.out (fun w1 hu1 => IntsOff.of_arg HA.out (below_upd (below_upd HB.out HRD.out.run.low (Nat.le_refl _) HNEW.out) hu1 (Nat.le_refl _) (by
                    intro x hx
                    simp only [List.mem_singleton] at hx
                    subst hx
                    have := HRD.out.run.new _ HRD.out.run.put.tl.tm.tF
                    have := HW3.out
                    simp only at *
                    omega)) (by
                    intro x hx
                    simp only [Pl.all, List.mem_cons] at hx
                    rcases hx with e | e | e | e | e
                    · exact HNEW.out _ (by simp [e])
                    · exact HNEW.out _ (by simp [e])
                    · exact HNEW.out _ (by simp [e])
                    · exact HNEW.out _ (by simp [e])
                    · have := HRD.out.run.new _ e
                      have := HW3.out
                      omega)) (j : Int) (by omega))
            rw [hov] at HO
            obtain ⟨d0, d1, d2⟩ := HLBr.out.at3
            go_wp2_with fail
            refine HO.out.mono ?_
            rintro e w6 ⟨rfl, rfl⟩
            go_wp2_with fail
            refine HS.out.mono ?_
            rintro e w6 ⟨bb, s', F', cs', rfl, hrd', hu, hF'⟩
            have HREL := Lib.hid (show _ ∧ _ ∧ _ from ⟨hrd', hxr.upd hu (by
                have h1 := HG.out
                have h2 := hrb.out
                simp only [List.mem_cons, not_or]
                exact ⟨by omega, hall g (by omega) (by omega) hgf⟩), fun hin => (hF' g hin).elim hgf fun h => by have := hxr.lt; omega⟩)
            clear hrd' hu hF' d0 d1 d2 HS HO HRD HLBr hxr hgf hall hov
            go_wp2
            go_roundw
            case rel => exact ⟨j + 1, s', F', cs', by omega, by go_num, HREL.out⟩
            case measure => simp [intOf]; omega
      | true =>
        obtain rfl : H = 131074 := HH.out
        have HC := Lib.hid (show Calls Try.prog 34 #[.pointer (some ⟨a, 0, none⟩), .int .i64 131074, .int .i64 0] (w4).drew (fun e w' => e = .returned (.int .i64 (σ.ar.cell 131074 0)) ∧ w' = (w4).drew) from (arena_cell a b σ.ar 131074 0 (w4).drew (HLA.out.ar.drewN 1) (by omega)).mono fun _ _ ⟨h1, h2⟩ => ⟨h1, h2.symm⟩)
        have HK := Lib.hid (cell_look_as m c σ.mu (σ.ar.cell 131074 0) 28 X 28 HW.out.x HW.out.xl (w4).drew (HLA.out.mem.drewN 1))
        obtain ⟨d0, d1, d2⟩ := (show Blk (w4).drew lb 93 _ from HLB.out).at3
        go_upto_region 8 with fail
        refine wp_region_still_tail 10 (by kernel_rfl) (by kernel_rfl) ?_
        simp only [List.take_succ_cons, List.take_zero, List.drop_succ_cons, List.drop_zero]
        repeat (first | still_call (HC.out) | still_step)
        try refine wpStill_nil ?_
        change wpList _ _ _ _ _ (w4).drew
        clear d0 d1 d2 HC
        go_wp2_with fail
        refine HK.out.mono ?_
        rintro e w5 ⟨g, gc8, rfl, hg, hrow, hb⟩
        clear HK
        replace HLA := Lib.hid (HLA.out.thru (below_thru (below_drewN0 w4 1) hb))
        replace HLB := Lib.hid (HLB.out.thru (below_thru (below_drewN0 w4 1) hb))
        replace HU := Lib.hid (HU.out.thru (below_thru (below_drewN0 w4 1) hb))
        replace HRR := Lib.hid (HRR.out.thru (below_thru (below_drewN0 w4 1) hb))
        have HXR := Lib.hid hrow
        have HG := Lib.hid (show rb < g ∧ g < w5.heap.size from ⟨by have : w4.heap.size ≤ g := hg; have := HZ.out; omega, hrow.lt⟩)
        clear hrow hg hb HZ
        obtain ⟨tb, htb⟩ : ∃ x, w5.heap.size = x := ⟨_, rfl⟩
        have HT := Lib.hid (t_new m c σ.mu w5 HLA.out.mem)
        rw [htb] at HT HG
        have HTB := Lib.hid htb
        clear htb
        obtain ⟨d0, d1, d2⟩ := HLB.out.at3
        go_wp2_with fail
        refine HT.out.mono ?_
        rintro e w6 ⟨rfl, htm, hb⟩
        clear d0 d1 d2 HT
        replace HLA := Lib.hid (HLA.out.thru (show Below w5.heap.size w5 w6 from (by rw [HTB.out]; exact hb)))
        replace HLB := Lib.hid (HLB.out.thru (show Below w5.heap.size w5 w6 from (by rw [HTB.out]; exact hb)))
        replace HU := Lib.hid (HU.out.thru (show Below w5.heap.size w5 w6 from (by rw [HTB.out]; exact hb)))
        replace HRR := Lib.hid (HRR.out.thru (show Below w5.heap.size w5 w6 from (by rw [HTB.out]; exact hb)))
        replace HXR := Lib.hid (HXR.out.thru (show Below w5.heap.size w5 w6 from (by rw [HTB.out]; exact hb)))
        have HR0 := Lib.hid (RoundL.first (r := writeT 131074 (zs.take 26)) (R := RC #[.int .i64 65538, .slice A 0 ec, .bool false, .int .i64 0]) (w0 := w3) HLA.out htm (by have := hrb.out; have := HG.out; omega) (by have := hrb.out; omega) (by have := HG.out; omega) HRR.out HLT.out HU.out)
        clear htm hb HLA HLB HU HRR HTB
        go_wp2_with fail
        go_loopw [12] (fun i wr => ∃ (j : Nat) (s : TrS) (F : List Nat) (cs : Array Value), j ≤ 70 ∧ i = .int .i64 j ∧ RoundL w3 wr ⟨m, c, tb, a, b⟩ rb 84 #[.int .i64 65538, .slice A 0 ec, .bool false, .int .i64 0] (writeT 131074 (zs.take 26)) (RC #[.int .i64 65538, .slice A 0 ec, .bool false, .int .i64 0]) σ j s F cs ∧
            Row wr 2 1 g 28 gc8 (X.map (Value.int .i64)) ∧ g ∉ F) (fun i _ => 70 - (intOf i).toNat)
        case atStart => exact ⟨0, _, _, _, by omega, rfl, HR0.out, HXR.out, by have := HG.out; simp; omega⟩
        case round =>
          clear HR0 HXR
          obtain ⟨j, s, F, cs, hj, rfl, hrd, hxr, hgf⟩ := hrel
          have HRD := Lib.hid hrd
          have HO := Lib.hid (t_over m c tb _ s F wr hrd.run.put.tl.tm)
          clear hrd
          cases hov : s.over with
          | true =>
            rw [hov] at HO
            by_cases hlt : j < 70
            · go_wp2_with fail
              refine HO.out.mono ?_
              rintro e w6 ⟨rfl, rfl⟩
              obtain ⟨htl, hblk, -, htold⟩ := HRD.out.run.ends (writeT_free _ _) hov
              rw [HW.out.s] at htl
              rw [HW.out.n] at htold
              have HLA := Lib.hid htl.land
              have HLB := Lib.hid (Blk.upd HLB3.out HRD.out.run.low HLF.out)
              have HXR := Lib.hid hxr
              have HBW := Lib.hid (below_upd HB.out HRD.out.run.low (Nat.le_refl _) HNEW.out)
              have HTL := Lib.hid htl
              have HTO := Lib.hid htold
              have HOV := Lib.hid hov
              clear hxr htl hblk HRD hov htold HO hgf
              have HC := Lib.hid (show Calls Try.prog 34 #[.pointer (some ⟨a, 0, none⟩), .int .i64 131074, .int .i64 0] (wr).drew (fun e w' => e = .returned (.int .i64 (σ'.ar.cell 131074 0)) ∧ w' = (wr).drew) from (arena_cell a b σ'.ar 131074 0 (wr).drew (HLA.out.ar.drewN 1) (by omega)).mono fun _ _ ⟨h1, h2⟩ => ⟨h1, h2.symm⟩)
              have HK := Lib.hid (cell_look_as m c σ'.mu (σ'.ar.cell 131074 0) 28 Y 28 HW.out.y HW.out.yl (wr).drew (HLA.out.mem.drewN 1))
              obtain ⟨d0, d1, d2⟩ := (show Blk (wr).drew lb 93 _ from HLB.out).at3
              go_upto_region 14 with fail
              refine wp_region_still_tail 10 (by kernel_rfl) (by kernel_rfl) ?_
              simp only [List.take_succ_cons, List.take_zero, List.drop_succ_cons, List.drop_zero]
              repeat (first | still_call (HC.out) | still_step)
              try refine wpStill_nil ?_
              change wpList _ _ _ _ _ (wr).drew
              clear d0 d1 d2 HC
              go_wp2_with fail
              refine HK.out.mono ?_
              rintro e w7 ⟨g2, gc14, rfl, hg, hyr, hb⟩
              clear HK
              replace HLA := Lib.hid (HLA.out.thru (below_thru (below_drewN0 wr 1) hb))
              replace HLB := Lib.hid (HLB.out.thru (below_thru (below_drewN0 wr 1) hb))
              replace HXR := Lib.hid (HXR.out.thru (below_thru (below_drewN0 wr 1) hb))
              replace HBW := Lib.hid (below_thru HBW.out (below_thru (below_drewN0 wr 1) hb))
              replace HTL := Lib.hid (HTL.out.thru (below_thru (below_drewN0 wr 1) hb))
              have HYR := Lib.hid hyr
              clear hyr hg hb
              have HO := Lib.hid (t_over m c tb _ s F w7 HTL.out.tm)
              have HS := Lib.hid (t_steps m c tb _ s F w7 HTL.out.tm)
              rw [HOV.out] at HO
              rw [HTO.out, HTK.out] at HS
              go_wp2_with fail
              refine HO.out.mono ?_
              rintro e w8 ⟨rfl, rfl⟩
              go_wp2_with fail
              refine HS.out.mono ?_
              rintro e w8 ⟨rfl, rfl⟩
              go_wp2_with fail
              go_loopw [14] (fun i w9 => ∃ k : Nat, k ≤ 28 ∧ i = .int .i64 k ∧ w7 = w9) (fun i _ => 28 - (intOf i).toNat)
              case atStart => exact ⟨0, by omega, rfl, by trivial⟩
              case round =>
                obtain ⟨k, hk, rfl, rfl⟩ := hrel
                by_cases hlt : k < 28
                · have hput := HW.out.put k hlt
                  rw [HTK.out] at hput
                  obtain ⟨x, hx⟩ : ∃ x, X.getD k 0 = x := ⟨_, rfl⟩
                  obtain ⟨y, hy⟩ : ∃ y, Y.getD k 0 = y := ⟨_, rfl⟩
                  have cx := HXR.out.cell (j := k) (u := .int .i64 x) (by rw [← hx]; exact nums_at28 (by rw [HW.out.xl]; exact hlt))
                  have cy := HYR.out.cell (j := k) (u := .int .i64 y) (by rw [← hy]; exact nums_at28 (by rw [HW.out.yl]; exact hlt))
                  rw [hx, hy] at hput
                  clear hx hy
                  by_cases hkl : k < len
                  · obtain ⟨zb, zo, hza, -, cz⟩ := (HA.out.thru HBW.out).at_ (j := k) (by omega)
                    subst hza
                    rw [if_pos hkl, take26 zs k (by omega)] at hput
                    generalize zs.getD k 0 = z at hput cz
                    subst hput
                    go_wp2
                    go_roundw
                    case rel => exact ⟨k + 1, by omega, by go_num, by trivial⟩
                    case measure => simp [intOf]; omega
                  · rw [if_neg hkl] at hput
                    subst hput
                    go_wp2
                    all_goals
                      go_roundw
                      case rel => exact ⟨k + 1, by omega, by go_num, by trivial⟩
                      case measure => simp [intOf]; omega
                · obtain rfl : k = 28 := by omega
                  have HSL := Lib.hid (arena_stale a b σ'.ar w7 HLA.out.ar)
                  have hst := HW.out.stale
                  rw [HTK.out] at hst
                  rw [hst] at HSL
                  obtain ⟨d0, d1, d2⟩ := HLB.out.at3
                  clear hst
                  go_wp2_with fail
                  refine HSL.out.mono ?_
                  rintro e w8 ⟨rfl, rfl⟩
                  go_wp2
                  all_goals go_ret
                  all_goals exact ⟨by simp <;> omega, HBW.out⟩
            · obtain rfl : j = 70 := by omega
              obtain ⟨htl, hblk, -, htold⟩ := HRD.out.run.ends (writeT_free _ _) hov
              rw [HW.out.s] at htl
              rw [HW.out.n] at htold
              have HLA := Lib.hid htl.land
              have HLB := Lib.hid (Blk.upd HLB3.out HRD.out.run.low HLF.out)
              have HXR := Lib.hid hxr
              have HBW := Lib.hid (below_upd HB.out HRD.out.run.low (Nat.le_refl _) HNEW.out)
              have HTL := Lib.hid htl
              have HTO := Lib.hid htold
              have HOV := Lib.hid hov
              clear hxr htl hblk HRD hov htold HO hgf
              have HC := Lib.hid (show Calls Try.prog 34 #[.pointer (some ⟨a, 0, none⟩), .int .i64 131074, .int .i64 0] (wr).drew (fun e w' => e = .returned (.int .i64 (σ'.ar.cell 131074 0)) ∧ w' = (wr).drew) from (arena_cell a b σ'.ar 131074 0 (wr).drew (HLA.out.ar.drewN 1) (by omega)).mono fun _ _ ⟨h1, h2⟩ => ⟨h1, h2.symm⟩)
              have HK := Lib.hid (cell_look_as m c σ'.mu (σ'.ar.cell 131074 0) 28 Y 28 HW.out.y HW.out.yl (wr).drew (HLA.out.mem.drewN 1))
              obtain ⟨d0, d1, d2⟩ := (show Blk (wr).drew lb 93 _ from HLB.out).at3
              go_upto_region 14 with fail
              refine wp_region_still_tail 10 (by kernel_rfl) (by kernel_rfl) ?_
              simp only [List.take_succ_cons, List.take_zero, List.drop_succ_cons, List.drop_zero]
              repeat (first | still_call (HC.out) | still_step)
              try refine wpStill_nil ?_
              change wpList _ _ _ _ _ (wr).drew
              clear d0 d1 d2 HC
              go_wp2_with fail
              refine HK.out.mono ?_
              rintro e w7 ⟨g2, gc14, rfl, hg, hyr, hb⟩
              clear HK
              replace HLA := Lib.hid (HLA.out.thru (below_thru (below_drewN0 wr 1) hb))
              replace HLB := Lib.hid (HLB.out.thru (below_thru (below_drewN0 wr 1) hb))
              replace HXR := Lib.hid (HXR.out.thru (below_thru (below_drewN0 wr 1) hb))
              replace HBW := Lib.hid (below_thru HBW.out (below_thru (below_drewN0 wr 1) hb))
              replace HTL := Lib.hid (HTL.out.thru (below_thru (below_drewN0 wr 1) hb))
              have HYR := Lib.hid hyr
              clear hyr hg hb
              have HO := Lib.hid (t_over m c tb _ s F w7 HTL.out.tm)
              have HS := Lib.hid (t_steps m c tb _ s F w7 HTL.out.tm)
              rw [HOV.out] at HO
              rw [HTO.out, HTK.out] at HS
              go_wp2_with fail
              refine HO.out.mono ?_
              rintro e w8 ⟨rfl, rfl⟩
              go_wp2_with fail
              refine HS.out.mono ?_
              rintro e w8 ⟨rfl, rfl⟩
              go_wp2_with fail
              go_loopw [14] (fun i w9 => ∃ k : Nat, k ≤ 28 ∧ i = .int .i64 k ∧ w7 = w9) (fun i _ => 28 - (intOf i).toNat)
              case atStart => exact ⟨0, by omega, rfl, by trivial⟩
              case round =>
                obtain ⟨k, hk, rfl, rfl⟩ := hrel
                by_cases hlt : k < 28
                · have hput := HW.out.put k hlt
                  rw [HTK.out] at hput
                  obtain ⟨x, hx⟩ : ∃ x, X.getD k 0 = x := ⟨_, rfl⟩
                  obtain ⟨y, hy⟩ : ∃ y, Y.getD k 0 = y := ⟨_, rfl⟩
                  have cx := HXR.out.cell (j := k) (u := .int .i64 x) (by rw [← hx]; exact nums_at28 (by rw [HW.out.xl]; exact hlt))
                  have cy := HYR.out.cell (j := k) (u := .int .i64 y) (by rw [← hy]; exact nums_at28 (by rw [HW.out.yl]; exact hlt))
                  rw [hx, hy] at hput
                  clear hx hy
                  by_cases hkl : k < len
                  · obtain ⟨zb, zo, hza, -, cz⟩ := (HA.out.thru HBW.out).at_ (j := k) (by omega)
                    subst hza
                    rw [if_pos hkl, take26 zs k (by omega)] at hput
                    generalize zs.getD k 0 = z at hput cz
                    subst hput
                    go_wp2
                    go_roundw
                    case rel => exact ⟨k + 1, by omega, by go_num, by trivial⟩
                    case measure => simp [intOf]; omega
                  · rw [if_neg hkl] at hput
                    subst hput
                    go_wp2
                    all_goals
                      go_roundw
                      case rel => exact ⟨k + 1, by omega, by go_num, by trivial⟩
                      case measure => simp [intOf]; omega
                · obtain rfl : k = 28 := by omega
                  have HSL := Lib.hid (arena_stale a b σ'.ar w7 HLA.out.ar)
                  have hst := HW.out.stale
                  rw [HTK.out] at hst
                  rw [hst] at HSL
                  obtain ⟨d0, d1, d2⟩ := HLB.out.at3
                  clear hst
                  go_wp2_with fail
                  refine HSL.out.mono ?_
                  rintro e w8 ⟨rfl, rfl⟩
                  go_wp2
                  all_goals go_ret
                  all_goals exact ⟨by simp <;> omega, HBW.out⟩
          | false =>
            have hlt : j < 70 := by
              have h1 := HRD.out.run.over
              rw [hov, HW.out.n] at h1
              have h2 : (zs.take 26).length ≤ 26 := by rw [List.length_take]; omega
              by_cases h3 : j < 70
              · exact h3
              · simp only [Bool.false_eq, Bool.and_eq_false_iff, decide_eq_false_iff_not] at h1
                omega
            have HLBr := Lib.hid (Blk.upd HLB3.out HRD.out.run.low HLF.out)
            have hall : ∀ x, w3.heap.size ≤ x → x ≠ tb → x ∉ F → x ∉ (Pl.mk m c tb a b).all F := by
              intro x hx hx2 hxF hin
              have h1 := HLT.out m (by simp)
              have h2 := HLT.out c (by simp)
              have h3 := HLT.out a (by simp)
              have h4 := HLT.out b (by simp)
              simp only [Pl.all, List.mem_cons] at hin
              rcases hin with e | e | e | e | e
              · omega
              · omega
              · omega
              · omega
              · exact hxF e
            have HS := Lib.hid (step_writes (wa := wa) (len := len) (cap := cap) (zs := zs) HRD.out HLBr.out (by
                intro hin
                have h2 := HLF.out
                simp only [List.mem_cons, List.not_mem_nil, or_false, not_or] at h2
                simp only [Pl.all, List.mem_cons] at hin
                rcases hin with e | e | e | e | e
                · exact h2.1 e
                · exact h2.2.1 e
                · exact h2.2.2.1 e
                · exact h2.2.2.2 e
                · have := HRD.out.run.new _ e
                  have := HLB3.out.lt
                  omega) HHW.out (fun w1 hu1 => IntsOff.of_arg HA.out (below_upd (below_upd HB.out HRD.out.run.low (Nat.le_refl _) HNEW.out) hu1 (Nat.le_refl _) (by
                    intro x hx
                    simp only [List.mem_singleton] at hx
                    subst hx
                    have := HRD.out.run.new _ HRD.out.run.put.tl.tm.tF
                    have := HW3.out
                    simp only at *
                    omega)) (by
                    intro x hx
                    simp only [Pl.all, List.mem_cons] at hx
                    rcases hx with e | e | e | e | e
                    · exact HNEW.out _ (by simp [e])
                    · exact HNEW.out _ (by simp [e])
                    · exact HNEW.out _ (by simp [e])
                    · exact HNEW.out _ (by simp [e])
                    · have := HRD.out.run.new _ e
                      have := HW3.out
                      omega)) (j : Int) (by omega))
            rw [hov] at HO
            obtain ⟨d0, d1, d2⟩ := HLBr.out.at3
            go_wp2_with fail
            refine HO.out.mono ?_
            rintro e w6 ⟨rfl, rfl⟩
            go_wp2_with fail
            refine HS.out.mono ?_
            rintro e w6 ⟨bb, s', F', cs', rfl, hrd', hu, hF'⟩
            have HREL := Lib.hid (show _ ∧ _ ∧ _ from ⟨hrd', hxr.upd hu (by
                have h1 := HG.out
                have h2 := hrb.out
                simp only [List.mem_cons, not_or]
                exact ⟨by omega, hall g (by omega) (by omega) hgf⟩), fun hin => (hF' g hin).elim hgf fun h => by have := hxr.lt; omega⟩)
            clear hrd' hu hF' d0 d1 d2 HS HO HRD HLBr hxr hgf hall hov
            go_wp2
            go_roundw
            case rel => exact ⟨j + 1, s', F', cs', by omega, by go_num, HREL.out⟩
            case measure => simp [intOf]; omega
    · have h26i : (26 : Int) < len := by omega
      have HTK := Lib.hid (show (zs.take 26).length = 26 by rw [List.length_take, HZL.out]; omega)
      cases st with
      | false =>
        obtain rfl : H = 65538 := HH.out
        have HC := Lib.hid (show Calls Try.prog 34 #[.pointer (some ⟨a, 0, none⟩), .int .i64 65538, .int .i64 0] (w4).drew (fun e w' => e = .returned (.int .i64 (σ.ar.cell 65538 0)) ∧ w' = (w4).drew) from (arena_cell a b σ.ar 65538 0 (w4).drew (HLA.out.ar.drewN 1) (by omega)).mono fun _ _ ⟨h1, h2⟩ => ⟨h1, h2.symm⟩)
        have HK := Lib.hid (cell_look_as m c σ.mu (σ.ar.cell 65538 0) 28 X 28 HW.out.x HW.out.xl (w4).drew (HLA.out.mem.drewN 1))
        obtain ⟨d0, d1, d2⟩ := (show Blk (w4).drew lb 93 _ from HLB.out).at3
        go_upto_region 8 with fail
        refine wp_region_still_tail 10 (by kernel_rfl) (by kernel_rfl) ?_
        simp only [List.take_succ_cons, List.take_zero, List.drop_succ_cons, List.drop_zero]
        repeat (first | still_call (HC.out) | still_step)
        try refine wpStill_nil ?_
        change wpList _ _ _ _ _ (w4).drew
        clear d0 d1 d2 HC
        go_wp2_with fail
        refine HK.out.mono ?_
        rintro e w5 ⟨g, gc8, rfl, hg, hrow, hb⟩
        clear HK
        replace HLA := Lib.hid (HLA.out.thru (below_thru (below_drewN0 w4 1) hb))
        replace HLB := Lib.hid (HLB.out.thru (below_thru (below_drewN0 w4 1) hb))
        replace HU := Lib.hid (HU.out.thru (below_thru (below_drewN0 w4 1) hb))
        replace HRR := Lib.hid (HRR.out.thru (below_thru (below_drewN0 w4 1) hb))
        have HXR := Lib.hid hrow
        have HG := Lib.hid (show rb < g ∧ g < w5.heap.size from ⟨by have : w4.heap.size ≤ g := hg; have := HZ.out; omega, hrow.lt⟩)
        clear hrow hg hb HZ
        obtain ⟨tb, htb⟩ : ∃ x, w5.heap.size = x := ⟨_, rfl⟩
        have HT := Lib.hid (t_new m c σ.mu w5 HLA.out.mem)
        rw [htb] at HT HG
        have HTB := Lib.hid htb
        clear htb
        obtain ⟨d0, d1, d2⟩ := HLB.out.at3
        go_wp2_with fail
        refine HT.out.mono ?_
        rintro e w6 ⟨rfl, htm, hb⟩
        clear d0 d1 d2 HT
        replace HLA := Lib.hid (HLA.out.thru (show Below w5.heap.size w5 w6 from (by rw [HTB.out]; exact hb)))
        replace HLB := Lib.hid (HLB.out.thru (show Below w5.heap.size w5 w6 from (by rw [HTB.out]; exact hb)))
        replace HU := Lib.hid (HU.out.thru (show Below w5.heap.size w5 w6 from (by rw [HTB.out]; exact hb)))
        replace HRR := Lib.hid (HRR.out.thru (show Below w5.heap.size w5 w6 from (by rw [HTB.out]; exact hb)))
        replace HXR := Lib.hid (HXR.out.thru (show Below w5.heap.size w5 w6 from (by rw [HTB.out]; exact hb)))
        have HR0 := Lib.hid (RoundL.first (r := writeT 65538 (zs.take 26)) (R := RC #[.int .i64 65538, .slice A 0 ec, .bool false, .int .i64 0]) (w0 := w3) HLA.out htm (by have := hrb.out; have := HG.out; omega) (by have := hrb.out; omega) (by have := HG.out; omega) HRR.out HLT.out HU.out)
        clear htm hb HLA HLB HU HRR HTB
        go_wp2_with fail
        go_loopw [12] (fun i wr => ∃ (j : Nat) (s : TrS) (F : List Nat) (cs : Array Value), j ≤ 70 ∧ i = .int .i64 j ∧ RoundL w3 wr ⟨m, c, tb, a, b⟩ rb 84 #[.int .i64 65538, .slice A 0 ec, .bool false, .int .i64 0] (writeT 65538 (zs.take 26)) (RC #[.int .i64 65538, .slice A 0 ec, .bool false, .int .i64 0]) σ j s F cs ∧
            Row wr 2 1 g 28 gc8 (X.map (Value.int .i64)) ∧ g ∉ F) (fun i _ => 70 - (intOf i).toNat)
        case atStart => exact ⟨0, _, _, _, by omega, rfl, HR0.out, HXR.out, by have := HG.out; simp; omega⟩
        case round =>
          clear HR0 HXR
          obtain ⟨j, s, F, cs, hj, rfl, hrd, hxr, hgf⟩ := hrel
          have HRD := Lib.hid hrd
          have HO := Lib.hid (t_over m c tb _ s F wr hrd.run.put.tl.tm)
          clear hrd
          cases hov : s.over with
          | true =>
            rw [hov] at HO
            by_cases hlt : j < 70
            · go_wp2_with fail
              refine HO.out.mono ?_
              rintro e w6 ⟨rfl, rfl⟩
              obtain ⟨htl, hblk, -, htold⟩ := HRD.out.run.ends (writeT_free _ _) hov
              rw [HW.out.s] at htl
              rw [HW.out.n] at htold
              have HLA := Lib.hid htl.land
              have HLB := Lib.hid (Blk.upd HLB3.out HRD.out.run.low HLF.out)
              have HXR := Lib.hid hxr
              have HBW := Lib.hid (below_upd HB.out HRD.out.run.low (Nat.le_refl _) HNEW.out)
              have HTL := Lib.hid htl
              have HTO := Lib.hid htold
              have HOV := Lib.hid hov
              clear hxr htl hblk HRD hov htold HO hgf
              have HC := Lib.hid (show Calls Try.prog 34 #[.pointer (some ⟨a, 0, none⟩), .int .i64 65538, .int .i64 0] (wr).drew (fun e w' => e = .returned (.int .i64 (σ'.ar.cell 65538 0)) ∧ w' = (wr).drew) from (arena_cell a b σ'.ar 65538 0 (wr).drew (HLA.out.ar.drewN 1) (by omega)).mono fun _ _ ⟨h1, h2⟩ => ⟨h1, h2.symm⟩)
              have HK := Lib.hid (cell_look_as m c σ'.mu (σ'.ar.cell 65538 0) 28 Y 28 HW.out.y HW.out.yl (wr).drew (HLA.out.mem.drewN 1))
              obtain ⟨d0, d1, d2⟩ := (show Blk (wr).drew lb 93 _ from HLB.out).at3
              go_upto_region 14 with fail
              refine wp_region_still_tail 10 (by kernel_rfl) (by kernel_rfl) ?_
              simp only [List.take_succ_cons, List.take_zero, List.drop_succ_cons, List.drop_zero]
              repeat (first | still_call (HC.out) | still_step)
              try refine wpStill_nil ?_
              change wpList _ _ _ _ _ (wr).drew
              clear d0 d1 d2 HC
              go_wp2_with fail
              refine HK.out.mono ?_
              rintro e w7 ⟨g2, gc14, rfl, hg, hyr, hb⟩
              clear HK
              replace HLA := Lib.hid (HLA.out.thru (below_thru (below_drewN0 wr 1) hb))
              replace HLB := Lib.hid (HLB.out.thru (below_thru (below_drewN0 wr 1) hb))
              replace HXR := Lib.hid (HXR.out.thru (below_thru (below_drewN0 wr 1) hb))
              replace HBW := Lib.hid (below_thru HBW.out (below_thru (below_drewN0 wr 1) hb))
              replace HTL := Lib.hid (HTL.out.thru (below_thru (below_drewN0 wr 1) hb))
              have HYR := Lib.hid hyr
              clear hyr hg hb
              have HO := Lib.hid (t_over m c tb _ s F w7 HTL.out.tm)
              have HS := Lib.hid (t_steps m c tb _ s F w7 HTL.out.tm)
              rw [HOV.out] at HO
              rw [HTO.out, HTK.out] at HS
              go_wp2_with fail
              refine HO.out.mono ?_
              rintro e w8 ⟨rfl, rfl⟩
              go_wp2_with fail
              refine HS.out.mono ?_
              rintro e w8 ⟨rfl, rfl⟩
              go_wp2_with fail
              go_loopw [14] (fun i w9 => ∃ k : Nat, k ≤ 28 ∧ i = .int .i64 k ∧ w7 = w9) (fun i _ => 28 - (intOf i).toNat)
              case atStart => exact ⟨0, by omega, rfl, by trivial⟩
              case round =>
                obtain ⟨k, hk, rfl, rfl⟩ := hrel
                by_cases hlt : k < 28
                · have hput := HW.out.put k hlt
                  rw [HTK.out] at hput
                  obtain ⟨x, hx⟩ : ∃ x, X.getD k 0 = x := ⟨_, rfl⟩
                  obtain ⟨y, hy⟩ : ∃ y, Y.getD k 0 = y := ⟨_, rfl⟩
                  have cx := HXR.out.cell (j := k) (u := .int .i64 x) (by rw [← hx]; exact nums_at28 (by rw [HW.out.xl]; exact hlt))
                  have cy := HYR.out.cell (j := k) (u := .int .i64 y) (by rw [← hy]; exact nums_at28 (by rw [HW.out.yl]; exact hlt))
                  rw [hx, hy] at hput
                  clear hx hy
                  by_cases hkl : k < 26
                  · obtain ⟨zb, zo, hza, -, cz⟩ := (HA.out.thru HBW.out).at_ (j := k) (by omega)
                    subst hza
                    rw [if_pos hkl, take26 zs k (by omega)] at hput
                    generalize zs.getD k 0 = z at hput cz
                    subst hput
                    go_wp2
                    go_roundw
                    case rel => exact ⟨k + 1, by omega, by go_num, by trivial⟩
                    case measure => simp [intOf]; omega
                  · rw [if_neg hkl] at hput
                    subst hput
                    go_wp2
                    all_goals
                      go_roundw
                      case rel => exact ⟨k + 1, by omega, by go_num, by trivial⟩
                      case measure => simp [intOf]; omega
                · obtain rfl : k = 28 := by omega
                  have HSL := Lib.hid (arena_stale a b σ'.ar w7 HLA.out.ar)
                  have hst := HW.out.stale
                  rw [HTK.out] at hst
                  rw [hst] at HSL
                  obtain ⟨d0, d1, d2⟩ := HLB.out.at3
                  clear hst
                  go_wp2_with fail
                  refine HSL.out.mono ?_
                  rintro e w8 ⟨rfl, rfl⟩
                  go_wp2
                  all_goals go_ret
                  all_goals exact ⟨by simp <;> omega, HBW.out⟩
            · obtain rfl : j = 70 := by omega
              obtain ⟨htl, hblk, -, htold⟩ := HRD.out.run.ends (writeT_free _ _) hov
              rw [HW.out.s] at htl
              rw [HW.out.n] at htold
              have HLA := Lib.hid htl.land
              have HLB := Lib.hid (Blk.upd HLB3.out HRD.out.run.low HLF.out)
              have HXR := Lib.hid hxr
              have HBW := Lib.hid (below_upd HB.out HRD.out.run.low (Nat.le_refl _) HNEW.out)
              have HTL := Lib.hid htl
              have HTO := Lib.hid htold
              have HOV := Lib.hid hov
              clear hxr htl hblk HRD hov htold HO hgf
              have HC := Lib.hid (show Calls Try.prog 34 #[.pointer (some ⟨a, 0, none⟩), .int .i64 65538, .int .i64 0] (wr).drew (fun e w' => e = .returned (.int .i64 (σ'.ar.cell 65538 0)) ∧ w' = (wr).drew) from (arena_cell a b σ'.ar 65538 0 (wr).drew (HLA.out.ar.drewN 1) (by omega)).mono fun _ _ ⟨h1, h2⟩ => ⟨h1, h2.symm⟩)
              have HK := Lib.hid (cell_look_as m c σ'.mu (σ'.ar.cell 65538 0) 28 Y 28 HW.out.y HW.out.yl (wr).drew (HLA.out.mem.drewN 1))
              obtain ⟨d0, d1, d2⟩ := (show Blk (wr).drew lb 93 _ from HLB.out).at3
              go_upto_region 14 with fail
              refine wp_region_still_tail 10 (by kernel_rfl) (by kernel_rfl) ?_
              simp only [List.take_succ_cons, List.take_zero, List.drop_succ_cons, List.drop_zero]
              repeat (first | still_call (HC.out) | still_step)
              try refine wpStill_nil ?_
              change wpList _ _ _ _ _ (wr).drew
              clear d0 d1 d2 HC
              go_wp2_with fail
              refine HK.out.mono ?_
              rintro e w7 ⟨g2, gc14, rfl, hg, hyr, hb⟩
              clear HK
              replace HLA := Lib.hid (HLA.out.thru (below_thru (below_drewN0 wr 1) hb))
              replace HLB := Lib.hid (HLB.out.thru (below_thru (below_drewN0 wr 1) hb))
              replace HXR := Lib.hid (HXR.out.thru (below_thru (below_drewN0 wr 1) hb))
              replace HBW := Lib.hid (below_thru HBW.out (below_thru (below_drewN0 wr 1) hb))
              replace HTL := Lib.hid (HTL.out.thru (below_thru (below_drewN0 wr 1) hb))
              have HYR := Lib.hid hyr
              clear hyr hg hb
              have HO := Lib.hid (t_over m c tb _ s F w7 HTL.out.tm)
              have HS := Lib.hid (t_steps m c tb _ s F w7 HTL.out.tm)
              rw [HOV.out] at HO
              rw [HTO.out, HTK.out] at HS
              go_wp2_with fail
              refine HO.out.mono ?_
              rintro e w8 ⟨rfl, rfl⟩
              go_wp2_with fail
              refine HS.out.mono ?_
              rintro e w8 ⟨rfl, rfl⟩
              go_wp2_with fail
              go_loopw [14] (fun i w9 => ∃ k : Nat, k ≤ 28 ∧ i = .int .i64 k ∧ w7 = w9) (fun i _ => 28 - (intOf i).toNat)
              case atStart => exact ⟨0, by omega, rfl, by trivial⟩
              case round =>
                obtain ⟨k, hk, rfl, rfl⟩ := hrel
                by_cases hlt : k < 28
                · have hput := HW.out.put k hlt
                  rw [HTK.out] at hput
                  obtain ⟨x, hx⟩ : ∃ x, X.getD k 0 = x := ⟨_, rfl⟩
                  obtain ⟨y, hy⟩ : ∃ y, Y.getD k 0 = y := ⟨_, rfl⟩
                  have cx := HXR.out.cell (j := k) (u := .int .i64 x) (by rw [← hx]; exact nums_at28 (by rw [HW.out.xl]; exact hlt))
                  have cy := HYR.out.cell (j := k) (u := .int .i64 y) (by rw [← hy]; exact nums_at28 (by rw [HW.out.yl]; exact hlt))
                  rw [hx, hy] at hput
                  clear hx hy
                  by_cases hkl : k < 26
                  · obtain ⟨zb, zo, hza, -, cz⟩ := (HA.out.thru HBW.out).at_ (j := k) (by omega)
                    subst hza
                    rw [if_pos hkl, take26 zs k (by omega)] at hput
                    generalize zs.getD k 0 = z at hput cz
                    subst hput
                    go_wp2
                    go_roundw
                    case rel => exact ⟨k + 1, by omega, by go_num, by trivial⟩
                    case measure => simp [intOf]; omega
                  · rw [if_neg hkl] at hput
                    subst hput
                    go_wp2
                    all_goals
                      go_roundw
                      case rel => exact ⟨k + 1, by omega, by go_num, by trivial⟩
                      case measure => simp [intOf]; omega
                · obtain rfl : k = 28 := by omega
                  have HSL := Lib.hid (arena_stale a b σ'.ar w7 HLA.out.ar)
                  have hst := HW.out.stale
                  rw [HTK.out] at hst
                  rw [hst] at HSL
                  obtain ⟨d0, d1, d2⟩ := HLB.out.at3
                  clear hst
                  go_wp2_with fail
                  refine HSL.out.mono ?_
                  rintro e w8 ⟨rfl, rfl⟩
                  go_wp2
                  all_goals go_ret
                  all_goals exact ⟨by simp <;> omega, HBW.out⟩
          | false =>
            have hlt : j < 70 := by
              have h1 := HRD.out.run.over
              rw [hov, HW.out.n] at h1
              have h2 : (zs.take 26).length ≤ 26 := by rw [List.length_take]; omega
              by_cases h3 : j < 70
              · exact h3
              · simp only [Bool.false_eq, Bool.and_eq_false_iff, decide_eq_false_iff_not] at h1
                omega
            have HLBr := Lib.hid (Blk.upd HLB3.out HRD.out.run.low HLF.out)
            have hall : ∀ x, w3.heap.size ≤ x → x ≠ tb → x ∉ F → x ∉ (Pl.mk m c tb a b).all F := by
              intro x hx hx2 hxF hin
              have h1 := HLT.out m (by simp)
              have h2 := HLT.out c (by simp)
              have h3 := HLT.out a (by simp)
              have h4 := HLT.out b (by simp)
              simp only [Pl.all, List.mem_cons] at hin
              rcases hin with e | e | e | e | e
              · omega
              · omega
              · omega
              · omega
              · exact hxF e
            have HS := Lib.hid (step_writes (wa := wa) (len := len) (cap := cap) (zs := zs) HRD.out HLBr.out (by
                intro hin
                have h2 := HLF.out
                simp only [List.mem_cons, List.not_mem_nil, or_false, not_or] at h2
                simp only [Pl.all, List.mem_cons] at hin
                rcases hin with e | e | e | e | e
                · exact h2.1 e
                · exact h2.2.1 e
                · exact h2.2.2.1 e
                · exact h2.2.2.2 e
                · have := HRD.out.run.new _ e
                  have := HLB3.out.lt
                  omega) HHW.out (fun w1 hu1 => IntsOff.of_arg HA.out (below_upd (below_upd HB.out HRD.out.run.low (Nat.le_refl _) HNEW.out) hu1 (Nat.le_refl _) (by
                    intro x hx
                    simp only [List.mem_singleton] at hx
                    subst hx
                    have := HRD.out.run.new _ HRD.out.run.put.tl.tm.tF
                    have := HW3.out
                    simp only at *
                    omega)) (by
                    intro x hx
                    simp only [Pl.all, List.mem_cons] at hx
                    rcases hx with e | e | e | e | e
                    · exact HNEW.out _ (by simp [e])
                    · exact HNEW.out _ (by simp [e])
                    · exact HNEW.out _ (by simp [e])
                    · exact HNEW.out _ (by simp [e])
                    · have := HRD.out.run.new _ e
                      have := HW3.out
                      omega)) (j : Int) (by omega))
            rw [hov] at HO
            obtain ⟨d0, d1, d2⟩ := HLBr.out.at3
            go_wp2_with fail
            refine HO.out.mono ?_
            rintro e w6 ⟨rfl, rfl⟩
            go_wp2_with fail
            refine HS.out.mono ?_
            rintro e w6 ⟨bb, s', F', cs', rfl, hrd', hu, hF'⟩
            have HREL := Lib.hid (show _ ∧ _ ∧ _ from ⟨hrd', hxr.upd hu (by
                have h1 := HG.out
                have h2 := hrb.out
                simp only [List.mem_cons, not_or]
                exact ⟨by omega, hall g (by omega) (by omega) hgf⟩), fun hin => (hF' g hin).elim hgf fun h => by have := hxr.lt; omega⟩)
            clear hrd' hu hF' d0 d1 d2 HS HO HRD HLBr hxr hgf hall hov
            go_wp2
            go_roundw
            case rel => exact ⟨j + 1, s', F', cs', by omega, by go_num, HREL.out⟩
            case measure => simp [intOf]; omega
      | true =>
        obtain rfl : H = 131074 := HH.out
        have HC := Lib.hid (show Calls Try.prog 34 #[.pointer (some ⟨a, 0, none⟩), .int .i64 131074, .int .i64 0] (w4).drew (fun e w' => e = .returned (.int .i64 (σ.ar.cell 131074 0)) ∧ w' = (w4).drew) from (arena_cell a b σ.ar 131074 0 (w4).drew (HLA.out.ar.drewN 1) (by omega)).mono fun _ _ ⟨h1, h2⟩ => ⟨h1, h2.symm⟩)
        have HK := Lib.hid (cell_look_as m c σ.mu (σ.ar.cell 131074 0) 28 X 28 HW.out.x HW.out.xl (w4).drew (HLA.out.mem.drewN 1))
        obtain ⟨d0, d1, d2⟩ := (show Blk (w4).drew lb 93 _ from HLB.out).at3
        go_upto_region 8 with fail
        refine wp_region_still_tail 10 (by kernel_rfl) (by kernel_rfl) ?_
        simp only [List.take_succ_cons, List.take_zero, List.drop_succ_cons, List.drop_zero]
        repeat (first | still_call (HC.out) | still_step)
        try refine wpStill_nil ?_
        change wpList _ _ _ _ _ (w4).drew
        clear d0 d1 d2 HC
        go_wp2_with fail
        refine HK.out.mono ?_
        rintro e w5 ⟨g, gc8, rfl, hg, hrow, hb⟩
        clear HK
        replace HLA := Lib.hid (HLA.out.thru (below_thru (below_drewN0 w4 1) hb))
        replace HLB := Lib.hid (HLB.out.thru (below_thru (below_drewN0 w4 1) hb))
        replace HU := Lib.hid (HU.out.thru (below_thru (below_drewN0 w4 1) hb))
        replace HRR := Lib.hid (HRR.out.thru (below_thru (below_drewN0 w4 1) hb))
        have HXR := Lib.hid hrow
        have HG := Lib.hid (show rb < g ∧ g < w5.heap.size from ⟨by have : w4.heap.size ≤ g := hg; have := HZ.out; omega, hrow.lt⟩)
        clear hrow hg hb HZ
        obtain ⟨tb, htb⟩ : ∃ x, w5.heap.size = x := ⟨_, rfl⟩
        have HT := Lib.hid (t_new m c σ.mu w5 HLA.out.mem)
        rw [htb] at HT HG
        have HTB := Lib.hid htb
        clear htb
        obtain ⟨d0, d1, d2⟩ := HLB.out.at3
        go_wp2_with fail
        refine HT.out.mono ?_
        rintro e w6 ⟨rfl, htm, hb⟩
        clear d0 d1 d2 HT
        replace HLA := Lib.hid (HLA.out.thru (show Below w5.heap.size w5 w6 from (by rw [HTB.out]; exact hb)))
        replace HLB := Lib.hid (HLB.out.thru (show Below w5.heap.size w5 w6 from (by rw [HTB.out]; exact hb)))
        replace HU := Lib.hid (HU.out.thru (show Below w5.heap.size w5 w6 from (by rw [HTB.out]; exact hb)))
        replace HRR := Lib.hid (HRR.out.thru (show Below w5.heap.size w5 w6 from (by rw [HTB.out]; exact hb)))
        replace HXR := Lib.hid (HXR.out.thru (show Below w5.heap.size w5 w6 from (by rw [HTB.out]; exact hb)))
        have HR0 := Lib.hid (RoundL.first (r := writeT 131074 (zs.take 26)) (R := RC #[.int .i64 65538, .slice A 0 ec, .bool false, .int .i64 0]) (w0 := w3) HLA.out htm (by have := hrb.out; have := HG.out; omega) (by have := hrb.out; omega) (by have := HG.out; omega) HRR.out HLT.out HU.out)
        clear htm hb HLA HLB HU HRR HTB
        go_wp2_with fail
        go_loopw [12] (fun i wr => ∃ (j : Nat) (s : TrS) (F : List Nat) (cs : Array Value), j ≤ 70 ∧ i = .int .i64 j ∧ RoundL w3 wr ⟨m, c, tb, a, b⟩ rb 84 #[.int .i64 65538, .slice A 0 ec, .bool false, .int .i64 0] (writeT 131074 (zs.take 26)) (RC #[.int .i64 65538, .slice A 0 ec, .bool false, .int .i64 0]) σ j s F cs ∧
            Row wr 2 1 g 28 gc8 (X.map (Value.int .i64)) ∧ g ∉ F) (fun i _ => 70 - (intOf i).toNat)
        case atStart => exact ⟨0, _, _, _, by omega, rfl, HR0.out, HXR.out, by have := HG.out; simp; omega⟩
        case round =>
          clear HR0 HXR
          obtain ⟨j, s, F, cs, hj, rfl, hrd, hxr, hgf⟩ := hrel
          have HRD := Lib.hid hrd
          have HO := Lib.hid (t_over m c tb _ s F wr hrd.run.put.tl.tm)
          clear hrd
          cases hov : s.over with
          | true =>
            rw [hov] at HO
            by_cases hlt : j < 70
            · go_wp2_with fail
              refine HO.out.mono ?_
              rintro e w6 ⟨rfl, rfl⟩
              obtain ⟨htl, hblk, -, htold⟩ := HRD.out.run.ends (writeT_free _ _) hov
              rw [HW.out.s] at htl
              rw [HW.out.n] at htold
              have HLA := Lib.hid htl.land
              have HLB := Lib.hid (Blk.upd HLB3.out HRD.out.run.low HLF.out)
              have HXR := Lib.hid hxr
              have HBW := Lib.hid (below_upd HB.out HRD.out.run.low (Nat.le_refl _) HNEW.out)
              have HTL := Lib.hid htl
              have HTO := Lib.hid htold
              have HOV := Lib.hid hov
              clear hxr htl hblk HRD hov htold HO hgf
              have HC := Lib.hid (show Calls Try.prog 34 #[.pointer (some ⟨a, 0, none⟩), .int .i64 131074, .int .i64 0] (wr).drew (fun e w' => e = .returned (.int .i64 (σ'.ar.cell 131074 0)) ∧ w' = (wr).drew) from (arena_cell a b σ'.ar 131074 0 (wr).drew (HLA.out.ar.drewN 1) (by omega)).mono fun _ _ ⟨h1, h2⟩ => ⟨h1, h2.symm⟩)
              have HK := Lib.hid (cell_look_as m c σ'.mu (σ'.ar.cell 131074 0) 28 Y 28 HW.out.y HW.out.yl (wr).drew (HLA.out.mem.drewN 1))
              obtain ⟨d0, d1, d2⟩ := (show Blk (wr).drew lb 93 _ from HLB.out).at3
              go_upto_region 14 with fail
              refine wp_region_still_tail 10 (by kernel_rfl) (by kernel_rfl) ?_
              simp only [List.take_succ_cons, List.take_zero, List.drop_succ_cons, List.drop_zero]
              repeat (first | still_call (HC.out) | still_step)
              try refine wpStill_nil ?_
              change wpList _ _ _ _ _ (wr).drew
              clear d0 d1 d2 HC
              go_wp2_with fail
              refine HK.out.mono ?_
              rintro e w7 ⟨g2, gc14, rfl, hg, hyr, hb⟩
              clear HK
              replace HLA := Lib.hid (HLA.out.thru (below_thru (below_drewN0 wr 1) hb))
              replace HLB := Lib.hid (HLB.out.thru (below_thru (below_drewN0 wr 1) hb))
              replace HXR := Lib.hid (HXR.out.thru (below_thru (below_drewN0 wr 1) hb))
              replace HBW := Lib.hid (below_thru HBW.out (below_thru (below_drewN0 wr 1) hb))
              replace HTL := Lib.hid (HTL.out.thru (below_thru (below_drewN0 wr 1) hb))
              have HYR := Lib.hid hyr
              clear hyr hg hb
              have HO := Lib.hid (t_over m c tb _ s F w7 HTL.out.tm)
              have HS := Lib.hid (t_steps m c tb _ s F w7 HTL.out.tm)
              rw [HOV.out] at HO
              rw [HTO.out, HTK.out] at HS
              go_wp2_with fail
              refine HO.out.mono ?_
              rintro e w8 ⟨rfl, rfl⟩
              go_wp2_with fail
              refine HS.out.mono ?_
              rintro e w8 ⟨rfl, rfl⟩
              go_wp2_with fail
              go_loopw [14] (fun i w9 => ∃ k : Nat, k ≤ 28 ∧ i = .int .i64 k ∧ w7 = w9) (fun i _ => 28 - (intOf i).toNat)
              case atStart => exact ⟨0, by omega, rfl, by trivial⟩
              case round =>
                obtain ⟨k, hk, rfl, rfl⟩ := hrel
                by_cases hlt : k < 28
                · have hput := HW.out.put k hlt
                  rw [HTK.out] at hput
                  obtain ⟨x, hx⟩ : ∃ x, X.getD k 0 = x := ⟨_, rfl⟩
                  obtain ⟨y, hy⟩ : ∃ y, Y.getD k 0 = y := ⟨_, rfl⟩
                  have cx := HXR.out.cell (j := k) (u := .int .i64 x) (by rw [← hx]; exact nums_at28 (by rw [HW.out.xl]; exact hlt))
                  have cy := HYR.out.cell (j := k) (u := .int .i64 y) (by rw [← hy]; exact nums_at28 (by rw [HW.out.yl]; exact hlt))
                  rw [hx, hy] at hput
                  clear hx hy
                  by_cases hkl : k < 26
                  · obtain ⟨zb, zo, hza, -, cz⟩ := (HA.out.thru HBW.out).at_ (j := k) (by omega)
                    subst hza
                    rw [if_pos hkl, take26 zs k (by omega)] at hput
                    generalize zs.getD k 0 = z at hput cz
                    subst hput
                    go_wp2
                    go_roundw
                    case rel => exact ⟨k + 1, by omega, by go_num, by trivial⟩
                    case measure => simp [intOf]; omega
                  · rw [if_neg hkl] at hput
                    subst hput
                    go_wp2
                    all_goals
                      go_roundw
                      case rel => exact ⟨k + 1, by omega, by go_num, by trivial⟩
                      case measure => simp [intOf]; omega
                · obtain rfl : k = 28 := by omega
                  have HSL := Lib.hid (arena_stale a b σ'.ar w7 HLA.out.ar)
                  have hst := HW.out.stale
                  rw [HTK.out] at hst
                  rw [hst] at HSL
                  obtain ⟨d0, d1, d2⟩ := HLB.out.at3
                  clear hst
                  go_wp2_with fail
                  refine HSL.out.mono ?_
                  rintro e w8 ⟨rfl, rfl⟩
                  go_wp2
                  all_goals go_ret
                  all_goals exact ⟨by simp <;> omega, HBW.out⟩
            · obtain rfl : j = 70 := by omega
              obtain ⟨htl, hblk, -, htold⟩ := HRD.out.run.ends (writeT_free _ _) hov
              rw [HW.out.s] at htl
              rw [HW.out.n] at htold
              have HLA := Lib.hid htl.land
              have HLB := Lib.hid (Blk.upd HLB3.out HRD.out.run.low HLF.out)
              have HXR := Lib.hid hxr
              have HBW := Lib.hid (below_upd HB.out HRD.out.run.low (Nat.le_refl _) HNEW.out)
              have HTL := Lib.hid htl
              have HTO := Lib.hid htold
              have HOV := Lib.hid hov
              clear hxr htl hblk HRD hov htold HO hgf
              have HC := Lib.hid (show Calls Try.prog 34 #[.pointer (some ⟨a, 0, none⟩), .int .i64 131074, .int .i64 0] (wr).drew (fun e w' => e = .returned (.int .i64 (σ'.ar.cell 131074 0)) ∧ w' = (wr).drew) from (arena_cell a b σ'.ar 131074 0 (wr).drew (HLA.out.ar.drewN 1) (by omega)).mono fun _ _ ⟨h1, h2⟩ => ⟨h1, h2.symm⟩)
              have HK := Lib.hid (cell_look_as m c σ'.mu (σ'.ar.cell 131074 0) 28 Y 28 HW.out.y HW.out.yl (wr).drew (HLA.out.mem.drewN 1))
              obtain ⟨d0, d1, d2⟩ := (show Blk (wr).drew lb 93 _ from HLB.out).at3
              go_upto_region 14 with fail
              refine wp_region_still_tail 10 (by kernel_rfl) (by kernel_rfl) ?_
              simp only [List.take_succ_cons, List.take_zero, List.drop_succ_cons, List.drop_zero]
              repeat (first | still_call (HC.out) | still_step)
              try refine wpStill_nil ?_
              change wpList _ _ _ _ _ (wr).drew
              clear d0 d1 d2 HC
              go_wp2_with fail
              refine HK.out.mono ?_
              rintro e w7 ⟨g2, gc14, rfl, hg, hyr, hb⟩
              clear HK
              replace HLA := Lib.hid (HLA.out.thru (below_thru (below_drewN0 wr 1) hb))
              replace HLB := Lib.hid (HLB.out.thru (below_thru (below_drewN0 wr 1) hb))
              replace HXR := Lib.hid (HXR.out.thru (below_thru (below_drewN0 wr 1) hb))
              replace HBW := Lib.hid (below_thru HBW.out (below_thru (below_drewN0 wr 1) hb))
              replace HTL := Lib.hid (HTL.out.thru (below_thru (below_drewN0 wr 1) hb))
              have HYR := Lib.hid hyr
              clear hyr hg hb
              have HO := Lib.hid (t_over m c tb _ s F w7 HTL.out.tm)
              have HS := Lib.hid (t_steps m c tb _ s F w7 HTL.out.tm)
              rw [HOV.out] at HO
              rw [HTO.out, HTK.out] at HS
              go_wp2_with fail
              refine HO.out.mono ?_
              rintro e w8 ⟨rfl, rfl⟩
              go_wp2_with fail
              refine HS.out.mono ?_
              rintro e w8 ⟨rfl, rfl⟩
              go_wp2_with fail
              go_loopw [14] (fun i w9 => ∃ k : Nat, k ≤ 28 ∧ i = .int .i64 k ∧ w7 = w9) (fun i _ => 28 - (intOf i).toNat)
              case atStart => exact ⟨0, by omega, rfl, by trivial⟩
              case round =>
                obtain ⟨k, hk, rfl, rfl⟩ := hrel
                by_cases hlt : k < 28
                · have hput := HW.out.put k hlt
                  rw [HTK.out] at hput
                  obtain ⟨x, hx⟩ : ∃ x, X.getD k 0 = x := ⟨_, rfl⟩
                  obtain ⟨y, hy⟩ : ∃ y, Y.getD k 0 = y := ⟨_, rfl⟩
                  have cx := HXR.out.cell (j := k) (u := .int .i64 x) (by rw [← hx]; exact nums_at28 (by rw [HW.out.xl]; exact hlt))
                  have cy := HYR.out.cell (j := k) (u := .int .i64 y) (by rw [← hy]; exact nums_at28 (by rw [HW.out.yl]; exact hlt))
                  rw [hx, hy] at hput
                  clear hx hy
                  by_cases hkl : k < 26
                  · obtain ⟨zb, zo, hza, -, cz⟩ := (HA.out.thru HBW.out).at_ (j := k) (by omega)
                    subst hza
                    rw [if_pos hkl, take26 zs k (by omega)] at hput
                    generalize zs.getD k 0 = z at hput cz
                    subst hput
                    go_wp2
                    go_roundw
                    case rel => exact ⟨k + 1, by omega, by go_num, by trivial⟩
                    case measure => simp [intOf]; omega
                  · rw [if_neg hkl] at hput
                    subst hput
                    go_wp2
                    all_goals
                      go_roundw
                      case rel => exact ⟨k + 1, by omega, by go_num, by trivial⟩
                      case measure => simp [intOf]; omega
                · obtain rfl : k = 28 := by omega
                  have HSL := Lib.hid (arena_stale a b σ'.ar w7 HLA.out.ar)
                  have hst := HW.out.stale
                  rw [HTK.out] at hst
                  rw [hst] at HSL
                  obtain ⟨d0, d1, d2⟩ := HLB.out.at3
                  clear hst
                  go_wp2_with fail
                  refine HSL.out.mono ?_
                  rintro e w8 ⟨rfl, rfl⟩
                  go_wp2
                  all_goals go_ret
                  all_goals exact ⟨by simp <;> omega, HBW.out⟩
          | false =>
            have hlt : j < 70 := by
              have h1 := HRD.out.run.over
              rw [hov, HW.out.n] at h1
              have h2 : (zs.take 26).length ≤ 26 := by rw [List.length_take]; omega
              by_cases h3 : j < 70
              · exact h3
              · simp only [Bool.false_eq, Bool.and_eq_false_iff, decide_eq_false_iff_not] at h1
                omega
            have HLBr := Lib.hid (Blk.upd HLB3.out HRD.out.run.low HLF.out)
            have hall : ∀ x, w3.heap.size ≤ x → x ≠ tb → x ∉ F → x ∉ (Pl.mk m c tb a b).all F := by
              intro x hx hx2 hxF hin
              have h1 := HLT.out m (by simp)
              have h2 := HLT.out c (by simp)
              have h3 := HLT.out a (by simp)
              have h4 := HLT.out b (by simp)
              simp only [Pl.all, List.mem_cons] at hin
              rcases hin with e | e | e | e | e
              · omega
              · omega
              · omega
              · omega
              · exact hxF e
            have HS := Lib.hid (step_writes (wa := wa) (len := len) (cap := cap) (zs := zs) HRD.out HLBr.out (by
                intro hin
                have h2 := HLF.out
                simp only [List.mem_cons, List.not_mem_nil, or_false, not_or] at h2
                simp only [Pl.all, List.mem_cons] at hin
                rcases hin with e | e | e | e | e
                · exact h2.1 e
                · exact h2.2.1 e
                · exact h2.2.2.1 e
                · exact h2.2.2.2 e
                · have := HRD.out.run.new _ e
                  have := HLB3.out.lt
                  omega) HHW.out (fun w1 hu1 => IntsOff.of_arg HA.out (below_upd (below_upd HB.out HRD.out.run.low (Nat.le_refl _) HNEW.out) hu1 (Nat.le_refl _) (by
                    intro x hx
                    simp only [List.mem_singleton] at hx
                    subst hx
                    have := HRD.out.run.new _ HRD.out.run.put.tl.tm.tF
                    have := HW3.out
                    simp only at *
                    omega)) (by
                    intro x hx
                    simp only [Pl.all, List.mem_cons] at hx
                    rcases hx with e | e | e | e | e
                    · exact HNEW.out _ (by simp [e])
                    · exact HNEW.out _ (by simp [e])
                    · exact HNEW.out _ (by simp [e])
                    · exact HNEW.out _ (by simp [e])
                    · have := HRD.out.run.new _ e
                      have := HW3.out
                      omega)) (j : Int) (by omega))
            rw [hov] at HO
            obtain ⟨d0, d1, d2⟩ := HLBr.out.at3
            go_wp2_with fail
            refine HO.out.mono ?_
            rintro e w6 ⟨rfl, rfl⟩
            go_wp2_with fail
            refine HS.out.mono ?_
            rintro e w6 ⟨bb, s', F', cs', rfl, hrd', hu, hF'⟩
            have HREL := Lib.hid (show _ ∧ _ ∧ _ from ⟨hrd', hxr.upd hu (by
                have h1 := HG.out
                have h2 := hrb.out
                simp only [List.mem_cons, not_or]
                exact ⟨by omega, hall g (by omega) (by omega) hgf⟩), fun hin => (hF' g hin).elim hgf fun h => by have := hxr.lt; omega⟩)
            clear hrd' hu hF' d0 d1 d2 HS HO HRD HLBr hxr hgf hall hov
            go_wp2
            go_roundw
            case rel => exact ⟨j + 1, s', F', cs', by omega, by go_num, HREL.out⟩
            case measure => simp [intOf]; omega
end Go.Proofs.Ytldccemgfjmcdaa
