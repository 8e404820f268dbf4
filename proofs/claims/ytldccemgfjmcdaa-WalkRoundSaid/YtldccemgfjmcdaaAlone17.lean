/- Law 17: alone: a task that goes, or finds, alone up to its end. -/
import Derived.Test.YtldccemgfjmcdaaGoer17
import Derived.Test.YtldccemgfjmcdaaAll16
namespace Go.Proofs.Ytldccemgfjmcdaa
open Go.RowKit
set_option linter.unusedSimpArgs false
set_option linter.unusedVariables false

set_option maxRecDepth 100000 in
set_option maxHeartbeats 2000000 in
theorem alone17 (root addr : Int) (all : Bool) (r : Res LandS GV) (hf : r.free) (hr : RunsL 61 (fun a pb => goArg a pb root addr all) r 33 4 RG) (m c a b : Nat) (σ : LandS) (g : Option Addr) (w : World) (h : LandAt w m c a b σ) (hn : (r.eval σ).2.2 < 1800) :
    Calls Try.prog 19 #[.pointer (some ⟨m, 0, none⟩), .agg #[.pointer (some ⟨a, 0, none⟩), .int .i64 root, .int .i64 addr, .bool all, .pointer g]] w (AllPost RG w m c a b (r.eval σ)) := by
  have H := Lib.hid h
  have HLT := Lib.hid h.lt
  have HR := Lib.hid hr
  have HU := Lib.hid (Upd.refl [m, c, a, b] w)
  have HF := Lib.hid hf
  have HN := Lib.hid hn
  clear h hr hf hn
  go_enter Try.func19, Try.ntmps19
  replace H := Lib.hid (H.out.thru (below_alloc0 w (.cells #[.pointer (some ⟨a, 0, none⟩), .int .i64 root, .int .i64 addr, .bool all, .pointer g] 38)))
  replace HU := Lib.hid (HU.out.thru (below_alloc0 w (.cells #[.pointer (some ⟨a, 0, none⟩), .int .i64 root, .int .i64 addr, .bool all, .pointer g] 38)))
  have HLB := Lib.hid (Blk.new w 38 #[.pointer (some ⟨a, 0, none⟩), .int .i64 root, .int .i64 addr, .bool all, .pointer g])
  go_upto_region 1 with fail
  have HZ := Lib.hid (World.size_alloc w (.cells #[.pointer (some ⟨a, 0, none⟩), .int .i64 root, .int .i64 addr, .bool all, .pointer g] 38))
  obtain ⟨lb, hlb⟩ : ∃ x, w.heap.size = x := ⟨_, rfl⟩
  simp only [hlb] at HLB HZ ⊢
  replace hlb := Lib.hid hlb
  generalize w.alloc (.cells #[.pointer (some ⟨a, 0, none⟩), .int .i64 root, .int .i64 addr, .bool all, .pointer g] 38) = w1 at *
  replace H := Lib.hid (H.out.thru (below_alloc0 w1 (.cells #[.int .i64 0, .bool false, .slice none 0 0, .slice none 0 0] 33)))
  replace HU := Lib.hid (HU.out.thru (below_alloc0 w1 (.cells #[.int .i64 0, .bool false, .slice none 0 0, .slice none 0 0] 33)))
  replace HLB := Lib.hid (HLB.out.thru (below_alloc0 w1 (.cells #[.int .i64 0, .bool false, .slice none 0 0, .slice none 0 0] 33)))
  have HRB := Lib.hid (Blk.new w1 33 #[.int .i64 0, .bool false, .slice none 0 0, .slice none 0 0])
  rw [HZ.out] at HRB
  try simp only [HZ.out]
  replace HZ := Lib.hid (show (w1.alloc (.cells #[.int .i64 0, .bool false, .slice none 0 0, .slice none 0 0] 33)).heap.size = lb + 1 + 1 by rw [World.size_alloc, HZ.out])
  generalize w1.alloc (.cells #[.int .i64 0, .bool false, .slice none 0 0, .slice none 0 0] 33) = w2 at *
  go_upto_region 2 with fail
  replace H := Lib.hid (H.out.thru (below_alloc0 w2 (.cells #[.int .i64 0, .bool false, .slice none 0 0, .slice none 0 0] 33)))
  replace HU := Lib.hid (HU.out.thru (below_alloc0 w2 (.cells #[.int .i64 0, .bool false, .slice none 0 0, .slice none 0 0] 33)))
  replace HLB := Lib.hid (HLB.out.thru (below_alloc0 w2 (.cells #[.int .i64 0, .bool false, .slice none 0 0, .slice none 0 0] 33)))
  replace HRB := Lib.hid (HRB.out.thru (below_alloc0 w2 (.cells #[.int .i64 0, .bool false, .slice none 0 0, .slice none 0 0] 33)))
  have HPB := Lib.hid (Blk.new w2 33 #[.int .i64 0, .bool false, .slice none 0 0, .slice none 0 0])
  rw [HZ.out] at HPB
  try simp only [HZ.out]
  replace HZ := Lib.hid (show (w2.alloc (.cells #[.int .i64 0, .bool false, .slice none 0 0, .slice none 0 0] 33)).heap.size = lb + 1 + 1 + 1 by rw [World.size_alloc, HZ.out])
  generalize w2.alloc (.cells #[.int .i64 0, .bool false, .slice none 0 0, .slice none 0 0] 33) = w3 at *
  obtain ⟨l0, l1, l2, l3, l4⟩ := HLB.out.at5
  have lf := HLB.out.free 4
  have hux : Upd [lb] w3 (w3.setCell ⟨lb, 4, none⟩ (.pointer (some ⟨lb + 1 + 1, 0, none⟩))) := (Upd.refl _ _).put (.inl (by simp)) _
  have HLB4 := Lib.hid (show Blk (w3.setCell ⟨lb, 4, none⟩ (.pointer (some ⟨lb + 1 + 1, 0, none⟩))) lb 38 #[.pointer (some ⟨a, 0, none⟩), .int .i64 root, .int .i64 addr, .bool all, .pointer (some ⟨lb + 1 + 1, 0, none⟩)] from HLB.out.put 4 _)
  have HRB4 := Lib.hid (HRB.out.upd hux (by simp))
  have HPB4 := Lib.hid (HPB.out.upd hux (by simp; omega))
  have H4 := Lib.hid (H.out.upd hux (fun x hx hin => by have := HLT.out x hx; have := hlb.out; simp at hin; omega))
  have HU4 := Lib.hid (HU.out.trans_new hux (fun x hx => .inr (by have := hlb.out; simp at hx; omega)))
  have HSZ := Lib.hid (show (w3.setCell ⟨lb, 4, none⟩ (.pointer (some ⟨lb + 1 + 1, 0, none⟩))).heap.size = lb + 3 by have := HZ.out; simp only [World.setCell] at *; simpa using this)
  clear HLB HRB HPB H HU HZ hux
  go_upto_region 3 with fail
  clear l0 l1 l2 l3 l4 lf
  generalize w3.setCell ⟨lb, 4, none⟩ (.pointer (some ⟨lb + 1 + 1, 0, none⟩)) = w4 at *
  have HT := Lib.hid (t_new m c σ.mu w4 H4.out.mem)
  rw [HSZ.out] at HT
  go_wp2_with fail
  refine HT.out.mono ?_
  rintro e w5 ⟨rfl, htm, hb⟩
  have HLB := Lib.hid (HLB4.out.thru (by rw [HSZ.out]; exact hb))
  have HRB := Lib.hid (HRB4.out.thru (by rw [HSZ.out]; exact hb))
  have HPB := Lib.hid (HPB4.out.thru (by rw [HSZ.out]; exact hb))
  have H0 := Lib.hid (H4.out.thru (by rw [HSZ.out]; exact hb))
  have HU0 := Lib.hid (HU4.out.thru (by rw [HSZ.out]; exact hb))
  have HR0 := Lib.hid (RoundL.first (r := r) (R := RG) (w0 := w) H0.out htm (by have := hlb.out; omega) (show w.heap.size ≤ lb + 1 + 1 by have := hlb.out; omega) (by omega) HPB.out HLT.out HU0.out)
  clear HLB4 HRB4 HPB4 H4 HU4 HSZ HT htm hb HPB H0 HU0
  have HWL := Lib.hid (show w.heap.size = lb from hlb.out)
  go_wp2_with fail
  go_loopw [9] (fun i wr => ∃ (j : Nat) (s : TrS) (F : List Nat) (cs : Array Value), j ≤ 1800 ∧ i = .int .i64 j ∧ RoundL w wr ⟨m, c, lb + 3, a, b⟩ (lb + 1 + 1) 33 #[.int .i64 0, .bool false, .slice none 0 0, .slice none 0 0] r RG σ j s F cs ∧
      Blk wr lb 38 #[.pointer (some ⟨a, 0, none⟩), .int .i64 root, .int .i64 addr, .bool all, .pointer (some ⟨lb + 1 + 1, 0, none⟩)] ∧ Blk wr (lb + 1) 33 #[.int .i64 0, .bool false, .slice none 0 0, .slice none 0 0] ∧ lb ∉ F ∧ lb + 1 ∉ F) (fun i _ => 1800 - (intOf i).toNat)
  case atStart => exact ⟨0, _, _, _, by omega, rfl, HR0.out, HLB.out, HRB.out, by simp, by simp⟩
  case round =>
    clear HR0 HLB HRB
    obtain ⟨j, s, F, cs, hj, rfl, hrd, hlbk, hrbk, hf1, hf2⟩ := hrel
    have HRD := Lib.hid hrd
    have HLB := Lib.hid hlbk
    have HRB := Lib.hid hrbk
    have HF1 := Lib.hid hf1
    have HF2 := Lib.hid hf2
    have HO := Lib.hid (t_over m c (lb + 3) _ s F wr hrd.run.put.tl.tm)
    clear hrd hlbk hrbk hf1 hf2
    cases hov : s.over with
    | true =>
      obtain ⟨htl, hblk, ⟨EA, ec, NA, nc, rfl, hoe, hon, hwg⟩, htold⟩ := HRD.out.run.ends HF.out hov
      have hnb : lb + 1 ∉ (Pl.mk m c (lb + 3) a b).all F := by
        intro hin
        simp only [Pl.all, List.mem_cons] at hin
        have h1 := HLT.out m (by simp)
        have h2 := HLT.out c (by simp)
        have h3 := HLT.out a (by simp)
        have h4 := HLT.out b (by simp)
        have h5 := HWL.out
        rcases hin with e | e | e | e | e
        · omega
        · omega
        · omega
        · omega
        · exact HF2.out e
      generalize hv : (r.eval σ).1 = v at *
      have HST := Lib.hid (show Calls Try.prog 56 #[.pointer (some ⟨lb + 3, 0, none⟩)] wr.drew (fun e w' => e = .returned (.int .i64 s.told.length) ∧ w' = wr.drew) from (t_steps m c (lb + 3) _ s F wr.drew (htl.tm.drewN 1)).mono fun _ _ ⟨h1, h2⟩ => ⟨h1, h2.symm⟩)
      have HOV := Lib.hid (show Calls Try.prog 53 #[.pointer (some ⟨lb + 3, 0, none⟩)] wr.drew (fun e w' => e = .returned (.bool s.over) ∧ w' = wr.drew) from (t_over m c (lb + 3) _ s F wr.drew (htl.tm.drewN 1)).mono fun _ _ ⟨h1, h2⟩ => ⟨h1, h2.symm⟩)
      rw [hov] at HO HOV
      rw [htold] at HST
      have HRBD := Lib.hid (show Blk wr.drew (lb + 1) 33 #[.int .i64 0, .bool false, .slice none 0 0, .slice none 0 0] from HRB.out)
      have HONE := Lib.hid (show (#[.int .i64 v.h, .bool v.ok, .slice EA v.es.length ec, .slice NA v.ns.length nc] : Array Value).all (·.oneCell') = true by simp [Value.oneCell'])
      have hud : Upd [lb + 1] wr.drew (wr.drew.setRow (lb + 1) #[.int .i64 v.h, .bool v.ok, .slice EA v.es.length ec, .slice NA v.ns.length nc]) := upd_setRow HRBD.out _
      have HEND := Lib.hid (show RG (wr.drew.setRow (lb + 1) #[.int .i64 v.h, .bool v.ok, .slice EA v.es.length ec, .slice NA v.ns.length nc]) (r.eval σ).1 #[.int .i64 v.h, .bool v.ok, .slice EA v.es.length ec, .slice NA v.ns.length nc] ∧ LandAt (wr.drew.setRow (lb + 1) #[.int .i64 v.h, .bool v.ok, .slice EA v.es.length ec, .slice NA v.ns.length nc]) m c a b (r.eval σ).2.1 ∧ Upd [m, c, a, b] w (wr.drew.setRow (lb + 1) #[.int .i64 v.h, .bool v.ok, .slice EA v.es.length ec, .slice NA v.ns.length nc]) by
        rw [hv]
        refine ⟨⟨EA, ec, NA, nc, rfl, own_off (own_thru hoe (below_drewN0 wr 1)) HRBD.out (by decide) hud, own_off (own_thru hon (below_drewN0 wr 1)) HRBD.out (by decide) hud, hwg⟩, ?_, ?_⟩
        · exact (htl.drewN 1).land.upd hud (fun x hx hin => by
            simp only [List.mem_singleton] at hin
            subst hin
            have := HLT.out _ hx
            have := HWL.out
            omega)
        · exact (HRD.out.run.low.drewN 1).trans_new hud (fun x hx => .inr (by simp only [List.mem_singleton] at hx; have := HWL.out; omega)))
      obtain ⟨p0, p1, p2, p3⟩ := hblk.at4
      clear hud htl hblk hoe hon hwg htold hnb hv hov
      by_cases hlt : j < 1800
      · go_wp2_with fail
        refine HO.out.mono ?_
        rintro e w6 ⟨rfl, rfl⟩
        go_upto_region 8 with fail
        refine wp_region_still_tail 5 (by kernel_rfl) (by kernel_rfl) ?_
        simp only [List.take_succ_cons, List.take_zero, List.drop_succ_cons, List.drop_zero]
        repeat (first | still_call (HST.out) | still_call (HOV.out) | still_step)
        try refine wpStill_nil ?_
        change wpList _ _ _ _ _ wr.drew
        clear p0 p1 p2 p3
        go_wp2_with (refine wpList_store_row (P := Try.prog) rfl 33 (.tmp 4) (.tmp 27) rfl (lb + 1) #[.int .i64 v.h, .bool v.ok, .slice EA v.es.length ec, .slice NA v.ns.length nc] rfl rfl 33 #[.int .i64 0, .bool false, .slice none 0 0, .slice none 0 0] HRBD.out info_res17 rfl HONE.out ?_)
        have hrun := run_loadVar_row (P := Try.prog) (wr.drew.setRow (lb + 1) #[.int .i64 v.h, .bool v.ok, .slice EA v.es.length ec, .slice NA v.ns.length nc]) (lb + 1) 33 33 #[.int .i64 v.h, .bool v.ok, .slice EA v.es.length ec, .slice NA v.ns.length nc] (0, 0) _ (blk_setRow HRBD.out _) Try.underlying33 rfl info_res17
        have HFIN := Lib.hid HEND.out
        generalize wr.drew.setRow (lb + 1) #[.int .i64 v.h, .bool v.ok, .slice EA v.es.length ec, .slice NA v.ns.length nc] = wz at *
        exact bodyPost_ret (v := .tuple #[.agg #[.int .i64 v.h, .bool v.ok, .slice EA v.es.length ec, .slice NA v.ns.length nc], .int .i64 (r.eval σ).2.2, .bool true]) (by simp [results, Try.results19, asAddr, hrun]) rfl ⟨_, rfl, HFIN.out⟩
      · obtain rfl : j = 1800 := by omega
        go_upto_region 8 with fail
        refine wp_region_still_tail 5 (by kernel_rfl) (by kernel_rfl) ?_
        simp only [List.take_succ_cons, List.take_zero, List.drop_succ_cons, List.drop_zero]
        repeat (first | still_call (HST.out) | still_call (HOV.out) | still_step)
        try refine wpStill_nil ?_
        change wpList _ _ _ _ _ wr.drew
        clear p0 p1 p2 p3
        go_wp2_with (refine wpList_store_row (P := Try.prog) rfl 33 (.tmp 4) (.tmp 27) rfl (lb + 1) #[.int .i64 v.h, .bool v.ok, .slice EA v.es.length ec, .slice NA v.ns.length nc] rfl rfl 33 #[.int .i64 0, .bool false, .slice none 0 0, .slice none 0 0] HRBD.out info_res17 rfl HONE.out ?_)
        have hrun := run_loadVar_row (P := Try.prog) (wr.drew.setRow (lb + 1) #[.int .i64 v.h, .bool v.ok, .slice EA v.es.length ec, .slice NA v.ns.length nc]) (lb + 1) 33 33 #[.int .i64 v.h, .bool v.ok, .slice EA v.es.length ec, .slice NA v.ns.length nc] (0, 0) _ (blk_setRow HRBD.out _) Try.underlying33 rfl info_res17
        have HFIN := Lib.hid HEND.out
        generalize wr.drew.setRow (lb + 1) #[.int .i64 v.h, .bool v.ok, .slice EA v.es.length ec, .slice NA v.ns.length nc] = wz at *
        exact bodyPost_ret (v := .tuple #[.agg #[.int .i64 v.h, .bool v.ok, .slice EA v.es.length ec, .slice NA v.ns.length nc], .int .i64 (r.eval σ).2.2, .bool true]) (by simp [results, Try.results19, asAddr, hrun]) rfl ⟨_, rfl, HFIN.out⟩
    | false =>
      have hlt : j < 1800 := by
        have h1 := HRD.out.run.over
        rw [hov] at h1
        have h2 := HN.out
        by_cases h3 : j < 1800
        · exact h3
        · simp only [Bool.false_eq, Bool.and_eq_false_iff, decide_eq_false_iff_not] at h1
          omega
      have HS := Lib.hid (HRD.out.step 61 (fun a pb => goArg a pb root addr all) HF.out (RG.apart _) HR.out (j : Int) (by omega) (fun _ => by unfold goArg; kernel_rfl))
      rw [hov] at HO
      clear hov
      obtain ⟨l0, l1, l2, l3, l4⟩ := HLB.out.at5
      go_wp2_with fail
      refine HO.out.mono ?_
      rintro e w6 ⟨rfl, rfl⟩
      go_wp2_with fail
      refine HS.out.mono ?_
      rintro e w6 ⟨bb, s', F', cs', rfl, hrd', hu, hF'⟩
      have hnot : ∀ x, w.heap.size ≤ x → x < lb + 2 → x ∉ F → x ∉ (lb + 1 + 1) :: (Pl.mk m c (lb + 3) a b).all F ∧ x ∉ F' := by
        intro x hx hx2 hxF
        have h1 := HLT.out m (by simp)
        have h2 := HLT.out c (by simp)
        have h3 := HLT.out a (by simp)
        have h4 := HLT.out b (by simp)
        have h5 := HRB.out.lt
        constructor
        · intro hin
          simp only [Pl.all, List.mem_cons] at hin
          rcases hin with e | e | e | e | e | e
          · omega
          · omega
          · omega
          · omega
          · omega
          · exact hxF e
        · intro hin
          rcases hF' x hin with e | e
          · exact hxF e
          · omega
      have HREL := Lib.hid (show _ ∧ _ ∧ _ ∧ _ ∧ _ from ⟨hrd', HLB.out.upd hu (hnot lb (by rw [HWL.out]; omega) (by omega) HF1.out).1, HRB.out.upd hu (hnot (lb + 1) (by rw [HWL.out]; omega) (by omega) HF2.out).1, (hnot lb (by rw [HWL.out]; omega) (by omega) HF1.out).2, (hnot (lb + 1) (by rw [HWL.out]; omega) (by omega) HF2.out).2⟩)
      clear hrd' hu hF' hnot l0 l1 l2 l3 l4 HS HO HRD HLB HRB HF1 HF2
      go_wp2
      go_roundw
      case rel => exact ⟨j + 1, s', F', cs', by omega, by go_num, HREL.out⟩
      case measure => simp [intOf]; omega
end Go.Proofs.Ytldccemgfjmcdaa
