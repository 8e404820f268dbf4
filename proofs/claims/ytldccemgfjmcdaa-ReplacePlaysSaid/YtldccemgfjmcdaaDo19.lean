/- Law 19: do: a task of one call, alone up to its end. -/
import Derived.Test.YtldccemgfjmcdaaCaller19
namespace Go.Proofs.Ytldccemgfjmcdaa
open Go.RowKit
set_option linter.unusedSimpArgs false
set_option linter.unusedVariables false

/-- The land's struct. -/
def LandB (w : World) (lb m a : Nat) (n : Int) : Prop := Blk w lb 93 #[.pointer (some ⟨m, 0, none⟩), .pointer (some ⟨a, 0, none⟩), .int .i64 n]
/-- The task, as caller.run does it. -/
def Runs19 (B : Nat) (lb : Nat) (n : Int) (f : FuncId) (x : Nat → Value) (r : Res LandS V19) : Prop :=
  ∀ (pb : Nat) (cs0 : Array Value), cs0.size = 4 → ∀ (p : Pl) (σ : LandS) (s : TrS) (F : List Nat) (N : Nat) (w : World), B ≤ w.heap.size → TL w p σ s F → s.In N → N ≤ 1000000 → s.over = false → Blk w pb 84 cs0 → pb ∉ p.all F → LandB w lb p.m p.a n → lb ∉ p.all F →
    Calls Try.prog f #[x pb, .pointer (some ⟨p.t, 0, none⟩)] w (TaskPostL (TaskQL w p σ s F r pb 84 (R19 B)) p)
theorem RoundL.step19 {B : Nat} {w0 w : World} {p : Pl} {pb lb : Nat} {n : Int} {z0 : Array Value} {r : Res LandS V19} {σ0 : LandS} {j : Nat} {s : TrS} {F : List Nat} {cs : Array Value} (f : FuncId) (x : Nat → Value) (h : RoundL w0 w p pb 84 z0 r (R19 B) σ0 j s F cs) (hz : z0.size = 4) (hf : r.free) (hr : Runs19 B lb n f x r) (hB : B ≤ w.heap.size) (hl : LandB w lb p.m p.a n) (hlf : lb ∉ p.all F) (time : Int) (hj : j < 1000000)
    (hcall : ∀ w, (callFunc f #[x pb, .pointer (some ⟨p.t, 0, none⟩)]).run Try.prog w = .ok (.enter f #[x pb, .pointer (some ⟨p.t, 0, none⟩)]) w) :
    Calls Try.prog 54 #[.pointer (some ⟨p.t, 0, none⟩), .int .i64 time, .func (.func f) #[x pb] #[]] w fun e w' =>
      ∃ b s' F' cs', e = .returned (.bool b) ∧ RoundL w0 w' p pb 84 z0 r (R19 B) σ0 (j + 1) s' F' cs' ∧ Upd (pb :: p.all F) w w' ∧ ∀ x ∈ F', x ∈ F ∨ w.heap.size ≤ x := by
  refine (putl_step f (x pb) p pb 84 r (R19 B) _ s F cs _ time w h.run.put (R19.apart _ _) hcall ?_).mono fun e w' hs => h.next hf hs
  intro w1 h1 hb1 hov hu
  have hc := h.open_ hov
  subst hc
  refine hr pb _ hz p _ (s.begin time) F 1000000 w1 (Nat.le_trans hB hu.size) h1 (h.run.begin_in time hj) (Nat.le_refl _) hov hb1 h.run.put.far (hl.upd hu ?_) hlf
  have htF := h.run.put.tl.tm.tF
  simp only [List.mem_singleton]
  rintro rfl
  exact hlf (by simp [Pl.all, htF])
set_option maxRecDepth 100000 in
set_option maxHeartbeats 2000000 in
theorem do19 (B : Nat) (lb : Nat) (n : Int) (k ia o h tag kind : Int) (r : Res LandS V19) (hf : r.free) (hr : Runs19 B lb n 71 (fun pb => callArg lb pb k ia o h tag kind) r) (m c a b : Nat) (σ : LandS) (g : Option Addr) (w : World) (hla : LandAt w m c a b σ) (hl : LandB w lb m a n) (hlo : lb ∉ [m, c, a, b]) (hn : (r.eval σ).2.2 < 3000) (hB : B ≤ w.heap.size) :
    Calls Try.prog 39 #[.agg #[.pointer (some ⟨lb, 0, none⟩), .int .u8 k, .int .u8 ia, .int .u8 o, .int .i64 h, .int .i64 tag, .pointer g, .int .u8 kind]] w (AllPost (R19 B) w m c a b (r.eval σ)) := by
  have H := Lib.hid hla
  have HLT := Lib.hid hla.lt
  have HLD := Lib.hid hl
  have HLO := Lib.hid hlo
  have HLL := Lib.hid hl.lt
  have HR := Lib.hid hr
  have HU := Lib.hid (Upd.refl [m, c, a, b] w)
  have HF := Lib.hid hf
  have HN := Lib.hid hn
  have HBB := Lib.hid hB
  clear hla hl hlo hr hf hn hB
  go_enter Try.func39, Try.ntmps39
  replace H := Lib.hid (H.out.thru (below_alloc0 w (.cells #[.pointer (some ⟨lb, 0, none⟩), .int .u8 k, .int .u8 ia, .int .u8 o, .int .i64 h, .int .i64 tag, .pointer g, .int .u8 kind] 91)))
  replace HU := Lib.hid (HU.out.thru (below_alloc0 w (.cells #[.pointer (some ⟨lb, 0, none⟩), .int .u8 k, .int .u8 ia, .int .u8 o, .int .i64 h, .int .i64 tag, .pointer g, .int .u8 kind] 91)))
  have HLB := Lib.hid (Blk.new w 91 #[.pointer (some ⟨lb, 0, none⟩), .int .u8 k, .int .u8 ia, .int .u8 o, .int .i64 h, .int .i64 tag, .pointer g, .int .u8 kind])
  go_upto_region 1 with fail
  have HZ := Lib.hid (World.size_alloc w (.cells #[.pointer (some ⟨lb, 0, none⟩), .int .u8 k, .int .u8 ia, .int .u8 o, .int .i64 h, .int .i64 tag, .pointer g, .int .u8 kind] 91))
  obtain ⟨cb, hcb⟩ : ∃ x, w.heap.size = x := ⟨_, rfl⟩
  simp only [hcb] at HLB HZ ⊢
  replace hcb := Lib.hid hcb
  generalize w.alloc (.cells #[.pointer (some ⟨lb, 0, none⟩), .int .u8 k, .int .u8 ia, .int .u8 o, .int .i64 h, .int .i64 tag, .pointer g, .int .u8 kind] 91) = w1 at *
  replace H := Lib.hid (H.out.thru (below_alloc0 w1 (.cells #[.int .i64 0, .slice none 0 0, .bool false, .int .i64 0] 84)))
  replace HU := Lib.hid (HU.out.thru (below_alloc0 w1 (.cells #[.int .i64 0, .slice none 0 0, .bool false, .int .i64 0] 84)))
  replace HLB := Lib.hid (HLB.out.thru (below_alloc0 w1 (.cells #[.int .i64 0, .slice none 0 0, .bool false, .int .i64 0] 84)))
  have HRB := Lib.hid (Blk.new w1 84 #[.int .i64 0, .slice none 0 0, .bool false, .int .i64 0])
  rw [HZ.out] at HRB
  try simp only [HZ.out]
  replace HZ := Lib.hid (show (w1.alloc (.cells #[.int .i64 0, .slice none 0 0, .bool false, .int .i64 0] 84)).heap.size = cb + 1 + 1 by rw [World.size_alloc, HZ.out])
  generalize w1.alloc (.cells #[.int .i64 0, .slice none 0 0, .bool false, .int .i64 0] 84) = w2 at *
  go_upto_region 2 with fail
  replace H := Lib.hid (H.out.thru (below_alloc0 w2 (.cells #[.int .i64 0, .slice none 0 0, .bool false, .int .i64 0] 84)))
  replace HU := Lib.hid (HU.out.thru (below_alloc0 w2 (.cells #[.int .i64 0, .slice none 0 0, .bool false, .int .i64 0] 84)))
  replace HLB := Lib.hid (HLB.out.thru (below_alloc0 w2 (.cells #[.int .i64 0, .slice none 0 0, .bool false, .int .i64 0] 84)))
  replace HRB := Lib.hid (HRB.out.thru (below_alloc0 w2 (.cells #[.int .i64 0, .slice none 0 0, .bool false, .int .i64 0] 84)))
  have HPB := Lib.hid (Blk.new w2 84 #[.int .i64 0, .slice none 0 0, .bool false, .int .i64 0])
  rw [HZ.out] at HPB
  try simp only [HZ.out]
  replace HZ := Lib.hid (show (w2.alloc (.cells #[.int .i64 0, .slice none 0 0, .bool false, .int .i64 0] 84)).heap.size = cb + 1 + 1 + 1 by rw [World.size_alloc, HZ.out])
  generalize w2.alloc (.cells #[.int .i64 0, .slice none 0 0, .bool false, .int .i64 0] 84) = w3 at *
  obtain ⟨l0, l1, l2, l3, l4, l5, l6, l7⟩ := HLB.out.at8
  have lf := HLB.out.free 6
  have hux : Upd [cb] w3 (w3.setCell ⟨cb, 6, none⟩ (.pointer (some ⟨cb + 1 + 1, 0, none⟩))) := (Upd.refl _ _).put (.inl (by simp)) _
  have HLB4 := Lib.hid (show Blk (w3.setCell ⟨cb, 6, none⟩ (.pointer (some ⟨cb + 1 + 1, 0, none⟩))) cb 91 #[.pointer (some ⟨lb, 0, none⟩), .int .u8 k, .int .u8 ia, .int .u8 o, .int .i64 h, .int .i64 tag, .pointer (some ⟨cb + 1 + 1, 0, none⟩), .int .u8 kind] from HLB.out.put 6 _)
  have HRB4 := Lib.hid (HRB.out.upd hux (by simp))
  have HPB4 := Lib.hid (HPB.out.upd hux (by simp; omega))
  have H4 := Lib.hid (H.out.upd hux (fun x hx hin => by have := HLT.out x hx; have := hcb.out; simp at hin; omega))
  have HU4 := Lib.hid (HU.out.trans_new hux (fun x hx => .inr (by have := hcb.out; simp at hx; omega)))
  have HSZ := Lib.hid (show (w3.setCell ⟨cb, 6, none⟩ (.pointer (some ⟨cb + 1 + 1, 0, none⟩))).heap.size = cb + 3 by have := HZ.out; simp only [World.setCell] at *; simpa using this)
  clear HLB HRB HPB H HU HZ hux
  go_upto_region 3 with fail
  clear l0 l1 l2 l3 l4 l5 l6 l7 lf
  generalize w3.setCell ⟨cb, 6, none⟩ (.pointer (some ⟨cb + 1 + 1, 0, none⟩)) = w4 at *
  have HT := Lib.hid (t_new m c σ.mu w4 H4.out.mem)
  rw [HSZ.out] at HT
  obtain ⟨l0, l1, l2, l3, l4, l5, l6, l7⟩ := HLB4.out.at8
  obtain ⟨d0, d1, d2⟩ := (show Blk _ lb 93 #[.pointer (some ⟨m, 0, none⟩), .pointer (some ⟨a, 0, none⟩), .int .i64 n] from HLD.out.upd HU4.out HLO.out).at3
  go_wp2_with fail
  refine HT.out.mono ?_
  rintro e w5 ⟨rfl, htm, hb⟩
  clear l0 l1 l2 l3 l4 l5 l6 l7 d0 d1 d2
  have HLB := Lib.hid (HLB4.out.thru (by rw [HSZ.out]; exact hb))
  have HRB := Lib.hid (HRB4.out.thru (by rw [HSZ.out]; exact hb))
  have HPB := Lib.hid (HPB4.out.thru (by rw [HSZ.out]; exact hb))
  have H0 := Lib.hid (H4.out.thru (by rw [HSZ.out]; exact hb))
  have HU0 := Lib.hid (HU4.out.thru (by rw [HSZ.out]; exact hb))
  have HR0 := Lib.hid (RoundL.first (r := r) (R := R19 B) (w0 := w) H0.out htm (by have := hcb.out; omega) (show w.heap.size ≤ cb + 1 + 1 by have := hcb.out; omega) (by omega) HPB.out HLT.out HU0.out)
  clear HLB4 HRB4 HPB4 H4 HU4 HSZ HT htm hb HPB H0 HU0
  have HWL := Lib.hid (show w.heap.size = cb from hcb.out)
  go_wp2_with fail
  go_loopw [7] (fun i wr => ∃ (j : Nat) (s : TrS) (F : List Nat) (cs : Array Value), j ≤ 3000 ∧ i = .int .i64 j ∧ RoundL w wr ⟨m, c, cb + 3, a, b⟩ (cb + 1 + 1) 84 #[.int .i64 0, .slice none 0 0, .bool false, .int .i64 0] r (R19 B) σ j s F cs ∧
      Blk wr cb 91 #[.pointer (some ⟨lb, 0, none⟩), .int .u8 k, .int .u8 ia, .int .u8 o, .int .i64 h, .int .i64 tag, .pointer (some ⟨cb + 1 + 1, 0, none⟩), .int .u8 kind] ∧ Blk wr (cb + 1) 84 #[.int .i64 0, .slice none 0 0, .bool false, .int .i64 0] ∧ cb ∉ F ∧ cb + 1 ∉ F) (fun i _ => 3000 - (intOf i).toNat)
  case atStart => exact ⟨0, _, _, _, by omega, rfl, HR0.out, HLB.out, HRB.out, by simp, by simp⟩
  case round =>
    clear HR0 HLB HRB
    obtain ⟨j, s, F, cs, hj, rfl, hrd, hlbk, hrbk, hf1, hf2⟩ := hrel
    have HRD := Lib.hid hrd
    have HLB := Lib.hid hlbk
    have HRB := Lib.hid hrbk
    have HF1 := Lib.hid hf1
    have HF2 := Lib.hid hf2
    have HO := Lib.hid (t_over m c (cb + 3) _ s F wr hrd.run.put.tl.tm)
    clear hrd hlbk hrbk hf1 hf2
    cases hov : s.over with
    | true =>
      obtain ⟨htl, hblk, ⟨EA, ec, rfl, hoe, hwg⟩, htold⟩ := HRD.out.run.ends HF.out hov
      have hnb : cb + 1 ∉ (Pl.mk m c (cb + 3) a b).all F := by
        intro hin
        simp only [Pl.all, List.mem_cons] at hin
        have h1 := HLT.out m (by simp)
        have h2 := HLT.out c (by simp)
        have h3 := HLT.out a (by simp)
        have h4 := HLT.out b (by simp)
        have h5 := HWL.out
        rcases hin with e | e | e | e | e
        · omega
        · omega
        · omega
        · omega
        · exact HF2.out e
      generalize hv : (r.eval σ).1 = v at *
      have HST := Lib.hid (show Calls Try.prog 56 #[.pointer (some ⟨cb + 3, 0, none⟩)] wr.drew (fun e w' => e = .returned (.int .i64 s.told.length) ∧ w' = wr.drew) from (t_steps m c (cb + 3) _ s F wr.drew (htl.tm.drewN 1)).mono fun _ _ ⟨h1, h2⟩ => ⟨h1, h2.symm⟩)
      have HOV := Lib.hid (show Calls Try.prog 53 #[.pointer (some ⟨cb + 3, 0, none⟩)] wr.drew (fun e w' => e = .returned (.bool s.over) ∧ w' = wr.drew) from (t_over m c (cb + 3) _ s F wr.drew (htl.tm.drewN 1)).mono fun _ _ ⟨h1, h2⟩ => ⟨h1, h2.symm⟩)
      rw [hov] at HO HOV
      rw [htold] at HST
      have HRBD := Lib.hid (show Blk wr.drew (cb + 1) 84 #[.int .i64 0, .slice none 0 0, .bool false, .int .i64 0] from HRB.out)
      have HONE := Lib.hid (show (#[.int .i64 v.h, .slice EA v.l.length ec, .bool v.ok, .int .i64 v.n] : Array Value).all (·.oneCell') = true by simp [Value.oneCell'])
      have hud : Upd [cb + 1] wr.drew (wr.drew.setRow (cb + 1) #[.int .i64 v.h, .slice EA v.l.length ec, .bool v.ok, .int .i64 v.n]) := upd_setRow HRBD.out _
      have HEND := Lib.hid (show R19 B (wr.drew.setRow (cb + 1) #[.int .i64 v.h, .slice EA v.l.length ec, .bool v.ok, .int .i64 v.n]) (r.eval σ).1 #[.int .i64 v.h, .slice EA v.l.length ec, .bool v.ok, .int .i64 v.n] ∧ LandAt (wr.drew.setRow (cb + 1) #[.int .i64 v.h, .slice EA v.l.length ec, .bool v.ok, .int .i64 v.n]) m c a b (r.eval σ).2.1 ∧ Upd [m, c, a, b] w (wr.drew.setRow (cb + 1) #[.int .i64 v.h, .slice EA v.l.length ec, .bool v.ok, .int .i64 v.n]) by
        rw [hv]
        refine ⟨⟨EA, ec, rfl, own_off19 (ownsRow_upd hoe (Upd.of_below (below_drewN0 wr 1) (F := [])) (by simp)) HRBD.out (by decide) hud, hwg⟩, ?_, ?_⟩
        · exact (htl.drewN 1).land.upd hud (fun x hx hin => by
            simp only [List.mem_singleton] at hin
            subst hin
            have := HLT.out _ hx
            have := HWL.out
            omega)
        · exact (HRD.out.run.low.drewN 1).trans_new hud (fun x hx => .inr (by simp only [List.mem_singleton] at hx; have := HWL.out; omega)))
      obtain ⟨p0, p1, p2, p3⟩ := hblk.at4
      clear hud htl hblk hoe hwg htold hnb hv hov
      by_cases hlt : j < 3000
      · go_wp2_with fail
        refine HO.out.mono ?_
        rintro e w6 ⟨rfl, rfl⟩
        go_upto_region 8 with fail
        refine wp_region_still_tail 5 (by kernel_rfl) (by kernel_rfl) ?_
        simp only [List.take_succ_cons, List.take_zero, List.drop_succ_cons, List.drop_zero]
        repeat (first | still_call (HST.out) | still_call (HOV.out) | still_step)
        try refine wpStill_nil ?_
        change wpList _ _ _ _ _ wr.drew
        clear p0 p1 p2 p3
        go_wp2_with (refine wpList_store_row (P := Try.prog) rfl 84 (.tmp 2) (.tmp 29) rfl (cb + 1) #[.int .i64 v.h, .slice EA v.l.length ec, .bool v.ok, .int .i64 v.n] rfl rfl 84 #[.int .i64 0, .slice none 0 0, .bool false, .int .i64 0] HRBD.out info_res19 rfl HONE.out ?_)
        have hrun := run_loadVar_row (P := Try.prog) (wr.drew.setRow (cb + 1) #[.int .i64 v.h, .slice EA v.l.length ec, .bool v.ok, .int .i64 v.n]) (cb + 1) 84 84 #[.int .i64 v.h, .slice EA v.l.length ec, .bool v.ok, .int .i64 v.n] (0, 0) _ (blk_setRow HRBD.out _) Try.underlying84 rfl info_res19
        have HFIN := Lib.hid HEND.out
        generalize wr.drew.setRow (cb + 1) #[.int .i64 v.h, .slice EA v.l.length ec, .bool v.ok, .int .i64 v.n] = wz at *
        exact bodyPost_ret (v := .tuple #[.agg #[.int .i64 v.h, .slice EA v.l.length ec, .bool v.ok, .int .i64 v.n], .int .i64 (r.eval σ).2.2, .bool true]) (by simp [results, Try.results39, asAddr, hrun]) rfl ⟨_, rfl, HFIN.out⟩
      · obtain rfl : j = 3000 := by omega
        go_upto_region 8 with fail
        refine wp_region_still_tail 5 (by kernel_rfl) (by kernel_rfl) ?_
        simp only [List.take_succ_cons, List.take_zero, List.drop_succ_cons, List.drop_zero]
        repeat (first | still_call (HST.out) | still_call (HOV.out) | still_step)
        try refine wpStill_nil ?_
        change wpList _ _ _ _ _ wr.drew
        clear p0 p1 p2 p3
        go_wp2_with (refine wpList_store_row (P := Try.prog) rfl 84 (.tmp 2) (.tmp 29) rfl (cb + 1) #[.int .i64 v.h, .slice EA v.l.length ec, .bool v.ok, .int .i64 v.n] rfl rfl 84 #[.int .i64 0, .slice none 0 0, .bool false, .int .i64 0] HRBD.out info_res19 rfl HONE.out ?_)
        have hrun := run_loadVar_row (P := Try.prog) (wr.drew.setRow (cb + 1) #[.int .i64 v.h, .slice EA v.l.length ec, .bool v.ok, .int .i64 v.n]) (cb + 1) 84 84 #[.int .i64 v.h, .slice EA v.l.length ec, .bool v.ok, .int .i64 v.n] (0, 0) _ (blk_setRow HRBD.out _) Try.underlying84 rfl info_res19
        have HFIN := Lib.hid HEND.out
        generalize wr.drew.setRow (cb + 1) #[.int .i64 v.h, .slice EA v.l.length ec, .bool v.ok, .int .i64 v.n] = wz at *
        exact bodyPost_ret (v := .tuple #[.agg #[.int .i64 v.h, .slice EA v.l.length ec, .bool v.ok, .int .i64 v.n], .int .i64 (r.eval σ).2.2, .bool true]) (by simp [results, Try.results39, asAddr, hrun]) rfl ⟨_, rfl, HFIN.out⟩
    | false =>
      have hlt : j < 3000 := by
        have h1 := HRD.out.run.over
        rw [hov] at h1
        have h2 := HN.out
        by_cases h3 : j < 3000
        · exact h3
        · simp only [Bool.false_eq, Bool.and_eq_false_iff, decide_eq_false_iff_not] at h1
          omega
      have HS := Lib.hid (HRD.out.step19 (lb := lb) (n := n) 71 (fun pb => callArg lb pb k ia o h tag kind) rfl HF.out HR.out (Nat.le_trans HBB.out HRD.out.run.low.size) (HLD.out.upd HRD.out.run.low HLO.out) (by
        intro hin
        have h2 := HLO.out
        simp only [List.mem_cons, List.not_mem_nil, or_false, not_or] at h2
        simp only [Pl.all, List.mem_cons] at hin
        rcases hin with e | e | e | e | e
        · exact h2.1 e
        · exact h2.2.1 e
        · exact h2.2.2.1 e
        · exact h2.2.2.2 e
        · have := HRD.out.run.new _ e
          have := HLL.out
          omega) (j : Int) (by omega) (fun _ => by unfold callArg; kernel_rfl))
      rw [hov] at HO
      clear hov
      obtain ⟨l0, l1, l2, l3, l4, l5, l6, l7⟩ := HLB.out.at8
      go_wp2_with fail
      refine HO.out.mono ?_
      rintro e w6 ⟨rfl, rfl⟩
      go_wp2_with fail
      refine HS.out.mono ?_
      rintro e w6 ⟨bb, s', F', cs', rfl, hrd', hu, hF'⟩
      have hnot : ∀ x, w.heap.size ≤ x → x < cb + 2 → x ∉ F → x ∉ (cb + 1 + 1) :: (Pl.mk m c (cb + 3) a b).all F ∧ x ∉ F' := by
        intro x hx hx2 hxF
        have h1 := HLT.out m (by simp)
        have h2 := HLT.out c (by simp)
        have h3 := HLT.out a (by simp)
        have h4 := HLT.out b (by simp)
        have h5 := HRB.out.lt
        constructor
        · intro hin
          simp only [Pl.all, List.mem_cons] at hin
          rcases hin with e | e | e | e | e | e
          · omega
          · omega
          · omega
          · omega
          · omega
          · exact hxF e
        · intro hin
          rcases hF' x hin with e | e
          · exact hxF e
          · omega
      have HREL := Lib.hid (show _ ∧ _ ∧ _ ∧ _ ∧ _ from ⟨hrd', HLB.out.upd hu (hnot cb (by rw [HWL.out]; omega) (by omega) HF1.out).1, HRB.out.upd hu (hnot (cb + 1) (by rw [HWL.out]; omega) (by omega) HF2.out).1, (hnot cb (by rw [HWL.out]; omega) (by omega) HF1.out).2, (hnot (cb + 1) (by rw [HWL.out]; omega) (by omega) HF2.out).2⟩)
      clear hrd' hu hF' hnot l0 l1 l2 l3 l4 l5 l6 l7 HS HO HRD HLB HRB HF1 HF2
      go_wp2
      go_roundw
      case rel => exact ⟨j + 1, s', F', cs', by omega, by go_num, HREL.out⟩
      case measure => simp [intOf]; omega
end Go.Proofs.Ytldccemgfjmcdaa
