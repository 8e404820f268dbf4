/- Layer 19: slots are taken, and given back. -/
import Derived.Test.YtldccemgfjmcdaaWk
import Derived.StillTailTactics
namespace Go.Proofs.Ytldccemgfjmcdaa
open Go.RowKit
set_option linter.unusedSimpArgs false
set_option linter.unusedVariables false

set_option maxRecDepth 100000 in
set_option maxHeartbeats 1000000 in
theorem arena_died (a b : Nat) (α : ArS) (hd : Int) (w : World) (h : ArAt w a b α) (hh : hd < 9223372036854775808) :
    Calls Try.prog 98 #[.pointer (some ⟨a, 0, none⟩), .int .i64 hd] w (ArPost w a b (α.died hd) (.tuple #[])) := by
  have HR := Lib.hid (arena_right a b α hd w h hh)
  have HS := Lib.hid (fun w1 => arena_slot hd w1 hh)
  obtain ⟨k0, k1, k2, k3⟩ := h.top.at4
  obtain ⟨f0, f1, f2, f3⟩ := h.top.fr4
  cases hr : α.right hd with
  | false =>
    have HE := Lib.hid (show ArPost w a b (α.died hd) (.tuple #[]) (.returned (.tuple #[])) (w.setCell ⟨a, 3, none⟩ (.bool true)) by
      unfold ArS.died
      rw [if_neg (by simp [hr])]
      exact ⟨rfl, ⟨h.top.put 3 _, h.row.far (p := ⟨a, 3, none⟩) h.ne_.symm _, h.len, h.lo, h.hi⟩, (Upd.refl _ _).put (.inl (by simp)) _⟩)
    rw [hr] at HR
    clear hr h
    go_enter Try.func98, Try.ntmps98
    go_wp2_with fail
    refine (HR.out).mono ?_
    rintro e w1 ⟨rfl, rfl⟩
    go_wp2
    go_end0
    exact HE.out
  | true =>
    have hhas : α.has (slotOf hd) = true := by unfold ArS.right at hr; simp only [Bool.and_eq_true] at hr; exact hr.1.1
    obtain ⟨k, hk0, hk⟩ := ArS.has_iff hhas
    have fl := h.row.free (k * 2 + 1)
    have gl := h.live hk
    have hl := h.len
    have HE := Lib.hid (show ArPost w a b (α.died hd) (.tuple #[]) (.returned (.tuple #[])) (w.setCell ⟨b, k * 2 + 1, none⟩ (.bool false)) by
      unfold ArS.died ArS.put
      rw [if_pos hr, hk0, α.at_succ, show ((k : Int) + 1 - 1).toNat = k by omega]
      refine ⟨rfl, ⟨?_, ?_, by simpa using hl, h.lo, h.hi⟩, (Upd.refl _ _).put (.inl (by simp)) _⟩
      · simp only [List.length_set]
        exact h.top.far (p := ⟨b, k * 2 + 1, none⟩) h.ne_ _
      · have := h.row.put (k * 2 + 1) (.bool false)
        rw [stCells_put_live hk] at this
        exact this)
    rw [hr] at HR
    rw [hk0] at HS
    have hki : (k : Int) < α.slots.length := by omega
    have HS2 := Lib.hid (show ∀ w1, Calls Try.prog 67 #[.int .i64 hd] w1 (fun e w' => e = .returned (.int .i64 ((k : Int) + 1)) ∧ w' = w1) from fun w1 => (HS.out w1).mono fun _ _ ⟨x, y⟩ => ⟨x, y.symm⟩)
    have hl' : (α.slots.length : Int) ≤ 1000 := by omega
    have hk63 : (0 : Int) ≤ k := by omega
    have hww : IntKind.i64.wrap (k : Int) = (k : Int) := IntWalk.i64_in _ (by omega)
    clear hr h hhas hk0 HS
    go_enter Try.func98, Try.ntmps98
    go_wp2_with fail
    refine (HR.out).mono ?_
    rintro e w1 ⟨rfl, rfl⟩
    go_upto_region 2 with fail
    refine wp_region_still_tail 9 (by kernel_rfl) (by kernel_rfl) ?_
    simp only [List.take_succ_cons, List.take_zero, List.drop_succ_cons, List.drop_zero]
    repeat (first | still_call (HS2.out _) | still_step)
    try refine wpStill_nil ?_
    change wpList _ _ _ _ _ w.drew
    go_wp2
    go_end0
    exact ⟨HE.out.1, HE.out.2.1.drewN 1, HE.out.2.2.drew⟩

/-- All answers meet Q, of whatever numbers are told. -/
def Res.Told {β : Type} (Q : β → Prop) : Res LandS β → Prop
  | .ret a => Q a
  | .acc _ k => ∀ v, WfI v → (k v).Told Q
  | .mark _ k => k.Told Q
def shlOr (g s : Int) : Int := bits .or .i64 (wrap64 (g * 65536)) s
theorem shlOr_small {g s : Int} (h0 : 0 ≤ s) (h1 : s < 65536) : shlOr g s = hand g s := by
  unfold shlOr
  rw [← IntKind.wrap_i64']
  exact bits_or_low g s h0 h1
def takeR : Res LandS Int := (ldR 21).bind fun s => if s = 0 then .ret 0 else (cldR s 0).bind fun behind => (cldR s 27).bind fun g => (cstR s 27 (wrap64 (g + 1))).bind fun _ => (stTellR 21 behind fun α => (α.born (slotOf s)).2).bind fun _ => .ret (shlOr (wrap64 (g + 1)) s)
theorem Good.bindW {β γ : Type} {W : LandS → Prop} {r : Res LandS β} {f : β → Res LandS γ} {Q : β → Prop} (h : r.Good W) (hq : r.Told Q) (hf : ∀ v, Q v → (f v).Good W) : (r.bind f).Good W := by
  induction r with
  | ret a => exact hf a hq
  | acc d k ih => exact ⟨h.1, fun v hv => ih v (h.2 v hv) (hq v hv)⟩
  | mark kd k ih => exact ih h hq
theorem cld_wf (hd wd : Int) : (cldR hd wd).Told WfI := fun v hv => hv
theorem ld_wf (i : Int) : (ldR i).Told WfI := fun v hv => hv
theorem take_good : takeR.Good WfL := Good.bind (ld_good _) fun s => by
  split
  · trivial
  · exact Good.bindW (cld_good _ _) (cld_wf _ _) fun b hb => Good.bind (cld_good _ _) fun g => Good.bind (cst_good _ _ (WfI.wrap _)) fun _ => Good.bind (stTell_good _ hb _) fun _ => trivial
def TakeV : World → Int → Value → Prop := fun _ v x => x = .int .i64 v ∧ WfI v
theorem shlOr_wf (g s : Int) : WfI (shlOr g s) := wf_bits _ _ _ _
set_option maxRecDepth 100000 in
set_option maxHeartbeats 4000000 in
theorem replace_take (p : Pl) (lb : Nat) (n : Int) (σ : LandS) (s : TrS) (F : List Nat) (N : Nat) (w : World) (h : TL w p σ s F) (hi : s.In N) (hN : N ≤ 1000000) (hov : s.over = false)
    (hl : Blk w lb 93 #[.pointer (some ⟨p.m, 0, none⟩), .pointer (some ⟨p.a, 0, none⟩), .int .i64 n]) (hf : lb ∉ p.all F) :
    Calls Try.prog 85 #[.pointer (some ⟨p.t, 0, none⟩), .pointer (some ⟨lb, 0, none⟩)] w (DoesL TakeV w p σ s F takeR) := by
  have W0 := Lib.hid (Wk.start h hi hov hl hf takeR)
  clear h hi hov hl hf
  have C0 := Lib.hid (W0.out.ld hN)
  go_enter Try.func85, Try.ntmps85
  go_wp2_with fail
  refine C0.out.mono ?_
  rintro e w1 ⟨v, σ1, s1, F1, rfl, hv, hw, -, ha⟩
  have W1 := Lib.hid hw
  have HV := Lib.hid hv
  clear hw ha C0 W0
  by_cases h0 : v = 0
  · subst h0
    have HE := Lib.hid ((W1.out.eq (if_pos rfl)).ends (R := TakeV) (x := .int .i64 0) ⟨rfl, WfI.zero⟩)
    clear W1
    go_wp2
    go_ret
    exact HE.out
  · have h0b : (v == 0) = false := by rw [beq_eq_false_iff_ne]; exact h0
    have hv63 : v < 9223372036854775808 := by have := hv.bounds.2; omega
    have W2 := Lib.hid (W1.out.eq (if_neg h0))
    have HC := Lib.hid (W2.out.cell v 0 hv63)
    have HL := Lib.hid (W2.out.cld hN)
    obtain ⟨k0, k1, k2⟩ := W2.out.land.at3
    clear h0 hv W1
    go_wp2_with fail
    refine HC.out.mono ?_
    rintro e w2 ⟨rfl, rfl⟩
    go_wp2_with fail
    refine HL.out.mono ?_
    rintro e w2 ⟨bh, σ2, s2, F2, rfl, hbh, hw, -, ha⟩
    have W3 := Lib.hid hw
    have HBH := Lib.hid hbh
    clear hw ha hbh HC HL W2 k0 k1 k2
    have HC := Lib.hid (W3.out.cell v 27 hv63)
    have HL := Lib.hid (W3.out.cld hN)
    obtain ⟨k0, k1, k2⟩ := W3.out.land.at3
    go_wp2_with fail
    refine HC.out.mono ?_
    rintro e w3 ⟨rfl, rfl⟩
    go_wp2_with fail
    refine HL.out.mono ?_
    rintro e w3 ⟨g, σ3, s3, F3, rfl, hg, hw, -, ha⟩
    have W4 := Lib.hid hw
    clear hw ha hg HC HL W3 k0 k1 k2
    have HC := Lib.hid (W4.out.cell v 27 hv63)
    have HL := Lib.hid (W4.out.cst (WfI.wrap _) hN)
    obtain ⟨k0, k1, k2⟩ := W4.out.land.at3
    obtain ⟨g1, hg1⟩ : ∃ x, wrap64 (g + 1) = x := ⟨_, rfl⟩
    have HWG := Lib.hid (show WfI g1 by rw [← hg1]; exact WfI.wrap _)
    rw [hg1] at HL
    go_wp2_with fail
    refine HC.out.mono ?_
    rintro e w4 ⟨rfl, rfl⟩
    rw [hg1]
    go_wp2_with fail
    refine HL.out.mono ?_
    rintro e w4 ⟨rfl, σ4, s4, F4, hw, -, ha⟩
    have W5 := Lib.hid hw
    clear hw ha HC HL W4 k0 k1 k2
    have HL := Lib.hid (W5.out.half HBH.out hN)
    go_wp2_with fail
    refine HL.out.mono ?_
    rintro e w5 ⟨rfl, σ5, s5, F5, hw, -, ha⟩
    have H6 := Lib.hid hw
    have HFR := Lib.hid H6.out.fresh_ok
    have HAR := Lib.hid ha
    clear hw ha HL W5
    cases hfr : s5.fresh with
    | false =>
      have W7 := Lib.hid (H6.out.not hfr)
      rw [hfr] at HFR
      clear hfr H6 HAR
      go_wp2_with fail
      refine HFR.out.mono ?_
      rintro e w6 ⟨rfl, rfl⟩
      have HD := Lib.hid W7.out.dry_ok
      cases hdr : s5.dry with
      | true =>
        have HE := Lib.hid (W7.out.ends_dry hdr (0 : Int) (R := TakeV) (x := .int .i64 0) ⟨rfl, WfI.zero⟩)
        rw [hdr] at HD
        clear hdr W7
        go_wp2_with fail
        refine HD.out.mono ?_
        rintro e w8 ⟨rfl, rfl⟩
        go_wp2
        go_ret
        exact HE.out
      | false =>
        have HE := Lib.hid (W7.out.ends (R := TakeV) (x := .int .i64 (shlOr g1 v)) (by rw [← hg1]; exact ⟨rfl, shlOr_wf _ _⟩))
        rw [hdr] at HD
        clear hdr W7
        go_wp2_with fail
        refine HD.out.mono ?_
        rintro e w8 ⟨rfl, rfl⟩
        unfold shlOr at HE
        go_wp2
        go_ret
        exact HE.out
    | true =>
      have HS2 := Lib.hid (show ∀ w1, Calls Try.prog 67 #[.int .i64 v] w1 (fun e w' => e = .returned (.int .i64 (slotOf v)) ∧ w' = w1) from fun w1 => (arena_slot v w1 hv63).mono fun _ _ ⟨x, y⟩ => ⟨x, y.symm⟩)
      have HBO := Lib.hid (fun w9 (h9 : ArAt w9 p.a p.b σ5.ar) => arena_born p.a p.b σ5.ar (slotOf v) w9 h9)
      have H6D := Lib.hid (H6.out.thru (show Below w5.heap.size w5 w5.drew from below_drewN0 w5 1))
      have HFT := Lib.hid hfr
      rw [hfr] at HFR
      obtain ⟨k0, k1, k2⟩ := H6.out.land.at3
      clear hfr H6
      go_wp2_with fail
      refine HFR.out.mono ?_
      rintro e w6 ⟨rfl, rfl⟩
      go_upto_region 9 with fail
      refine wp_region_still_tail 6 (by kernel_rfl) (by kernel_rfl) ?_
      simp only [List.take_succ_cons, List.take_zero, List.drop_succ_cons, List.drop_zero]
      repeat (first | still_call (HS2.out _) | still_step)
      try refine wpStill_nil ?_
      change wpList _ _ _ _ _ w5.drew
      clear k0 k1 k2
      generalize w5.drew = w6 at *
      go_wp2_with fail
      refine (HBO.out w6 H6D.out.at_.tl.ar).mono ?_
      rintro e w7 ⟨rfl, har, hu⟩
      have W7 := Lib.hid (H6D.out.told HFT.out har hu).1
      have HD := Lib.hid W7.out.dry_ok
      clear har hu H6D HBO HS2 HFR HAR HFT
      cases hdr : s5.dry with
      | true =>
        have HE := Lib.hid (W7.out.ends_dry hdr (0 : Int) (R := TakeV) (x := .int .i64 0) ⟨rfl, WfI.zero⟩)
        rw [hdr] at HD
        clear hdr W7
        go_wp2_with fail
        refine HD.out.mono ?_
        rintro e w8 ⟨rfl, rfl⟩
        go_wp2
        go_ret
        exact HE.out
      | false =>
        have HE := Lib.hid (W7.out.ends (R := TakeV) (x := .int .i64 (shlOr g1 v)) (by rw [← hg1]; exact ⟨rfl, shlOr_wf _ _⟩))
        rw [hdr] at HD
        clear hdr W7
        go_wp2_with fail
        refine HD.out.mono ?_
        rintro e w8 ⟨rfl, rfl⟩
        unfold shlOr at HE
        go_wp2
        go_ret
        exact HE.out
end Go.Proofs.Ytldccemgfjmcdaa
