/- ReplaceRing. -/
import Derived.Test.YtldccemgfjmcdaaRingP19
namespace Go.Proofs.Ytldccemgfjmcdaa
open Go.RowKit
set_option linter.unusedSimpArgs false
set_option linter.unusedVariables false

theorem RI.to {L : LS} {e B e2 B2 : Int} (h : RI L e B) (he : e2 = e) (hB : B ≤ B2) : RI L e2 B2 := ⟨h.ring, h.free, by rw [he]; exact h.epoch, h.ok, h.sm.mono hB, h.one⟩
theorem ring_sm {L : LS} {e B : Int} (h : RI L e B) (he : 0 ≤ e) : ({ L.take.2.retire L.take.1 e with epoch := e + 2 } : LS).Sm (B + 4 + e) := by
  have := h.sm.take.retire L.take.1 e
  exact ⟨fun g hg => by have := this.1 g hg; omega, by have := this.2.1; simp only; omega, by simp only; omega, by simp only; have := h.epoch; have := h.sm.2.2.2; have := h.sm.2.2.1; omega⟩
theorem LandOf.lens {w : World} {lb m c a b N : Nat} {L : LS} (h : LandOf w lb m c a b N L) : L.gen.length = N := by obtain ⟨_, _, _, _, _, h3⟩ := h.land; exact h3.gl
theorem quiet_own19 {P : Program} {f : FuncId} {args : Array Value} {w : World} {n : Nat} {v : Value}
    (h : Calls P f args (w.drewN n) fun e w' => e = .returned v ∧ w.drewN n = w') : Calls P f args (w.drewN n) fun e w'' => e = .returned v ∧ ∃ m, w'' = w.drewN m :=
  h.mono fun _ _ ⟨he, hm⟩ => ⟨he, n, hm.symm⟩
set_option maxRecDepth 100000 in
set_option maxHeartbeats 4000000 in
theorem walk_ReplaceRing (sl ro : Int) (w : World) (h1 : (Lit.int .u8 sl).wf = true) (h2 : (Lit.int .u8 ro).wf = true) :
    Calls Try.prog 11 #[.int .u8 sl, .int .u8 ro] w fun e w' => e = .returned (.bool true) ∧ Below w.heap.size w w' := by
  obtain ⟨a1, a2⟩ := bounds_u8 h1
  obtain ⟨b1, b2⟩ := bounds_u8 h2
  have HB := Lib.hid (Below.refl w.heap.size w)
  go_enter Try.func11, Try.ntmps11
  go_wp2_with fail
  refine (awake19 w).mono ?_
  rintro e w1 ⟨rfl, hb⟩
  replace HB := Lib.hid (below_thru HB.out hb)
  clear hb
  obtain ⟨N, hN, n1, n2⟩ : ∃ N : Nat, 2 + sl % 19 = (N : Int) ∧ 2 ≤ N ∧ N ≤ 20 := ⟨(2 + sl % 19).toNat, by omega, by omega, by omega⟩
  have hcap : capL (N : Int) = N := by unfold capL; rw [if_neg (by omega), if_neg (by omega)]; rfl
  have HN := Lib.hid (replace_new (N : Int) w1 (WfI.of ⟨by omega, by omega⟩))
  rw [hcap] at HN
  have HNN := Lib.hid hN
  clear hcap hN h1 h2
  go_wp2_with fail
  rw [HNN.out]
  refine HN.out.mono ?_
  rintro e w2 ⟨lb, m, c, a, b, rfl, hb0, hnl⟩
  have HL0 := Lib.hid (hnl.of (by omega) (by omega))
  have HNEW := Lib.hid (show ∀ x ∈ [m, c, a, b], w.heap.size ≤ x by
    have h1 := hnl.new
    have h2 := HB.out.size
    intro x hx
    simp only [List.mem_cons, List.not_mem_nil, or_false] at hx
    omega)
  have HB0 := Lib.hid (below_thru HB.out hb0)
  have HRI0 := Lib.hid (ri_new N n1)
  clear hb0 hnl HN HB HNN
  obtain ⟨R, hR, r1, r2⟩ : ∃ R : Nat, ro % 60 = (R : Int) ∧ 0 ≤ R ∧ R < 60 := ⟨(ro % 60).toNat, by omega, by omega, by omega⟩
  have HRR0 := Lib.hid hR
  clear hR
  go_wp2_with fail
  go_loopw [6, 7] (fun ep i wr => ∃ (j : Nat) (L : LS), j ≤ R ∧ ep = .int .i64 (2 * j) ∧ i = .int .i64 j ∧ LandOf wr lb m c a b N L ∧ RI L (2 * j) (1 + 200 * j) ∧ Below w.heap.size w wr) (fun _ i _ => R - (intOf i).toNat)
  case atStart => exact ⟨0, LS.new N, by omega, rfl, rfl, HL0.out, HRI0.out, HB0.out⟩
  case round =>
    clear HL0 HRI0 HB0
    obtain ⟨j, L, hj, rfl, rfl, hl, hri, hb⟩ := hrel
    have HL := Lib.hid hl
    have HRI := Lib.hid hri
    have HB := Lib.hid hb
    clear hl hri hb
    by_cases hlt : j < R
    · have HLT := Lib.hid (show (j : Int) < ro % 60 by rw [HRR0.out]; omega)
      obtain ⟨σ, f, α, hla, -, hrl⟩ := HL.out.land
      have HX := Lib.hid (hla.lt)
      obtain ⟨h0, ho1, hrg, ⟨s, hs, hdead⟩, hri2⟩ := ring_round hrl HRI.out (by omega) (by omega) (by omega) (by omega)
      have H0 := Lib.hid h0
      have HO1 := Lib.hid ho1
      have HRG := Lib.hid hrg
      have HS := Lib.hid hs
      have HDEAD := Lib.hid hdead
      have HRI2 := Lib.hid hri2
      have HGN := Lib.hid hrl.gl
      clear hla hrl h0 ho1 hrg hs hdead hri2
      have hlt1 := HLT.out
      have HD := Lib.hid (do_take HL.out HRI.out.sm (by omega) (by omega) 0 0 0 0 0 none)
      clear HLT
      go_wp2_with fail
      refine HD.out.mono ?_
      rintro e v1 ⟨cs, n, rfl, -, ⟨A1, e1, rfl, -, -, -⟩, hl, hu⟩
      have HL1 := Lib.hid hl
      have HB1 := Lib.hid (below_upd HB.out hu (Nat.le_refl _) HNEW.out)
      have HX1 := Lib.hid (show ∀ x ∈ [m, c, a, b], x < v1.heap.size from fun x hx => Nat.lt_of_lt_of_le (HX.out x hx) hu.size)
      clear hl hu HD HL HB HX hlt1
      simp only [List.length_nil]
      replace HL1 := Lib.hid (HL1.out.thru (below_alloc0 v1 (.cells #[.int .i64 L.take.1, .slice A1 0 e1, .bool false, .int .i64 0] 84)))
      replace HB1 := Lib.hid (below_thru HB1.out (below_alloc0 v1 (.cells #[.int .i64 L.take.1, .slice A1 0 e1, .bool false, .int .i64 0] 84)))
      have HR1 := Lib.hid (Blk.new v1 84 #[.int .i64 L.take.1, .slice A1 0 e1, .bool false, .int .i64 0])
      go_upto_region 9 with fail
      have HZ := Lib.hid (World.size_alloc v1 (.cells #[.int .i64 L.take.1, .slice A1 0 e1, .bool false, .int .i64 0] 84))
      obtain ⟨rb, hrb⟩ : ∃ x, v1.heap.size = x := ⟨_, rfl⟩
      simp only [hrb] at HR1 HZ ⊢
      replace hrb := Lib.hid hrb
      generalize v1.alloc (.cells #[.int .i64 L.take.1, .slice A1 0 e1, .bool false, .int .i64 0] 84) = v2 at *
      have HN1 := Lib.hid (show rb ∉ [m, c, a, b] from fun hin => by have := HX1.out _ hin; have := hrb.out; omega)
      have HX2 := Lib.hid (show ∀ x ∈ [m, c, a, b], x < v2.heap.size from fun x hx => by have := HX1.out _ hx; have := hrb.out; have := HZ.out; omega)
      clear HX1 HZ hrb
      obtain ⟨p0, p1, p2, p3⟩ := HR1.out.at4
      have HD := Lib.hid (do_retire HL1.out HRI.out.sm.take (by omega) (by omega) (by omega) L.take.1 (2 * j) (LS.has_wf HS.out HRI.out.sm.take (by omega) (by have := HL1.out.lens; omega)) (WfI.of ⟨by omega, by omega⟩) HRG.out 0 0 0 none)
      go_wp2_with fail
      refine HD.out.mono ?_
      rintro e v3 ⟨cs, n, rfl, -, ⟨A2, e2, rfl, -, -, -⟩, hl, hu⟩
      have HL3 := Lib.hid hl
      have HB3 := Lib.hid (below_upd HB1.out hu (Nat.le_refl _) HNEW.out)
      have HR3 := Lib.hid (HR1.out.upd hu HN1.out)
      have HX3 := Lib.hid (show ∀ x ∈ [m, c, a, b], x < v3.heap.size from fun x hx => Nat.lt_of_lt_of_le (HX2.out x hx) hu.size)
      clear hl hu HD HL1 HB1 HR1 HX2 p0 p1 p2 p3
      simp only [List.length_nil]
      replace HL3 := Lib.hid (HL3.out.thru (below_alloc0 v3 (.cells #[.int .i64 0, .slice A2 0 e2, .bool false, .int .i64 0] 84)))
      replace HB3 := Lib.hid (below_thru HB3.out (below_alloc0 v3 (.cells #[.int .i64 0, .slice A2 0 e2, .bool false, .int .i64 0] 84)))
      replace HR3 := Lib.hid (HR3.out.thru (below_alloc0 v3 (.cells #[.int .i64 0, .slice A2 0 e2, .bool false, .int .i64 0] 84)))
      have HQ := Lib.hid (Blk.new v3 84 #[.int .i64 0, .slice A2 0 e2, .bool false, .int .i64 0])
      go_upto_region 10 with fail
      have HZ := Lib.hid (World.size_alloc v3 (.cells #[.int .i64 0, .slice A2 0 e2, .bool false, .int .i64 0] 84))
      obtain ⟨rc, hrc⟩ : ∃ x, v3.heap.size = x := ⟨_, rfl⟩
      simp only [hrc] at HQ HZ ⊢
      replace hrc := Lib.hid hrc
      generalize v3.alloc (.cells #[.int .i64 0, .slice A2 0 e2, .bool false, .int .i64 0] 84) = v4 at *
      have HX4 := Lib.hid (show ∀ x ∈ [m, c, a, b], x < v4.heap.size from fun x hx => by have := HX3.out _ hx; have := hrc.out; have := HZ.out; omega)
      clear HX3 HZ hrc HQ
      have hz1 : (((LS.reclaimGo 9 0 (L.take.2.retire L.take.1 (2 * j))).1 : Nat) : Int) = 0 := by rw [ring_early HRI.out]; rfl
      have hz2 : (LS.reclaimGo 9 0 (L.take.2.retire L.take.1 (2 * j))).2 = L.take.2.retire L.take.1 (2 * j) := by rw [ring_early HRI.out]
      have HD := Lib.hid (do_reclaim HL3.out (HRI.out.sm.take.retire L.take.1 (2 * j)) (by omega) (by omega) (by omega) (LS.Ok.retire HO1.out (2 * j)) 9 (by omega) 0 0 0 0 none)
      rw [hz1, hz2] at HD
      clear hz1 hz2
      go_wp2_with fail
      refine HD.out.mono ?_
      rintro e v5 ⟨cs, n, rfl, -, ⟨A3, e3, rfl, -, -, -⟩, hl, hu⟩
      have HL5 := Lib.hid hl
      have HB5 := Lib.hid (below_upd HB3.out hu (Nat.le_refl _) HNEW.out)
      have HR5 := Lib.hid (HR3.out.upd hu HN1.out)
      have HX5 := Lib.hid (show ∀ x ∈ [m, c, a, b], x < v5.heap.size from fun x hx => Nat.lt_of_lt_of_le (HX4.out x hx) hu.size)
      clear hl hu HD HL3 HB3 HR3 HX4
      simp only [List.length_nil]
      replace HL5 := Lib.hid (HL5.out.thru (below_alloc0 v5 (.cells #[.int .i64 0, .slice A3 0 e3, .bool false, .int .i64 0] 84)))
      replace HB5 := Lib.hid (below_thru HB5.out (below_alloc0 v5 (.cells #[.int .i64 0, .slice A3 0 e3, .bool false, .int .i64 0] 84)))
      replace HR5 := Lib.hid (HR5.out.thru (below_alloc0 v5 (.cells #[.int .i64 0, .slice A3 0 e3, .bool false, .int .i64 0] 84)))
      have HE5 := Lib.hid (Blk.new v5 84 #[.int .i64 0, .slice A3 0 e3, .bool false, .int .i64 0])
      go_upto_region 12 with fail
      have HZ := Lib.hid (World.size_alloc v5 (.cells #[.int .i64 0, .slice A3 0 e3, .bool false, .int .i64 0] 84))
      obtain ⟨rd, hrd⟩ : ∃ x, v5.heap.size = x := ⟨_, rfl⟩
      simp only [hrd] at HE5 HZ ⊢
      replace hrd := Lib.hid hrd
      generalize v5.alloc (.cells #[.int .i64 0, .slice A3 0 e3, .bool false, .int .i64 0] 84) = v6 at *
      have HN6 := Lib.hid (show rd ∉ [m, c, a, b] from fun hin => by have := HX5.out _ hin; have := hrd.out; omega)
      clear HX5 HZ hrd
      have HD := Lib.hid (do_epoch HL5.out 0 0 0 0 (2 * j + 2) (WfI.of ⟨by omega, by omega⟩) none)
      go_wp2_with fail
      refine HD.out.mono ?_
      rintro e v7 ⟨cs, n, rfl, -, ⟨A4, e4, rfl, -, -, -⟩, hl, hu⟩
      have HL7 := Lib.hid hl
      have HB7 := Lib.hid (below_upd HB5.out hu (Nat.le_refl _) HNEW.out)
      have HR7 := Lib.hid (HR5.out.upd hu HN1.out)
      have HE7 := Lib.hid (HE5.out.upd hu HN6.out)
      clear hl hu HD HL5 HB5 HR5 HE5
      have hz1 : (((LS.reclaimGo 9 0 { L.take.2.retire L.take.1 (2 * j) with epoch := 2 * j + 2 }).1 : Nat) : Int) = 1 := by rw [ring_late HRI.out]; rfl
      have hz2 : (LS.reclaimGo 9 0 { L.take.2.retire L.take.1 (2 * j) with epoch := 2 * j + 2 }).2 = L.round (2 * j) := by rw [ring_late HRI.out]
      have HD := Lib.hid (do_reclaim HL7.out (ring_sm HRI.out (by omega)) (by omega) (by omega) (by omega) ((LS.Ok.retire HO1.out (2 * j)).epoch (2 * j + 2)) 9 (by omega) 0 0 0 0 none)
      rw [hz1, hz2] at HD
      clear hz1 hz2
      go_wp2_with fail
      refine HD.out.mono ?_
      rintro e v8 ⟨cs, n, rfl, -, ⟨A5, e5, rfl, -, -, -⟩, hl, hu⟩
      have HL8 := Lib.hid hl
      have HB8 := Lib.hid (below_upd HB7.out hu (Nat.le_refl _) HNEW.out)
      have HR8 := Lib.hid (HR7.out.upd hu HN1.out)
      have HE8 := Lib.hid (HE7.out.upd hu HN6.out)
      clear hl hu HD HL7 HB7 HR7 HE7
      simp only [List.length_nil]
      replace HL8 := Lib.hid (HL8.out.thru (below_alloc0 v8 (.cells #[.int .i64 0, .slice A5 0 e5, .bool false, .int .i64 1] 84)))
      replace HB8 := Lib.hid (below_thru HB8.out (below_alloc0 v8 (.cells #[.int .i64 0, .slice A5 0 e5, .bool false, .int .i64 1] 84)))
      replace HR8 := Lib.hid (HR8.out.thru (below_alloc0 v8 (.cells #[.int .i64 0, .slice A5 0 e5, .bool false, .int .i64 1] 84)))
      replace HE8 := Lib.hid (HE8.out.thru (below_alloc0 v8 (.cells #[.int .i64 0, .slice A5 0 e5, .bool false, .int .i64 1] 84)))
      have HF8 := Lib.hid (Blk.new v8 84 #[.int .i64 0, .slice A5 0 e5, .bool false, .int .i64 1])
      go_upto_region 14 with fail
      have HZ := Lib.hid (World.size_alloc v8 (.cells #[.int .i64 0, .slice A5 0 e5, .bool false, .int .i64 1] 84))
      obtain ⟨re, hre⟩ : ∃ x, v8.heap.size = x := ⟨_, rfl⟩
      simp only [hre] at HF8 HZ ⊢
      replace hre := Lib.hid hre
      generalize v8.alloc (.cells #[.int .i64 0, .slice A5 0 e5, .bool false, .int .i64 1] 84) = v9 at *
      have HLEN := HS.out.2.1
      have HSG := HS.out.1
      have hlen : L.take.2.gen.length = N := by have := HGN.out; unfold LS.take; split <;> simpa using this
      have HRW := Lib.hid (fun n => LandOf.wrong (HL8.out.thru (below_drewN0 v9 n)) (HRI2.out.sm.small (by omega)) (by omega) HSG (by omega) HS.out.2.2.2 (getD_small (HRI.out.sm.take.small (by omega)).1) HDEAD.out)
      have HDB := Lib.hid (fun n => (HL8.out.thru (below_drewN0 v9 n)).double)
      clear HLEN HSG hlen
      have h0b : (L.take.1 == 0) = false := by rw [beq_eq_false_iff_ne]; exact H0.out
      obtain ⟨d0, d1, d2⟩ := HL8.out.top.at3
      obtain ⟨p0, p1, p2, p3⟩ := HR8.out.at4
      obtain ⟨q0, q1, q2, q3⟩ := HE8.out.at4
      obtain ⟨s0, s1, s2, s3⟩ := HF8.out.at4
      go_quiet ((first | (go_at_call 40; exact quiet_own19 (HRW.out _)) | (go_at_call 41; exact quiet_own19 (HDB.out _))))
      go_wp2
      go_roundw
      case rel => exact ⟨j + 1, L.round (2 * j), by omega, by go_num, by go_num, HL8.out.thru (below_drewN0 v9 _), HRI2.out.to (by omega) (by omega), below_thru HB8.out (below_drewN0 v9 _)⟩
      case measure => simp [intOf]; omega
    · have HLT := Lib.hid (show ¬ (j : Int) < ro % 60 by rw [HRR0.out]; omega)
      have HLV := Lib.hid HL.out.live
      have hlt2 := HLT.out
      obtain ⟨d0, d1, d2⟩ := HL.out.top.at3
      have HONE := Lib.hid HRI.out.one
      rw [HONE.out] at HLV
      go_wp2_with fail
      refine HLV.out.mono ?_
      rintro e w3 ⟨⟨A, c2, rfl⟩, hb⟩
      have HB3 := Lib.hid (below_thru HB.out hb)
      clear hb d0 d1 d2
      go_wp2
      go_ret
      exact ⟨rfl, HB3.out⟩
end Go.Proofs.Ytldccemgfjmcdaa
