/- SlotAreas, walked. -/
import Derived.Test.YtnglbgdokdcefaaArea5
import Derived.Test.YtnglbgdokdcefaaOpenArea
namespace Go.Proofs.Ytnglbgdokdcefaa
open Go.RowKit
set_option linter.unusedSimpArgs false
set_option linter.unusedVariables false

theorem Row.belowB {w w' : World} {B g n c z : Nat} {t : TypeId} {xs : List Value} (h : Row w t z g n c xs) (hu : Below B w w') (hg : g < B) : Row w' t z g n c xs := by
  obtain ⟨cur, hb, h'⟩ := h
  exact ⟨cur, hb.below hu hg, h'⟩
theorem Row.intsB {w : World} {g n c : Nat} {zs : List Int} (h : Row w 2 1 g n c (i64s zs)) (hz : ∀ x ∈ zs, (Lit.int .i64 x).wf = true) : Ints w (some ⟨g, 0, none⟩) n c zs := ArgInts.ofRow h hz
set_option maxRecDepth 100000 in
set_option maxHeartbeats 2000000 in
theorem areas15 (a : AreaV) (dead : Bool) (w : World) (ok : a.Ok) : Calls Try.prog 10 #[.agg (areaCells a), .bool dead] w fun e w' => e = .returned (.bool true) ∧ Below w.heap.size w w' := by
  have HB := Lib.hid ((Below.refl w.heap.size w).alloc (Nat.le_refl _) (.cells (areaCells a) 62))
  have HN := Lib.hid (Blk.new w 62 (areaCells a))
  cases hf : a.formedB with
  | false =>
    have HA := Lib.hid awake15
    have HC := Lib.hid (fun w1 => ref15_area a w1 ok)
    have HP := Lib.hid (fun w1 => ref15_packArea a dead w1 ok)
    have HK := Lib.hid (fun w1 => slot_packArea a dead w1 ok)
    have HFF := Lib.hid hf
    rw [hf] at HC
    clear hf ok
    obtain ⟨start, stop, prot, shared, back, off⟩ := a
    simp only [areaCells] at *
    have t0 := (HN.out).at_ (i := 0) rfl
    have t1 := (HN.out).at_ (i := 1) rfl
    have t2 := (HN.out).at_ (i := 2) rfl
    have t3 := (HN.out).at_ (i := 3) rfl
    have t4 := (HN.out).at_ (i := 4) rfl
    have t5 := (HN.out).at_ (i := 5) rfl
    simp only [List.getElem_toArray, List.getElem_cons_succ, List.getElem_cons_zero] at t0 t1 t2 t3 t4 t5
    go_enter Try.func10, Try.ntmps10
    go_upto_region 1 with fail
    generalize w.alloc (.cells #[.int .i64 start, .int .i64 stop, .int .i64 prot, .bool shared, .int .i64 back, .int .i64 off] 62) = w1 at *
    go_wp2_with fail
    refine (HK.out w1).mono ?_
    rintro e w2 ⟨hb2, hcase⟩
    have HB2 := Lib.hid (below_then HB.out hb2 (Nat.le_refl _))
    have HN2 := Lib.hid (HN.out.below hb2 HN.out.lt)
    clear t0 t1 t2 t3 t4 t5
    clear hb2
    rcases hcase with ⟨-, rfl⟩ | ⟨hno, -⟩
    · have HU := Lib.hid (slot_unpackArea none 0 0 [] w2 ⟨rfl, Nat.le_refl _, Nat.zero_le _, by simp, .inl rfl⟩)
      go_wp2_with fail
      refine HU.out.mono ?_
      rintro e w3 ⟨hb3, hcase⟩
      have hnil : unpackA [] = none := unpackA_short (by decide)
      rw [hnil] at hcase
      rcases hcase with ⟨-, rfl⟩ | ⟨_, _, h0, -⟩
      · unfold noArea
        have HB3 := Lib.hid (below_then HB2.out hb3 (Nat.le_refl _))
        have HN3 := Lib.hid ((HN2.out.below hb3 HN2.out.lt).alloc (.cells #[.int .i64 0, .int .i64 0, .int .i64 0, .bool false, .int .i64 0, .int .i64 0] 62))
        have HM3 := Lib.hid (Blk.new w3 62 #[.int .i64 0, .int .i64 0, .int .i64 0, .bool false, .int .i64 0, .int .i64 0])
        have HB4 := Lib.hid (HB3.out.alloc HB3.out.size (.cells #[.int .i64 0, .int .i64 0, .int .i64 0, .bool false, .int .i64 0, .int .i64 0] 62))
        clear hb3
        go_upto_region 3 with fail
        generalize w3.alloc (.cells #[.int .i64 0, .int .i64 0, .int .i64 0, .bool false, .int .i64 0, .int .i64 0] 62) = w4 at *
        go_wp2_with fail
        refine (HA.out w4).mono ?_
        rintro e w5 ⟨rfl, hb5⟩
        have HB5 := Lib.hid (below_then HB4.out hb5 (Nat.le_refl _))
        have HN5 := Lib.hid (HN3.out.below hb5 HN3.out.lt)
        clear hb5
        have t0 := (HN5.out).at_ (i := 0) rfl
        have t1 := (HN5.out).at_ (i := 1) rfl
        have t2 := (HN5.out).at_ (i := 2) rfl
        have t3 := (HN5.out).at_ (i := 3) rfl
        have t4 := (HN5.out).at_ (i := 4) rfl
        have t5 := (HN5.out).at_ (i := 5) rfl
        simp only [List.getElem_toArray, List.getElem_cons_succ, List.getElem_cons_zero] at t0 t1 t2 t3 t4 t5
        go_wp2_with fail
        refine (HC.out w5).mono ?_
        rintro e w6 ⟨rfl, hb6⟩
        have HB6 := Lib.hid (below_then HB5.out hb6 (Nat.le_refl _))
        clear t0 t1 t2 t3 t4 t5
        clear hb6
        go_wp2_with fail
        refine (HA.out w6).mono ?_
        rintro e w7 ⟨rfl, hb7⟩
        have HB7 := Lib.hid (below_then HB6.out hb7 (Nat.le_refl _))
        clear hb7
        go_wp2
        go_ret
        exact ⟨rfl, HB7.out⟩
      · cases h0
    · rw [HFF.out] at hno
      cases hno
  | true =>
    have HA := Lib.hid awake15
    have HC := Lib.hid (fun w1 => ref15_area a w1 ok)
    have HP := Lib.hid (fun w1 => ref15_packArea a dead w1 ok)
    have HK := Lib.hid (fun w1 => slot_packArea a dead w1 ok)
    have HFF := Lib.hid hf
    rw [hf] at HC
    clear hf ok
    obtain ⟨start, stop, prot, shared, back, off⟩ := a
    simp only [areaCells] at *
    have t0 := (HN.out).at_ (i := 0) rfl
    have t1 := (HN.out).at_ (i := 1) rfl
    have t2 := (HN.out).at_ (i := 2) rfl
    have t3 := (HN.out).at_ (i := 3) rfl
    have t4 := (HN.out).at_ (i := 4) rfl
    have t5 := (HN.out).at_ (i := 5) rfl
    simp only [List.getElem_toArray, List.getElem_cons_succ, List.getElem_cons_zero] at t0 t1 t2 t3 t4 t5
    go_enter Try.func10, Try.ntmps10
    go_upto_region 1 with fail
    generalize w.alloc (.cells #[.int .i64 start, .int .i64 stop, .int .i64 prot, .bool shared, .int .i64 back, .int .i64 off] 62) = w1 at *
    go_wp2_with fail
    refine (HK.out w1).mono ?_
    rintro e w2 ⟨hb2, hcase⟩
    have HB2 := Lib.hid (below_then HB.out hb2 (Nat.le_refl _))
    have HN2 := Lib.hid (HN.out.below hb2 HN.out.lt)
    clear t0 t1 t2 t3 t4 t5
    clear hb2
    rcases hcase with ⟨hno, -⟩ | ⟨-, g, cg, rfl, hg, hrow⟩
    · rw [HFF.out] at hno
      cases hno
    · have HWF := Lib.hid (AreaV.pack_i64 HFF.out dead)
      have HUP := Lib.hid (unpackA_pack HFF.out dead)
      have HU := Lib.hid (slot_unpackArea _ _ _ _ w2 (hrow.intsB HWF.out))
      have HR2 := Lib.hid hrow
      clear hrow
      go_wp2_with fail
      refine HU.out.mono ?_
      rintro e w3 ⟨hb3, hcase⟩
      rw [HUP.out] at hcase
      rcases hcase with ⟨h0, -⟩ | ⟨a', d', h0, rfl⟩
      · cases h0
      · simp only [Option.some.injEq, Prod.mk.injEq] at h0
        obtain ⟨rfl, rfl⟩ := h0
        simp only [areaCells]
        have HB3 := Lib.hid (below_then HB2.out hb3 (Nat.le_refl _))
        have HN3 := Lib.hid ((HN2.out.below hb3 HN2.out.lt).alloc (.cells #[.int .i64 start, .int .i64 stop, .int .i64 prot, .bool shared, .int .i64 back, .int .i64 off] 62))
        have HM3 := Lib.hid (Blk.new w3 62 #[.int .i64 start, .int .i64 stop, .int .i64 prot, .bool shared, .int .i64 back, .int .i64 off])
        have HB4 := Lib.hid (HB3.out.alloc HB3.out.size (.cells #[.int .i64 start, .int .i64 stop, .int .i64 prot, .bool shared, .int .i64 back, .int .i64 off] 62))
        have HR3 := Lib.hid ((HR2.out.belowB hb3 HR2.out.lt).alloc (.cells #[.int .i64 start, .int .i64 stop, .int .i64 prot, .bool shared, .int .i64 back, .int .i64 off] 62))
        clear hb3
        go_upto_region 3 with fail
        obtain ⟨mb, hmb⟩ : ∃ mb, w3.heap.size = mb := ⟨_, rfl⟩
        rw [hmb] at HM3 ⊢
        clear hmb
        generalize w3.alloc (.cells #[.int .i64 start, .int .i64 stop, .int .i64 prot, .bool shared, .int .i64 back, .int .i64 off] 62) = w4 at *
        go_wp2_with fail
        refine (HA.out w4).mono ?_
        rintro e w5 ⟨rfl, hb5⟩
        have HB5 := Lib.hid (below_then HB4.out hb5 (Nat.le_refl _))
        have HN5 := Lib.hid (HN3.out.below hb5 HN3.out.lt)
        have HM5 := Lib.hid (HM3.out.below hb5 HM3.out.lt)
        have HR5 := Lib.hid (HR3.out.belowB hb5 HR3.out.lt)
        clear hb5
        have t0 := (HN5.out).at_ (i := 0) rfl
        have t1 := (HN5.out).at_ (i := 1) rfl
        have t2 := (HN5.out).at_ (i := 2) rfl
        have t3 := (HN5.out).at_ (i := 3) rfl
        have t4 := (HN5.out).at_ (i := 4) rfl
        have t5 := (HN5.out).at_ (i := 5) rfl
        simp only [List.getElem_toArray, List.getElem_cons_succ, List.getElem_cons_zero] at t0 t1 t2 t3 t4 t5
        go_wp2_with fail
        refine (HC.out w5).mono ?_
        rintro e w6 ⟨rfl, hb6⟩
        have HB6 := Lib.hid (below_then HB5.out hb6 (Nat.le_refl _))
        have HN6 := Lib.hid (HN5.out.below hb6 HN5.out.lt)
        have HM6 := Lib.hid (HM5.out.below hb6 HM5.out.lt)
        have HR6 := Lib.hid (HR5.out.belowB hb6 HR5.out.lt)
        clear t0 t1 t2 t3 t4 t5
        clear hb6
        have t0 := (HN6.out).at_ (i := 0) rfl
        have t1 := (HN6.out).at_ (i := 1) rfl
        have t2 := (HN6.out).at_ (i := 2) rfl
        have t3 := (HN6.out).at_ (i := 3) rfl
        have t4 := (HN6.out).at_ (i := 4) rfl
        have t5 := (HN6.out).at_ (i := 5) rfl
        simp only [List.getElem_toArray, List.getElem_cons_succ, List.getElem_cons_zero] at t0 t1 t2 t3 t4 t5
        go_wp2_with fail
        refine (HP.out w6).mono ?_
        rintro e w7 ⟨gp, rfl, hgp, hrp, hb7⟩
        have HB7 := Lib.hid (below_then HB6.out hb7 (Nat.le_refl _))
        have HN7 := Lib.hid (HN6.out.below hb7 HN6.out.lt)
        have HM7 := Lib.hid (HM6.out.below hb7 HM6.out.lt)
        have HSA := ref15_same _ _ 28 28 _ _ _ _ w7 ((HR6.out.belowB hb7 HR6.out.lt).intsB HWF.out) (hrp.intsB HWF.out)
        rw [show ∀ l : List Int, decide (l = l) = true from fun l => by simp] at HSA
        have HSA' := Lib.hid HSA
        clear t0 t1 t2 t3 t4 t5
        clear hb7 hrp HSA
        go_wp2_with fail
        refine HSA'.out.mono ?_
        rintro e w8 ⟨rfl, q, rfl⟩
        have HB8 := Lib.hid (below_drewN HB7.out q)
        have HN8 := Lib.hid (HN7.out.drewN q)
        have HM8 := Lib.hid (HM7.out.drewN q)
        generalize w7.drewN q = w8 at *
        have t0 := (HN8.out).at_ (i := 0) rfl
        have t1 := (HN8.out).at_ (i := 1) rfl
        have t2 := (HN8.out).at_ (i := 2) rfl
        have t3 := (HN8.out).at_ (i := 3) rfl
        have t4 := (HN8.out).at_ (i := 4) rfl
        have t5 := (HN8.out).at_ (i := 5) rfl
        simp only [List.getElem_toArray, List.getElem_cons_succ, List.getElem_cons_zero] at t0 t1 t2 t3 t4 t5
        have m0 := (HM8.out).at_ (i := 0) rfl
        have m1 := (HM8.out).at_ (i := 1) rfl
        have m2 := (HM8.out).at_ (i := 2) rfl
        have m3 := (HM8.out).at_ (i := 3) rfl
        have m4 := (HM8.out).at_ (i := 4) rfl
        have m5 := (HM8.out).at_ (i := 5) rfl
        simp only [List.getElem_toArray, List.getElem_cons_succ, List.getElem_cons_zero] at m0 m1 m2 m3 m4 m5
        go_wp2
        all_goals go_ret
        all_goals exact ⟨rfl, HB8.out⟩
end Go.Proofs.Ytnglbgdokdcefaa
