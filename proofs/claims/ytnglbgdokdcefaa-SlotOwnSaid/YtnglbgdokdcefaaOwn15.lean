/- SlotOwn, walked. -/
import Derived.Test.YtnglbgdokdcefaaLaw15
import Derived.Test.YtnglbgdokdcefaaOpenAgg
namespace Go.Proofs.Ytnglbgdokdcefaa
open Go.RowKit
set_option linter.unusedSimpArgs false
set_option linter.unusedVariables false

/-- A row of k ints, whatever they are. -/
def IntRow (w : World) (g k c : Nat) : Prop := ∃ ys : List Int, ys.length = k ∧ Row w 2 1 g k c (i64s ys)
theorem IntRow.lt {w : World} {g k c : Nat} (h : IntRow w g k c) : g < w.heap.size := h.elim fun _ h => h.2.lt
theorem IntRow.free {w : World} {g k c : Nat} (h : IntRow w g k c) (j : Nat) : w.frozen? ⟨g, j, none⟩ = false := h.elim fun _ h => h.2.free j
theorem IntRow.le {w : World} {g k c : Nat} (h : IntRow w g k c) : k ≤ c ∧ c ≤ 2 ^ 63 - 1 := by
  obtain ⟨ys, _, cur, _, _, _, h1, h2, _⟩ := h
  unfold maxLen at h2
  exact ⟨h1, h2⟩
theorem IntRow.far {w : World} {g k c : Nat} (h : IntRow w g k c) {p : Addr} (hp : g ≠ p.block) (u : Value) : IntRow (w.setCell p u) g k c := h.elim fun ys h => ⟨ys, h.1, h.2.far hp u⟩
theorem IntRow.upd {w w' : World} {F : List Nat} {g k c : Nat} (h : IntRow w g k c) (hu : Upd F w w') (hg : g ∉ F) : IntRow w' g k c := h.elim fun ys h => ⟨ys, h.1, h.2.upd hu hg⟩
theorem IntRow.below {w w' : World} {B g k c : Nat} (h : IntRow w g k c) (hu : Below B w w') (hg : g < B) : IntRow w' g k c := h.elim fun ys h => ⟨ys, h.1, by
  obtain ⟨cur, hb, h'⟩ := h.2
  exact ⟨cur, hb.below hu hg, h'⟩⟩
theorem IntRow.cell {w : World} {g k c j : Nat} (h : IntRow w g k c) (hj : j < k) : ∃ y, w.cell? ⟨g, j, none⟩ = some (.int .i64 y) := by
  obtain ⟨ys, hl, h⟩ := h
  exact ⟨ys[j]'(by omega), h.cell (by unfold i64s; rw [List.getElem?_map, List.getElem?_eq_getElem (by omega)]; rfl)⟩
theorem IntRow.put {w : World} {g k c j : Nat} (h : IntRow w g k c) (hj : j < k) (y : Int) : IntRow (w.setCell ⟨g, j, none⟩ (.int .i64 y)) g k c := by
  obtain ⟨ys, hl, h⟩ := h
  refine ⟨ys.set j y, by simpa using hl, ?_⟩
  have := h.put (j := j) (by unfold i64s; simpa using (by omega : j < ys.length)) (.int .i64 y)
  unfold i64s at this ⊢
  rw [List.map_set]
  exact this
theorem Row.below {w w' : World} {B g n c z : Nat} {t : TypeId} {xs : List Value} (h : Row w t z g n c xs) (hu : Below B w w') (hg : g < B) : Row w' t z g n c xs := by
  obtain ⟨cur, hb, h'⟩ := h
  exact ⟨cur, hb.below hu hg, h'⟩
theorem Row.ints {w : World} {g n c : Nat} {zs : List Int} (h : Row w 2 1 g n c (i64s zs)) (hz : ∀ x ∈ zs, (Lit.int .i64 x).wf = true) : Ints w (some ⟨g, 0, none⟩) n c zs := ArgInts.ofRow h hz
set_option maxRecDepth 100000 in
set_option maxHeartbeats 2000000 in
theorem own15 (n : NodeV) (a1 a2 a3 : Option Addr) (c1 c2 c3 : Nat) (w : World) (h : NodeR w n a1 a2 a3 c1 c2 c3) :
    Calls Try.prog 9 #[.agg (nodeCells n.inner n.lo a1 a2 a3 n.ends.length n.slots.length n.gaps.length c1 c2 c3)] w fun e w' => e = .returned (.bool true) ∧ Below w.heap.size w w' := by
  have hb : ∀ o : Obj, Below w.heap.size w (w.alloc o) := fun o => (Below.refl _ _).alloc (Nat.le_refl _) _
  have HA := Lib.hid awake15
  have HF := Lib.hid (fun (w1 : World) (hw : Below w.heap.size w w1) => few15 n a1 a2 a3 c1 c2 c3 w1 (h.below hw))
  have HO := Lib.hid (fun (w1 : World) (hw : Below w.heap.size w w1) => slot_formed n a1 a2 a3 c1 c2 c3 w1 (h.below hw))
  have HK := Lib.hid (fun (w1 : World) (hw : Below w.heap.size w w1) => slot_pack n a1 a2 a3 c1 c2 c3 w1 (h.below hw))
  have HH := Lib.hid h
  clear h
  have hB0 := hb (.cells (nodeCells n.inner n.lo a1 a2 a3 n.ends.length n.slots.length n.gaps.length c1 c2 c3) 54)
  have hN0 := Blk.new w 54 (nodeCells n.inner n.lo a1 a2 a3 n.ends.length n.slots.length n.gaps.length c1 c2 c3)
  unfold nodeCells at *
  cases hf : n.fewB with
  | false =>
    rw [hf] at HF
    clear hf HO HK
    have t0 := (hN0).at_ (i := 0) rfl
    have t1 := (hN0).at_ (i := 1) rfl
    have t2 := (hN0).at_ (i := 2) rfl
    have t3 := (hN0).at_ (i := 3) rfl
    have t4 := (hN0).at_ (i := 4) rfl
    simp only [List.getElem_toArray, List.getElem_cons_succ, List.getElem_cons_zero] at t0 t1 t2 t3 t4
    go_enter Try.func9, Try.ntmps9
    go_upto_region 1 with fail
    have HB := Lib.hid hB0
    have HN := Lib.hid hN0
    clear hB0 hN0 hb
    generalize w.alloc (.cells #[.bool n.inner, .int .i64 n.lo, .slice a1 n.ends.length c1, .slice a2 n.slots.length c2, .slice a3 n.gaps.length c3] 54) = w1 at *
    go_wp2_with fail
    refine (HA.out w1).mono ?_
    rintro e w2 ⟨rfl, hb2⟩
    have HB2 := Lib.hid (below_then HB.out hb2 (Nat.le_refl _))
    have HN2 := Lib.hid (HN.out.below hb2 HN.out.lt)
    clear t0 t1 t2 t3 t4
    have t0 := (HN2.out).at_ (i := 0) rfl
    have t1 := (HN2.out).at_ (i := 1) rfl
    have t2 := (HN2.out).at_ (i := 2) rfl
    have t3 := (HN2.out).at_ (i := 3) rfl
    have t4 := (HN2.out).at_ (i := 4) rfl
    simp only [List.getElem_toArray, List.getElem_cons_succ, List.getElem_cons_zero] at t0 t1 t2 t3 t4
    clear hb2
    go_wp2_with fail
    refine (HF.out w2 HB2.out).mono ?_
    rintro e w3 ⟨rfl, hb3⟩
    have HB3 := Lib.hid (below_then HB2.out hb3 (Nat.le_refl _))
    clear hb3
    clear t0 t1 t2 t3 t4
    go_wp2_with fail
    refine (HA.out w3).mono ?_
    rintro e w4 ⟨rfl, hb4⟩
    have HB4 := Lib.hid (below_then HB3.out hb4 (Nat.le_refl _))
    clear hb4
    go_wp2
    go_ret
    exact ⟨rfl, HB4.out⟩
  | true =>
    rw [hf] at HF
    cases ho : n.formedB with
    | false =>
      rw [ho] at HO
      clear ho HK
      clear hf
      have t0 := (hN0).at_ (i := 0) rfl
      have t1 := (hN0).at_ (i := 1) rfl
      have t2 := (hN0).at_ (i := 2) rfl
      have t3 := (hN0).at_ (i := 3) rfl
      have t4 := (hN0).at_ (i := 4) rfl
      simp only [List.getElem_toArray, List.getElem_cons_succ, List.getElem_cons_zero] at t0 t1 t2 t3 t4
      go_enter Try.func9, Try.ntmps9
      go_upto_region 1 with fail
      have HB := Lib.hid hB0
      have HN := Lib.hid hN0
      clear hB0 hN0 hb
      generalize w.alloc (.cells #[.bool n.inner, .int .i64 n.lo, .slice a1 n.ends.length c1, .slice a2 n.slots.length c2, .slice a3 n.gaps.length c3] 54) = w1 at *
      go_wp2_with fail
      refine (HA.out w1).mono ?_
      rintro e w2 ⟨rfl, hb2⟩
      have HB2 := Lib.hid (below_then HB.out hb2 (Nat.le_refl _))
      have HN2 := Lib.hid (HN.out.below hb2 HN.out.lt)
      clear t0 t1 t2 t3 t4
      have t0 := (HN2.out).at_ (i := 0) rfl
      have t1 := (HN2.out).at_ (i := 1) rfl
      have t2 := (HN2.out).at_ (i := 2) rfl
      have t3 := (HN2.out).at_ (i := 3) rfl
      have t4 := (HN2.out).at_ (i := 4) rfl
      simp only [List.getElem_toArray, List.getElem_cons_succ, List.getElem_cons_zero] at t0 t1 t2 t3 t4
      clear hb2 HN HB
      go_wp2_with fail
      refine (HF.out w2 HB2.out).mono ?_
      rintro e w3 ⟨rfl, hb3⟩
      have HB3 := Lib.hid (below_then HB2.out hb3 (Nat.le_refl _))
      have HN3 := Lib.hid (HN2.out.below hb3 HN2.out.lt)
      clear t0 t1 t2 t3 t4
      have t0 := (HN3.out).at_ (i := 0) rfl
      have t1 := (HN3.out).at_ (i := 1) rfl
      have t2 := (HN3.out).at_ (i := 2) rfl
      have t3 := (HN3.out).at_ (i := 3) rfl
      have t4 := (HN3.out).at_ (i := 4) rfl
      simp only [List.getElem_toArray, List.getElem_cons_succ, List.getElem_cons_zero] at t0 t1 t2 t3 t4
      clear hb3 HN2 HB2
      go_wp2_with fail
      refine (HO.out w3 HB3.out).mono ?_
      rintro e w4 ⟨rfl, hb4⟩
      have HB4 := Lib.hid (below_then HB3.out hb4 (Nat.le_refl _))
      have HN4 := Lib.hid (HN3.out.below hb4 HN3.out.lt)
      clear t0 t1 t2 t3 t4
      clear hb4 HN3 HB3
      go_wp2_with fail
      refine (HA.out w4).mono ?_
      rintro e w5 ⟨rfl, hb5⟩
      have HB5 := Lib.hid (below_then HB4.out hb5 (Nat.le_refl _))
      clear hb5
      go_wp2
      go_ret
      exact ⟨rfl, HB5.out⟩
    | true =>
      have HFO := Lib.hid ho
      rw [ho] at HO
      obtain ⟨K1, K2, K3, K4, -⟩ := NodeV.formed_iff ho
      have HWF := Lib.hid (HH.out.pack_wf ho)
      have HUP := Lib.hid (unpack_pack ho)
      clear ho
      obtain ⟨k, hk⟩ : ∃ k, n.ends.length = k := ⟨_, rfl⟩
      rw [hk] at K1 K2 K3 K4
      have hki : (k : Int) ≤ 8 := by omega
      simp only [K3, K4, hk] at HF HO HK hB0 hN0 ⊢
      clear hf
      have t0 := (hN0).at_ (i := 0) rfl
      have t1 := (hN0).at_ (i := 1) rfl
      have t2 := (hN0).at_ (i := 2) rfl
      have t3 := (hN0).at_ (i := 3) rfl
      have t4 := (hN0).at_ (i := 4) rfl
      simp only [List.getElem_toArray, List.getElem_cons_succ, List.getElem_cons_zero] at t0 t1 t2 t3 t4
      go_enter Try.func9, Try.ntmps9
      go_upto_region 1 with fail
      have HB := Lib.hid hB0
      have HN := Lib.hid hN0
      clear hB0 hN0 hb
      generalize w.alloc (.cells #[.bool n.inner, .int .i64 n.lo, .slice a1 k c1, .slice a2 k c2, .slice a3 k c3] 54) = w1 at *
      go_wp2_with fail
      refine (HA.out w1).mono ?_
      rintro e w2 ⟨rfl, hb2⟩
      have HB2 := Lib.hid (below_then HB.out hb2 (Nat.le_refl _))
      have HN2 := Lib.hid (HN.out.below hb2 HN.out.lt)
      clear t0 t1 t2 t3 t4
      have t0 := (HN2.out).at_ (i := 0) rfl
      have t1 := (HN2.out).at_ (i := 1) rfl
      have t2 := (HN2.out).at_ (i := 2) rfl
      have t3 := (HN2.out).at_ (i := 3) rfl
      have t4 := (HN2.out).at_ (i := 4) rfl
      simp only [List.getElem_toArray, List.getElem_cons_succ, List.getElem_cons_zero] at t0 t1 t2 t3 t4
      clear hb2 HN HB
      go_wp2_with fail
      refine (HF.out w2 HB2.out).mono ?_
      rintro e w3 ⟨rfl, hb3⟩
      have HB3 := Lib.hid (below_then HB2.out hb3 (Nat.le_refl _))
      have HN3 := Lib.hid (HN2.out.below hb3 HN2.out.lt)
      clear t0 t1 t2 t3 t4
      have t0 := (HN3.out).at_ (i := 0) rfl
      have t1 := (HN3.out).at_ (i := 1) rfl
      have t2 := (HN3.out).at_ (i := 2) rfl
      have t3 := (HN3.out).at_ (i := 3) rfl
      have t4 := (HN3.out).at_ (i := 4) rfl
      simp only [List.getElem_toArray, List.getElem_cons_succ, List.getElem_cons_zero] at t0 t1 t2 t3 t4
      clear hb3 HN2 HB2
      go_wp2_with fail
      refine (HO.out w3 HB3.out).mono ?_
      rintro e w4 ⟨rfl, hb4⟩
      have HB4 := Lib.hid (below_then HB3.out hb4 (Nat.le_refl _))
      have HN4 := Lib.hid (HN3.out.below hb4 HN3.out.lt)
      clear t0 t1 t2 t3 t4
      clear hb4 HN3 HB3
      have t0 := (HN4.out).at_ (i := 0) rfl
      have t1 := (HN4.out).at_ (i := 1) rfl
      have t2 := (HN4.out).at_ (i := 2) rfl
      have t3 := (HN4.out).at_ (i := 3) rfl
      have t4 := (HN4.out).at_ (i := 4) rfl
      simp only [List.getElem_toArray, List.getElem_cons_succ, List.getElem_cons_zero] at t0 t1 t2 t3 t4
      go_upto_region 3 with fail
      go_wp2_with fail
      refine (HK.out w4 HB4.out).mono ?_
      rintro e w5 ⟨hb5, hcase⟩
      rcases hcase with ⟨hno, -⟩ | ⟨-, g, cg, rfl, hg, hrow⟩
      · rw [HFO.out] at hno
        cases hno
      · have HB5 := Lib.hid (below_then HB4.out hb5 (Nat.le_refl _))
        have HN5 := Lib.hid (HN4.out.below hb5 HN4.out.lt)
        have HR5 := Lib.hid hrow
        have HU5 := Lib.hid (fun (w' : World) (hw : Below w5.heap.size w5 w') => slot_unpack _ _ _ _ w' ((hrow.below hw hrow.lt).ints HWF.out))
        clear t0 t1 t2 t3 t4
        clear hb5 hrow HN4
        go_upto_region 4 with fail
        go_wp2_with fail
        refine (HU5.out w5 (Below.refl _ _)).mono ?_
        rintro e w6 ⟨hb6, hcase⟩
        rw [HUP.out] at hcase
        rcases hcase with ⟨h0, -⟩ | ⟨n', h0, g1, g2, g3, d1, d2, d3, rfl, hg1, hg2, hg3, hr1, hr2, hr3⟩
        · cases h0
        injection h0 with h0
        subst h0
        rw [K3, hk, K4]
        rw [hk] at hr1
        rw [K3] at hr2
        rw [K4] at hr3
        unfold nodeCells
        have HB6 := Lib.hid (below_then HB5.out hb6 (Nat.le_refl _))
        have HN6 := Lib.hid (HN5.out.below hb6 HN5.out.lt)
        have HS56 := hb6.size
        have HU6 := Lib.hid hb6
        have o1 := HN5.out.lt
        have o2 := HR5.out.lt
        have o3 := hr3.lt
        have o4 := HB4.out.size
        have HM := Lib.hid (Blk.new w6 54 #[.bool n.inner, .int .i64 n.lo, .slice (some ⟨g1, 0, none⟩) k d1, .slice (some ⟨g2, 0, none⟩) k d2, .slice (some ⟨g3, 0, none⟩) k d3])
        have HB7 := Lib.hid (HB6.out.alloc HB6.out.size (.cells #[.bool n.inner, .int .i64 n.lo, .slice (some ⟨g1, 0, none⟩) k d1, .slice (some ⟨g2, 0, none⟩) k d2, .slice (some ⟨g3, 0, none⟩) k d3] 54))
        have HU7 := Lib.hid (HU6.out.alloc HS56 (.cells #[.bool n.inner, .int .i64 n.lo, .slice (some ⟨g1, 0, none⟩) k d1, .slice (some ⟨g2, 0, none⟩) k d2, .slice (some ⟨g3, 0, none⟩) k d3] 54))
        have HN7 := Lib.hid (HN6.out.alloc (.cells #[.bool n.inner, .int .i64 n.lo, .slice (some ⟨g1, 0, none⟩) k d1, .slice (some ⟨g2, 0, none⟩) k d2, .slice (some ⟨g3, 0, none⟩) k d3] 54))
        have HI1 : Hid (IntRow _ g1 k d1) := Lib.hid ⟨_, hk, hr1.alloc (.cells #[.bool n.inner, .int .i64 n.lo, .slice (some ⟨g1, 0, none⟩) k d1, .slice (some ⟨g2, 0, none⟩) k d2, .slice (some ⟨g3, 0, none⟩) k d3] 54)⟩
        have HI2 : Hid (IntRow _ g2 k d2) := Lib.hid ⟨_, K3, hr2.alloc (.cells #[.bool n.inner, .int .i64 n.lo, .slice (some ⟨g1, 0, none⟩) k d1, .slice (some ⟨g2, 0, none⟩) k d2, .slice (some ⟨g3, 0, none⟩) k d3] 54)⟩
        have HI3 : Hid (IntRow _ g3 k d3) := Lib.hid ⟨_, K4, hr3.alloc (.cells #[.bool n.inner, .int .i64 n.lo, .slice (some ⟨g1, 0, none⟩) k d1, .slice (some ⟨g2, 0, none⟩) k d2, .slice (some ⟨g3, 0, none⟩) k d3] 54)⟩
        clear hb6 hr1 hr2 hr3 HN5 HB5
        go_upto_region 5 with fail
        obtain ⟨nb, hnb⟩ : ∃ nb, w.heap.size = nb := ⟨_, rfl⟩
        obtain ⟨mb, hmb⟩ : ∃ mb, w6.heap.size = mb := ⟨_, rfl⟩
        have o5 : w6.heap.size < (w6.alloc (.cells #[.bool n.inner, .int .i64 n.lo, .slice (some ⟨g1, 0, none⟩) k d1, .slice (some ⟨g2, 0, none⟩) k d2, .slice (some ⟨g3, 0, none⟩) k d3] 54)).heap.size := by simp
        generalize w6.alloc (.cells #[.bool n.inner, .int .i64 n.lo, .slice (some ⟨g1, 0, none⟩) k d1, .slice (some ⟨g2, 0, none⟩) k d2, .slice (some ⟨g3, 0, none⟩) k d3] 54) = w7 at *
        rw [hmb] at HM o5 ⊢
        have hmb3 : g3 < mb := by omega
        have hmb4 : w5.heap.size ≤ mb := by omega
        clear hmb o3 HU6 HB6 HN6 HS56
        have HMB := Lib.hid hmb4
        go_wp2_with fail
        refine (HU5.out w7 HU7.out).mono ?_
        rintro e w8 ⟨hb8, hcase⟩
        rw [HUP.out] at hcase
        rcases hcase with ⟨h0, -⟩ | ⟨n', h0, h1, h2, h3, e1, e2, e3, rfl, hh1, hh2, hh3, hr1, hr2, hr3⟩
        · cases h0
        injection h0 with h0
        subst h0
        rw [K3, hk, K4]
        rw [hk] at hr1
        rw [K3] at hr2
        rw [K4] at hr3
        unfold nodeCells
        have HS78 := hb8.size
        have o6 := hr3.lt
        have HR8 := Lib.hid ((HR5.out.below HU7.out o2).below hb8 (by omega))
        have HB8 := Lib.hid (below_then HB7.out hb8 (Nat.le_refl _))
        have HN8 := Lib.hid (HN7.out.below hb8 HN7.out.lt)
        have HM8 := Lib.hid (HM.out.below hb8 HM.out.lt)
        have HI18 := Lib.hid (HI1.out.below hb8 HI1.out.lt)
        have HI28 := Lib.hid (HI2.out.below hb8 HI2.out.lt)
        have HI38 := Lib.hid (HI3.out.below hb8 HI3.out.lt)
        have HK9 := Lib.hid (Blk.new w8 54 #[.bool n.inner, .int .i64 n.lo, .slice (some ⟨h1, 0, none⟩) k e1, .slice (some ⟨h2, 0, none⟩) k e2, .slice (some ⟨h3, 0, none⟩) k e3])
        have HB9 := Lib.hid (HB8.out.alloc HB8.out.size (.cells #[.bool n.inner, .int .i64 n.lo, .slice (some ⟨h1, 0, none⟩) k e1, .slice (some ⟨h2, 0, none⟩) k e2, .slice (some ⟨h3, 0, none⟩) k e3] 54))
        have HN9 := Lib.hid (HN8.out.alloc (.cells #[.bool n.inner, .int .i64 n.lo, .slice (some ⟨h1, 0, none⟩) k e1, .slice (some ⟨h2, 0, none⟩) k e2, .slice (some ⟨h3, 0, none⟩) k e3] 54))
        have HM9 := Lib.hid (HM8.out.alloc (.cells #[.bool n.inner, .int .i64 n.lo, .slice (some ⟨h1, 0, none⟩) k e1, .slice (some ⟨h2, 0, none⟩) k e2, .slice (some ⟨h3, 0, none⟩) k e3] 54))
        have HI19 := Lib.hid (HI18.out.below (Below.alloc (Below.refl _ _) (Nat.le_refl _) (.cells #[.bool n.inner, .int .i64 n.lo, .slice (some ⟨h1, 0, none⟩) k e1, .slice (some ⟨h2, 0, none⟩) k e2, .slice (some ⟨h3, 0, none⟩) k e3] 54)) HI18.out.lt)
        have HI29 := Lib.hid (HI28.out.below (Below.alloc (Below.refl _ _) (Nat.le_refl _) (.cells #[.bool n.inner, .int .i64 n.lo, .slice (some ⟨h1, 0, none⟩) k e1, .slice (some ⟨h2, 0, none⟩) k e2, .slice (some ⟨h3, 0, none⟩) k e3] 54)) HI28.out.lt)
        have HI39 := Lib.hid (HI38.out.below (Below.alloc (Below.refl _ _) (Nat.le_refl _) (.cells #[.bool n.inner, .int .i64 n.lo, .slice (some ⟨h1, 0, none⟩) k e1, .slice (some ⟨h2, 0, none⟩) k e2, .slice (some ⟨h3, 0, none⟩) k e3] 54)) HI38.out.lt)
        have HR9 := Lib.hid (HR8.out.alloc (.cells #[.bool n.inner, .int .i64 n.lo, .slice (some ⟨h1, 0, none⟩) k e1, .slice (some ⟨h2, 0, none⟩) k e2, .slice (some ⟨h3, 0, none⟩) k e3] 54))
        have HJ1 := Lib.hid (hr1.alloc (.cells #[.bool n.inner, .int .i64 n.lo, .slice (some ⟨h1, 0, none⟩) k e1, .slice (some ⟨h2, 0, none⟩) k e2, .slice (some ⟨h3, 0, none⟩) k e3] 54))
        have HJ2 := Lib.hid (hr2.alloc (.cells #[.bool n.inner, .int .i64 n.lo, .slice (some ⟨h1, 0, none⟩) k e1, .slice (some ⟨h2, 0, none⟩) k e2, .slice (some ⟨h3, 0, none⟩) k e3] 54))
        have HJ3 := Lib.hid (hr3.alloc (.cells #[.bool n.inner, .int .i64 n.lo, .slice (some ⟨h1, 0, none⟩) k e1, .slice (some ⟨h2, 0, none⟩) k e2, .slice (some ⟨h3, 0, none⟩) k e3] 54))
        clear hb8 hr1 hr2 hr3 HR8 HB8 HN8 HM8 HI18 HI28 HI38 HI1 HI2 HI3 HM HN7 HR5 HU5 HB7 HU7
        go_upto_region 6 with fail
        obtain ⟨kb, hkb⟩ : ∃ kb, w8.heap.size = kb := ⟨_, rfl⟩
        have o7 : w8.heap.size < (w8.alloc (.cells #[.bool n.inner, .int .i64 n.lo, .slice (some ⟨h1, 0, none⟩) k e1, .slice (some ⟨h2, 0, none⟩) k e2, .slice (some ⟨h3, 0, none⟩) k e3] 54)).heap.size := by simp
        generalize w8.alloc (.cells #[.bool n.inner, .int .i64 n.lo, .slice (some ⟨h1, 0, none⟩) k e1, .slice (some ⟨h2, 0, none⟩) k e2, .slice (some ⟨h3, 0, none⟩) k e3] 54) = w9 at *
        rw [hkb] at HK9 o7 o6 HS78 ⊢
        clear hkb
        have hN9 := HN9.out
        have hSZ : nb < w5.heap.size ∧ nb ≤ w4.heap.size := by omega
        rw [hnb] at hN9
        have HNB := Lib.hid hnb
        clear hnb o1 o4 HN9
        have HN9 := Lib.hid hN9
        clear hN9
        obtain ⟨j1, j2⟩ := HI19.out.le
        obtain ⟨j3, j4⟩ := HI29.out.le
        obtain ⟨j5, j6⟩ := HI39.out.le
        have x1 : nb < g1 := by omega
        have x2 : nb < g2 := by omega
        have x3 : nb < g3 := by omega
        have x4 : g ∉ [g1, g2, g3] := by simp; omega
        have x5 : nb ∉ [g1, g2, g3] := by simp; omega
        have x6 : mb ∉ [g1, g2, g3] := by simp; omega
        have x7 : kb ∉ [g1, g2, g3] := by simp; omega
        have x8 : h1 ∉ [g1, g2, g3] := by simp; omega
        have x9 : h2 ∉ [g1, g2, g3] := by simp; omega
        have x10 : h3 ∉ [g1, g2, g3] := by simp; omega
        have y12 : g1 ≠ g2 := by omega
        have y13 : g1 ≠ g3 := by omega
        have y23 : g2 ≠ g3 := by omega
        have HX := Lib.hid (And.intro x4 (And.intro x5 (And.intro x6 (And.intro x7 (And.intro x8 (And.intro x9 x10))))))
        have hmb1 : mb ≠ g1 := by omega
        have hmb2 : mb ≠ g2 := by omega
        have hmb3 : mb ≠ g3 := by omega
        clear x4 x5 x6 x7 x8 x9 x10
        go_wp2_with fail
        go_loopw [8] (fun v wr => ∃ i : Nat, i ≤ k ∧ v = .int .i64 i ∧ Upd [g1, g2, g3] w9 wr ∧ IntRow wr g1 k d1 ∧ IntRow wr g2 k d2 ∧ IntRow wr g3 k d3) (fun v _ => k - (intOf v).toNat)
        case atStart => exact ⟨0, Nat.zero_le _, rfl, Upd.refl _ _, HI19.out, HI29.out, HI39.out⟩
        case round =>
          clear HI19 HI29 HI39
          obtain ⟨i, hi, rfl, hu, i1, i2, i3⟩ := hrel
          have HMr := Lib.hid (HM9.out.upd hu HX.out.2.2.1)
          have m0 := (HMr.out).at_ (i := 0) rfl
          have m1 := (HMr.out).at_ (i := 1) rfl
          have m2 := (HMr.out).at_ (i := 2) rfl
          have m3 := (HMr.out).at_ (i := 3) rfl
          have m4 := (HMr.out).at_ (i := 4) rfl
          simp only [List.getElem_toArray, List.getElem_cons_succ, List.getElem_cons_zero] at m0 m1 m2 m3 m4
          by_cases hlt : i < k
          · have hii : (i : Int) < (k : Int) := by omega
            have hii0 : (0 : Int) ≤ i := by omega
            obtain ⟨y1, q1⟩ := i1.cell hlt
            obtain ⟨y2, q2⟩ := i2.cell hlt
            obtain ⟨y3, q3⟩ := i3.cell hlt
            have f1 := i1.free i
            have f2 := i2.free i
            have f3 := i3.free i
            have HU := Lib.hid hu
            have HI1 := Lib.hid i1
            have HI2 := Lib.hid i2
            have HI3 := Lib.hid i3
            clear hu i1 i2 i3
            go_wp2
            go_roundw
            case rel =>
              refine ⟨i + 1, hlt, by go_num, ?_, ?_, ?_, ?_⟩
              · exact ((HU.out.put (p := ⟨g1, i, none⟩) (.inl (by simp)) _).put (p := ⟨g2, i, none⟩) (.inl (by simp)) _).put (p := ⟨g3, i, none⟩) (.inl (by simp)) _
              · exact ((HI1.out.put hlt _).far (p := ⟨g2, i, none⟩) y12 _).far (p := ⟨g3, i, none⟩) y13 _
              · exact ((HI2.out.far (p := ⟨g1, i, none⟩) (Ne.symm y12) _).put hlt _).far (p := ⟨g3, i, none⟩) y23 _
              · exact ((HI3.out.far (p := ⟨g1, i, none⟩) (Ne.symm y13) _).far (p := ⟨g2, i, none⟩) (Ne.symm y23) _).put hlt _
            case measure => simp [intOf]; omega
          · obtain rfl : i = k := by omega
            have HB := Lib.hid (below_upd HB9.out hu (Nat.le_refl _) (by rw [HNB.out]; simp; omega))
            have HN := Lib.hid (HN9.out.upd hu HX.out.2.1)
            have HKr := Lib.hid (HK9.out.upd hu HX.out.2.2.2.1)
            have HRr := Lib.hid (HR9.out.upd hu HX.out.1)
            have HE := HH.out
            have HNR := Lib.hid (show NodeR wr n (some ⟨h1, 0, none⟩) (some ⟨h2, 0, none⟩) (some ⟨h3, 0, none⟩) e1 e2 e3 from ⟨HE.lo, by rw [hk]; exact (HJ1.out.upd hu HX.out.2.2.2.2.1).ints HE.e.wf, by rw [K3]; exact (HJ2.out.upd hu HX.out.2.2.2.2.2.1).ints HE.s.wf, by rw [K4]; exact (HJ3.out.upd hu HX.out.2.2.2.2.2.2).ints HE.g.wf⟩)
            have HSN := ref15_sameNode n n _ _ _ _ _ _ _ _ _ _ _ _ wr HNR.out (HE.below HB.out)
            have HSY : n.sameB n = true := (NodeV.sameB_iff n n).2 rfl
            rw [HSY] at HSN
            simp only [hk, K3, K4, nodeCells] at HSN
            have HSN' := Lib.hid HSN
            clear hu i1 i2 i3 HE HSY HSN
            have t0 := (HN.out).at_ (i := 0) rfl
            have t1 := (HN.out).at_ (i := 1) rfl
            have t2 := (HN.out).at_ (i := 2) rfl
            have t3 := (HN.out).at_ (i := 3) rfl
            have t4 := (HN.out).at_ (i := 4) rfl
            simp only [List.getElem_toArray, List.getElem_cons_succ, List.getElem_cons_zero] at t0 t1 t2 t3 t4
            have k0 := (HKr.out).at_ (i := 0) rfl
            have k1 := (HKr.out).at_ (i := 1) rfl
            have k2 := (HKr.out).at_ (i := 2) rfl
            have k3 := (HKr.out).at_ (i := 3) rfl
            have k4 := (HKr.out).at_ (i := 4) rfl
            simp only [List.getElem_toArray, List.getElem_cons_succ, List.getElem_cons_zero] at k0 k1 k2 k3 k4
            go_wp2_with fail
            refine HSN'.out.mono ?_
            rintro e wa ⟨rfl, hba⟩
            have HBa := Lib.hid (below_then HB.out hba (Nat.le_refl _))
            have HNa := Lib.hid (HN.out.below hba HN.out.lt)
            have HRa := Lib.hid (HRr.out.below hba HRr.out.lt)
            clear t0 t1 t2 t3 t4
            clear k0 k1 k2 k3 k4
            have t0 := (HNa.out).at_ (i := 0) rfl
            have t1 := (HNa.out).at_ (i := 1) rfl
            have t2 := (HNa.out).at_ (i := 2) rfl
            have t3 := (HNa.out).at_ (i := 3) rfl
            have t4 := (HNa.out).at_ (i := 4) rfl
            simp only [List.getElem_toArray, List.getElem_cons_succ, List.getElem_cons_zero] at t0 t1 t2 t3 t4
            clear hba
            have HRP := ref15_pack n _ _ _ _ _ _ wa (HH.out.below HBa.out) HFO.out
            simp only [hk, K3, K4, nodeCells] at HRP
            have HRP' := Lib.hid HRP
            clear HRP
            go_wp2_with fail
            refine HRP'.out.mono ?_
            rintro e wb ⟨gp, rfl, hgp, hrp, hbb⟩
            have HBb := Lib.hid (below_then HBa.out hbb (Nat.le_refl _))
            have HSA := ref15_same _ _ 28 28 _ _ _ _ wb ((HRa.out.below hbb HRa.out.lt).ints HWF.out) (hrp.ints HWF.out)
            rw [show decide (n.pack = n.pack) = true by simp] at HSA
            have HSA' := Lib.hid HSA
            clear hbb hrp HSA
            go_wp2_with fail
            refine HSA'.out.mono ?_
            rintro e wc ⟨rfl, q, rfl⟩
            go_wp2
            go_ret
            exact ⟨rfl, below_drewN HBb.out q⟩
end Go.Proofs.Ytnglbgdokdcefaa
