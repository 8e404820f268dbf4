/- SeekThings, walked. -/
import Derived.Test.YtldccemgfjmcdaaLooks16
import Derived.Test.YtldccemgfjmcdaaRef16N
namespace Go.Proofs.Ytldccemgfjmcdaa
open Go.RowKit
set_option linter.unusedSimpArgs false
set_option linter.unusedVariables false

theorem Same.symm {σ σ' : LandS} (h : Same σ σ') : Same σ' σ := ⟨h.cells.symm, h.first.symm, h.slots.symm⟩
theorem Tells.same {β : Type} {σ σ' : LandS} {r : Res LandS β} {v : β} {n c : Nat} {st : Bool} (h : Tells σ r v n c st) (hs : Same σ σ') : Tells σ' r v n c st := by
  intro σ1 h1 h0 hc
  obtain ⟨σ2, e, h2, h3⟩ := h σ1 (hs.trans h1) h0 hc
  exact ⟨σ2, e, hs.symm.trans h2, h3⟩
def zeroNode : NodeV := ⟨false, 0, [], [], []⟩
theorem ints_nil {w : World} : Ints w none 0 0 [] := ⟨rfl, Nat.le_refl _, Nat.zero_le _, by simp, .inl rfl⟩
/-- A node that is told, or none, as a node. -/
theorem NodeIs.rep {w : World} {n : Option NodeV} {d0 d1 d2 d3 d4 : Value} (h : NodeIs w n d0 d1 d2 d3 d4) :
    ∃ a1 a2 a3 c1 c2 c3, d0 = .bool (n.getD zeroNode).inner ∧ d1 = .int .i64 (n.getD zeroNode).lo ∧ d2 = .slice a1 (n.getD zeroNode).ends.length c1 ∧ d3 = .slice a2 (n.getD zeroNode).slots.length c2 ∧ d4 = .slice a3 (n.getD zeroNode).gaps.length c3 ∧ NodeR w (n.getD zeroNode) a1 a2 a3 c1 c2 c3 := by
  rcases h with ⟨rfl, rfl, rfl, rfl, rfl, rfl⟩ | ⟨m, g1, g2, g3, c1, c2, c3, rfl, rfl, rfl, rfl, rfl, rfl, r1, r2, r3, ⟨w1, w2, w3, w4⟩, -⟩
  · exact ⟨none, none, none, 0, 0, 0, rfl, rfl, rfl, rfl, rfl, WfI.zero, ints_nil, ints_nil, ints_nil⟩
  · exact ⟨_, _, _, c1, c2, c3, rfl, rfl, rfl, rfl, rfl, w4, ArgInts.ofRow r1 w1, ArgInts.ofRow r2 w2, ArgInts.ofRow r3 w3⟩
theorem NodeR.thru {w w' : World} {n : NodeV} {a1 a2 a3 : Option Addr} {c1 c2 c3 : Nat} (h : NodeR w n a1 a2 a3 c1 c2 c3) (hb : Below w.heap.size w w') : NodeR w' n a1 a2 a3 c1 c2 c3 := h.below hb
set_option maxRecDepth 100000 in
set_option maxHeartbeats 8000000 in
theorem things16 (a : Option Addr) (len cap : Nat) (zs : List Int) (w : World) (h : Ints w a len cap zs) :
    Calls Try.prog 7 #[.slice a len cap] w fun e w' => e = .returned (.bool true) ∧ Below w.heap.size w w' := by
  have HA := Lib.hid awake16
  have HH := Lib.hid h
  have HB := Lib.hid (Below.refl w.heap.size w)
  have hm := h.hm
  have hl := h.le
  unfold maxLen at hm
  have HW := Lib.hid (pad28_wf h.wf)
  clear h
  by_cases h60 : len ≤ 60
  · have h60i : (len : Int) ≤ 60 := by omega
    go_enter Try.func7, Try.ntmps7
    go_wp2_with fail
    refine (HA.out _).mono ?_
    rintro e w1 ⟨rfl, hb⟩
    replace HB := Lib.hid (below_thru HB.out hb)
    replace HH := Lib.hid (HH.out.thru hb)
    clear hb
    have HX := Lib.hid (words16 a len cap zs w1 HH.out)
    go_wp2_with fail
    refine (HX.out).mono ?_
    rintro e w2 ⟨rfl, hrow, hb⟩
    replace HB := Lib.hid (below_thru HB.out hb)
    replace HH := Lib.hid (HH.out.thru hb)
    clear hb
    obtain ⟨g, hg⟩ : ∃ g, w1.heap.size = g := ⟨_, rfl⟩
    rw [hg] at hrow ⊢
    have HR := Lib.hid hrow
    clear hrow hg HX
    obtain ⟨x, hx⟩ : ∃ x, pad28 zs = x := ⟨_, rfl⟩
    have hpx : pad28 x = x := by rw [← hx]; exact pad28_pad zs
    have HPX := Lib.hid hpx
    rw [hx] at HR HW
    clear hx hpx
    replace HB := Lib.hid (below_thru HB.out (below_alloc0 w2 (.cells #[.slice (some ⟨g, 0, none⟩) 28 28] 31)))
    replace HH := Lib.hid (HH.out.thru (below_alloc0 w2 (.cells #[.slice (some ⟨g, 0, none⟩) 28 28] 31)))
    replace HR := Lib.hid (HR.out.thru (below_alloc0 w2 (.cells #[.slice (some ⟨g, 0, none⟩) 28 28] 31)))
    have HS := Lib.hid (Blk.new w2 31 #[.slice (some ⟨g, 0, none⟩) 28 28])
    go_wp2_with fail
    have HZ := Lib.hid (World.size_alloc w2 (.cells #[.slice (some ⟨g, 0, none⟩) 28 28] 31))
    obtain ⟨sb, hsb⟩ : ∃ x, w2.heap.size = x := ⟨_, rfl⟩
    simp only [hsb] at HS HZ ⊢
    replace hsb := Lib.hid hsb
    generalize w2.alloc (.cells #[.slice (some ⟨g, 0, none⟩) 28 28] 31) = w3 at *
    have HSL := Lib.hid (slots16' (some ⟨sb, 0, none⟩) 1 1 [⟨some ⟨g, 0, none⟩, 28, 28, x⟩] w3 (rowsL_one HS.out (ArgInts.ofRow HR.out HW.out)) (by simp) (by omega))
    have HZ2 := Lib.hid HB.out.size
    have HG3 := Lib.hid HR.out.lt
    clear HZ
    refine (HSL.out).mono ?_
    rintro e w4 ⟨rfl, hb, hland⟩
    replace HB := Lib.hid (below_thru HB.out hb)
    replace HH := Lib.hid (HH.out.thru hb)
    replace HR := Lib.hid (HR.out.thru hb)
    replace HS := Lib.hid (HS.out.thru hb)
    clear hb
    have HLA := Lib.hid hland
    clear hland
    have hslot : HasSlot (land16 [x]) 65537 x := by
      have := land_slot (xs := [x]) (i := 0) (x := x) (hd := 65537) rfl (by simp) (by decide)
      rw [HPX.out] at this
      exact this
    obtain ⟨st, -, ht⟩ := tells_look1 hslot
    obtain ⟨st2, -, ht2⟩ := tells_look2 hslot
    have HT2 := Lib.hid ht2
    have HT := Lib.hid (all_tells 65537 0 1 (look1R 65537) (free1 _) (runs1 65537 0 (by decide)) _ _ _ _ (land16 [x]) none w4 HLA.out ht (by omega) (by simp [land16, slotMem]) (by simp only [land16, slotMem, List.length_singleton]; omega))
    have HRA := Lib.hid (fun w9 (hr : Row w9 2 1 g 28 28 (i64s x)) => ref16_area (some ⟨g, 0, none⟩) 28 x w9 (ArgInts.ofRow hr HW.out))
    have HRN := Lib.hid (fun w9 (hr : Row w9 2 1 g 28 28 (i64s x)) => ref16_node (some ⟨g, 0, none⟩) 28 x w9 (ArgInts.ofRow hr HW.out))
    unfold AreaPost at HRA
    obtain ⟨Q, hQ⟩ : ∃ Q, areaAns (x.take 8) = Q := ⟨_, rfl⟩
    simp only [hQ] at HT HRA
    obtain ⟨⟨sa, so, pr, sh, ba, oo⟩, q1, q2⟩ := Q
    clear ht ht2 hslot hQ
    go_wp2_with fail
    refine HT.out.mono ?_
    rintro e w5 ⟨cs, σ2, rfl, ⟨d0, d1, d2, d3, d4, rfl, hnd⟩, hla, hsame, hcnt, -, hu⟩
    have HB5 := Lib.hid (below_upd HB.out hu (Nat.le_refl _) (by
      have := HZ2.out
      intro x hx
      simp only [List.mem_cons, List.not_mem_nil, or_false] at hx
      omega))
    have HR5 := Lib.hid (HR.out.upd hu (by
      have := HG3.out
      simp only [List.mem_cons, List.not_mem_nil, or_false]
      omega))
    have HLA5 := Lib.hid hla
    have HT5 := Lib.hid (HT2.out.same hsame)
    have HCN := Lib.hid (show σ2.mu.count = 36 by rw [hcnt]; simp only [land16, slotMem, List.length_singleton]; omega)
    rcases hnd with ⟨-, rfl, rfl, rfl, rfl, rfl⟩ | ⟨_, _, _, _, _, _, _, hm', -⟩
    rotate_left
    · cases hm'
    clear hla hcnt hu HT HSL HLA HB HR HS HT2 hsame
    simp only
    replace HB5 := Lib.hid (below_thru HB5.out (below_alloc0 w5 (.cells #[.int .i64 0, .bool q1, .bool q2, .int .i64 sa, .int .i64 so, .int .i64 pr, .bool sh, .int .i64 ba, .int .i64 oo, .bool false, .int .i64 0, .slice none 0 0, .slice none 0 0, .slice none 0 0] 59)))
    replace HR5 := Lib.hid (HR5.out.thru (below_alloc0 w5 (.cells #[.int .i64 0, .bool q1, .bool q2, .int .i64 sa, .int .i64 so, .int .i64 pr, .bool sh, .int .i64 ba, .int .i64 oo, .bool false, .int .i64 0, .slice none 0 0, .slice none 0 0, .slice none 0 0] 59)))
    replace HLA5 := Lib.hid (HLA5.out.thru (below_alloc0 w5 (.cells #[.int .i64 0, .bool q1, .bool q2, .int .i64 sa, .int .i64 so, .int .i64 pr, .bool sh, .int .i64 ba, .int .i64 oo, .bool false, .int .i64 0, .slice none 0 0, .slice none 0 0, .slice none 0 0] 59)))
    have HRB := Lib.hid (Blk.new w5 59 #[.int .i64 0, .bool q1, .bool q2, .int .i64 sa, .int .i64 so, .int .i64 pr, .bool sh, .int .i64 ba, .int .i64 oo, .bool false, .int .i64 0, .slice none 0 0, .slice none 0 0, .slice none 0 0])
    go_upto_region 6 with fail
    have HZ := Lib.hid (World.size_alloc w5 (.cells #[.int .i64 0, .bool q1, .bool q2, .int .i64 sa, .int .i64 so, .int .i64 pr, .bool sh, .int .i64 ba, .int .i64 oo, .bool false, .int .i64 0, .slice none 0 0, .slice none 0 0, .slice none 0 0] 59))
    obtain ⟨rb, hrb⟩ : ∃ x, w5.heap.size = x := ⟨_, rfl⟩
    simp only [hrb] at HRB HZ ⊢
    replace hrb := Lib.hid hrb
    generalize w5.alloc (.cells #[.int .i64 0, .bool q1, .bool q2, .int .i64 sa, .int .i64 so, .int .i64 pr, .bool sh, .int .i64 ba, .int .i64 oo, .bool false, .int .i64 0, .slice none 0 0, .slice none 0 0, .slice none 0 0] 59) = w6 at *
    go_wp2_with fail
    refine (HRA.out _ HR5.out).mono ?_
    rintro e w7 ⟨rfl, hb⟩
    replace HB5 := Lib.hid (below_thru HB5.out hb)
    replace HR5 := Lib.hid (HR5.out.thru hb)
    replace HLA5 := Lib.hid (HLA5.out.thru hb)
    replace HRB := Lib.hid (HRB.out.thru hb)
    clear hb
    simp only [areaCells]
    replace HB5 := Lib.hid (below_thru HB5.out (below_alloc0 w7 (.cells #[.int .i64 sa, .int .i64 so, .int .i64 pr, .bool sh, .int .i64 ba, .int .i64 oo] 57)))
    replace HR5 := Lib.hid (HR5.out.thru (below_alloc0 w7 (.cells #[.int .i64 sa, .int .i64 so, .int .i64 pr, .bool sh, .int .i64 ba, .int .i64 oo] 57)))
    replace HLA5 := Lib.hid (HLA5.out.thru (below_alloc0 w7 (.cells #[.int .i64 sa, .int .i64 so, .int .i64 pr, .bool sh, .int .i64 ba, .int .i64 oo] 57)))
    replace HRB := Lib.hid (HRB.out.thru (below_alloc0 w7 (.cells #[.int .i64 sa, .int .i64 so, .int .i64 pr, .bool sh, .int .i64 ba, .int .i64 oo] 57)))
    have HAB := Lib.hid (Blk.new w7 57 #[.int .i64 sa, .int .i64 so, .int .i64 pr, .bool sh, .int .i64 ba, .int .i64 oo])
    go_upto_region 7 with fail
    have HZ := Lib.hid (World.size_alloc w7 (.cells #[.int .i64 sa, .int .i64 so, .int .i64 pr, .bool sh, .int .i64 ba, .int .i64 oo] 57))
    obtain ⟨ab, hab⟩ : ∃ x, w7.heap.size = x := ⟨_, rfl⟩
    simp only [hab] at HAB HZ ⊢
    replace hab := Lib.hid hab
    generalize w7.alloc (.cells #[.int .i64 sa, .int .i64 so, .int .i64 pr, .bool sh, .int .i64 ba, .int .i64 oo] 57) = w8 at *
    obtain ⟨m0, m1, m2, m3, m4, m5, m6, m7, m8, m9, m10, m11, m12, m13⟩ := HRB.out.at14
    obtain ⟨k0, k1, k2, k3, k4, k5⟩ := HAB.out.at6
    go_upto_region 9 with fail
    have hnl := nodeP_le x
    have HAT := Lib.hid (all_tells 65537 0 2 (look2R 65537) (free2 _) (runs2 65537 0 (by decide)) _ _ _ _ σ2 none w8 HLA5.out HT5.out (by omega) (by rw [HCN.out]; omega) (by rw [HCN.out]; omega))
    clear m0 m1 m2 m3 m4 m5 m6 m7 m8 m9 m10 m11 m12 m13
    clear k0 k1 k2 k3 k4 k5
    clear HRB HAB
    go_wp2_with fail
    refine HAT.out.mono ?_
    rintro e w9 ⟨cs, σ3, rfl, ⟨d0, d1, d2, d3, d4, rfl, hnd⟩, -, -, -, -, hu⟩
    have HB9 := Lib.hid (below_upd HB5.out hu (Nat.le_refl _) (by
      have := HZ2.out
      intro x hx
      simp only [List.mem_cons, List.not_mem_nil, or_false] at hx
      omega))
    have HR9 := Lib.hid (HR5.out.upd hu (by
      have := HG3.out
      simp only [List.mem_cons, List.not_mem_nil, or_false]
      omega))
    simp only at hnd
    obtain ⟨b1, b2, b3, e1, e2, e3, rfl, rfl, rfl, rfl, rfl, hnr⟩ := hnd.rep
    have HNR := Lib.hid hnr
    clear hnr hnd hu HAT HLA5 HB5 HR5
    simp only [zeroArea]
    have HRN9 := Lib.hid (fun w10 (hr : Row w10 2 1 g 28 28 (i64s x)) => HRN.out w10 hr)
    have hsy : NodeV.sameB ((nodeP x).1.getD zeroNode) ((nodeP x).1.getD zeroNode) = true := (NodeV.sameB_iff _ _).2 rfl
    have HSY := Lib.hid hsy
    obtain ⟨o, ho⟩ : ∃ o, (nodeP x).1.isSome = o := ⟨_, rfl⟩
    obtain ⟨kk, hkk⟩ : ∃ k, (nodeP x).2 = k := ⟨_, rfl⟩
    obtain ⟨N, hN⟩ : ∃ N, (nodeP x).1.getD zeroNode = N := ⟨_, rfl⟩
    have HO := Lib.hid ho
    have HKK := Lib.hid hkk
    have HN := Lib.hid hN
    have hk26 : (kk : Int) ≤ 26 := by omega
    rw [ho, hkk, hN]
    rw [hN] at HNR HSY
    clear ho hkk hN hsy hnl HRN
    replace HB9 := Lib.hid (below_thru HB9.out (below_alloc0 w9 (.cells #[.int .i64 0, .bool false, .bool o, .int .i64 0, .int .i64 0, .int .i64 0, .bool false, .int .i64 0, .int .i64 0, .bool N.inner, .int .i64 N.lo, .slice b1 N.ends.length e1, .slice b2 N.slots.length e2, .slice b3 N.gaps.length e3] 59)))
    replace HR9 := Lib.hid (HR9.out.thru (below_alloc0 w9 (.cells #[.int .i64 0, .bool false, .bool o, .int .i64 0, .int .i64 0, .int .i64 0, .bool false, .int .i64 0, .int .i64 0, .bool N.inner, .int .i64 N.lo, .slice b1 N.ends.length e1, .slice b2 N.slots.length e2, .slice b3 N.gaps.length e3] 59)))
    replace HNR := Lib.hid (HNR.out.thru (below_alloc0 w9 (.cells #[.int .i64 0, .bool false, .bool o, .int .i64 0, .int .i64 0, .int .i64 0, .bool false, .int .i64 0, .int .i64 0, .bool N.inner, .int .i64 N.lo, .slice b1 N.ends.length e1, .slice b2 N.slots.length e2, .slice b3 N.gaps.length e3] 59)))
    have HSB := Lib.hid (Blk.new w9 59 #[.int .i64 0, .bool false, .bool o, .int .i64 0, .int .i64 0, .int .i64 0, .bool false, .int .i64 0, .int .i64 0, .bool N.inner, .int .i64 N.lo, .slice b1 N.ends.length e1, .slice b2 N.slots.length e2, .slice b3 N.gaps.length e3])
    go_upto_region 10 with fail
    have HZ := Lib.hid (World.size_alloc w9 (.cells #[.int .i64 0, .bool false, .bool o, .int .i64 0, .int .i64 0, .int .i64 0, .bool false, .int .i64 0, .int .i64 0, .bool N.inner, .int .i64 N.lo, .slice b1 N.ends.length e1, .slice b2 N.slots.length e2, .slice b3 N.gaps.length e3] 59))
    obtain ⟨sb2, hsb2⟩ : ∃ x, w9.heap.size = x := ⟨_, rfl⟩
    simp only [hsb2] at HSB HZ ⊢
    replace hsb2 := Lib.hid hsb2
    generalize w9.alloc (.cells #[.int .i64 0, .bool false, .bool o, .int .i64 0, .int .i64 0, .int .i64 0, .bool false, .int .i64 0, .int .i64 0, .bool N.inner, .int .i64 N.lo, .slice b1 N.ends.length e1, .slice b2 N.slots.length e2, .slice b3 N.gaps.length e3] 59) = w10 at *
    go_wp2_with fail
    refine (HRN9.out _ HR9.out).mono ?_
    rintro e w11 ⟨hb, c0, c1, c2, c3, c4, rfl, hnd⟩
    replace HB9 := Lib.hid (below_thru HB9.out hb)
    replace HNR := Lib.hid (HNR.out.thru hb)
    replace HSB := Lib.hid (HSB.out.thru hb)
    obtain ⟨a1, a2, a3, f1, f2, f3, rfl, rfl, rfl, rfl, rfl, hnr⟩ := hnd.rep
    rw [HN.out] at hnr ⊢
    rw [HO.out, HKK.out]
    have HMR := Lib.hid hnr
    clear hnr hnd hb HR9 HRN9
    replace HB9 := Lib.hid (below_thru HB9.out (below_alloc0 w11 (.cells #[.bool N.inner, .int .i64 N.lo, .slice a1 N.ends.length f1, .slice a2 N.slots.length f2, .slice a3 N.gaps.length f3] 50)))
    replace HNR := Lib.hid (HNR.out.thru (below_alloc0 w11 (.cells #[.bool N.inner, .int .i64 N.lo, .slice a1 N.ends.length f1, .slice a2 N.slots.length f2, .slice a3 N.gaps.length f3] 50)))
    replace HSB := Lib.hid (HSB.out.thru (below_alloc0 w11 (.cells #[.bool N.inner, .int .i64 N.lo, .slice a1 N.ends.length f1, .slice a2 N.slots.length f2, .slice a3 N.gaps.length f3] 50)))
    replace HMR := Lib.hid (HMR.out.thru (below_alloc0 w11 (.cells #[.bool N.inner, .int .i64 N.lo, .slice a1 N.ends.length f1, .slice a2 N.slots.length f2, .slice a3 N.gaps.length f3] 50)))
    have HCB := Lib.hid (Blk.new w11 50 #[.bool N.inner, .int .i64 N.lo, .slice a1 N.ends.length f1, .slice a2 N.slots.length f2, .slice a3 N.gaps.length f3])
    go_upto_region 11 with fail
    have HZ := Lib.hid (World.size_alloc w11 (.cells #[.bool N.inner, .int .i64 N.lo, .slice a1 N.ends.length f1, .slice a2 N.slots.length f2, .slice a3 N.gaps.length f3] 50))
    obtain ⟨cb, hcb⟩ : ∃ x, w11.heap.size = x := ⟨_, rfl⟩
    simp only [hcb] at HCB HZ ⊢
    replace hcb := Lib.hid hcb
    generalize w11.alloc (.cells #[.bool N.inner, .int .i64 N.lo, .slice a1 N.ends.length f1, .slice a2 N.slots.length f2, .slice a3 N.gaps.length f3] 50) = w12 at *
    have HSN := ref15_sameNode N N b1 b2 b3 e1 e2 e3 a1 a2 a3 f1 f2 f3 w12 HNR.out HMR.out
    rw [HSY.out] at HSN
    simp only [nodeCells] at HSN
    have HSN' := Lib.hid HSN
    clear HSN
    obtain ⟨m0, m1, m2, m3, m4, m5, m6, m7, m8, m9, m10, m11, m12, m13⟩ := HSB.out.at14
    obtain ⟨k0, k1, k2, k3, k4⟩ := HCB.out.at5
    cases o with
    | true =>
      go_wp2_with fail
      refine (HSN'.out).mono ?_
      rintro e w13 ⟨rfl, hb⟩
      clear m0 m1 m2 m3 m4 m5 m6 m7 m8 m9 m10 m11 m12 m13
      clear k0 k1 k2 k3 k4
      replace HB9 := Lib.hid (below_thru HB9.out hb)
      replace HNR := Lib.hid (HNR.out.thru hb)
      replace HSB := Lib.hid (HSB.out.thru hb)
      replace HMR := Lib.hid (HMR.out.thru hb)
      replace HCB := Lib.hid (HCB.out.thru hb)
      clear hb
      obtain ⟨m0, m1, m2, m3, m4, m5, m6, m7, m8, m9, m10, m11, m12, m13⟩ := HSB.out.at14
      obtain ⟨k0, k1, k2, k3, k4⟩ := HCB.out.at5
      go_wp2
      go_ret
      exact ⟨rfl, HB9.out⟩
    | false =>
      go_wp2_with fail
      refine (HSN'.out).mono ?_
      rintro e w13 ⟨rfl, hb⟩
      clear m0 m1 m2 m3 m4 m5 m6 m7 m8 m9 m10 m11 m12 m13
      clear k0 k1 k2 k3 k4
      replace HB9 := Lib.hid (below_thru HB9.out hb)
      replace HNR := Lib.hid (HNR.out.thru hb)
      replace HSB := Lib.hid (HSB.out.thru hb)
      replace HMR := Lib.hid (HMR.out.thru hb)
      replace HCB := Lib.hid (HCB.out.thru hb)
      clear hb
      obtain ⟨m0, m1, m2, m3, m4, m5, m6, m7, m8, m9, m10, m11, m12, m13⟩ := HSB.out.at14
      obtain ⟨k0, k1, k2, k3, k4⟩ := HCB.out.at5
      go_wp2
      go_ret
      exact ⟨rfl, HB9.out⟩
  · have h60i : (60 : Int) < len := by omega
    go_enter Try.func7, Try.ntmps7
    go_wp2_with fail
    refine (HA.out _).mono ?_
    rintro e w1 ⟨rfl, hb⟩
    replace HB := Lib.hid (below_thru HB.out hb)
    replace HH := Lib.hid (HH.out.thru hb)
    clear hb
    go_wp2_with fail
    refine (HA.out _).mono ?_
    rintro e w2 ⟨rfl, hb⟩
    replace HB := Lib.hid (below_thru HB.out hb)
    replace HH := Lib.hid (HH.out.thru hb)
    clear hb
    go_wp2
    go_ret
    exact ⟨rfl, HB.out⟩
end Go.Proofs.Ytldccemgfjmcdaa
