/- SlotWords, walked. -/
import Derived.Test.YtnglbgdokdcefaaAreas15
import Derived.Test.YtnglbgdokdcefaaThru
namespace Go.Proofs.Ytnglbgdokdcefaa
open Go.RowKit
set_option linter.unusedSimpArgs false
set_option linter.unusedVariables false

theorem NodeV.mem_pack (n : NodeV) : n.lo ∈ n.pack ∧ (∀ x ∈ n.ends, x ∈ n.pack) ∧ (∀ x ∈ n.slots, x ∈ n.pack) ∧ (∀ x ∈ n.gaps, x ∈ n.pack) := by
  unfold NodeV.pack
  refine ⟨by simp, fun x hx => ?_, fun x hx => ?_, fun x hx => ?_⟩ <;> simp [hx]
theorem node_back {w : World} {xs : List Int} {n : NodeV} {g1 g2 g3 c1 c2 c3 : Nat} (h : unpackL xs = some n) (hw : ∀ x ∈ xs, (Lit.int .i64 x).wf = true)
    (h1 : Row w 2 1 g1 n.ends.length c1 (i64s n.ends)) (h2 : Row w 2 1 g2 n.slots.length c2 (i64s n.slots)) (h3 : Row w 2 1 g3 n.gaps.length c3 (i64s n.gaps)) :
    NodeR w n (some ⟨g1, 0, none⟩) (some ⟨g2, 0, none⟩) (some ⟨g3, 0, none⟩) c1 c2 c3 := by
  obtain ⟨-, -, hp⟩ := unpack_some h
  obtain ⟨m1, m2, m3, m4⟩ := n.mem_pack
  rw [hp] at m1 m2 m3 m4
  exact ⟨hw _ m1, h1.intsB fun x hx => hw x (m2 x hx), h2.intsB fun x hx => hw x (m3 x hx), h3.intsB fun x hx => hw x (m4 x hx)⟩
theorem area_back {xs : List Int} {a : AreaV} {d : Bool} (h : unpackA xs = some (a, d)) (hw : ∀ x ∈ xs, (Lit.int .i64 x).wf = true) : a.Ok := by
  obtain ⟨-, hp⟩ := unpackA_some h
  rw [← hp] at hw
  exact ⟨hw _ (by simp [AreaV.pack]), hw _ (by simp [AreaV.pack]), hw _ (by simp [AreaV.pack]), hw _ (by simp [AreaV.pack]), hw _ (by simp [AreaV.pack])⟩
theorem area_len {xs : List Int} {a : AreaV} {d : Bool} (h : unpackA xs = some (a, d)) : xs.length = 28 := by
  obtain ⟨-, hp⟩ := unpackA_some h
  rw [← hp]
  exact a.pack_len d
theorem node_len {xs : List Int} {n : NodeV} (h : unpackL xs = some n) : xs.length = 28 := by
  obtain ⟨-, hf, hp⟩ := unpack_some h
  rw [← hp]
  exact NodeV.pack_len hf
theorem NodeR.thru {w w' : World} {n : NodeV} {a1 a2 a3 : Option Addr} {c1 c2 c3 : Nat} (h : NodeR w n a1 a2 a3 c1 c2 c3) (hb : Below w.heap.size w w') : NodeR w' n a1 a2 a3 c1 c2 c3 := h.below hb
/-- What the law answers. -/
def LawTrue (w : World) (e : Ending) (w' : World) : Prop := e = .returned (.bool true) ∧ Below w.heap.size w w'
set_option maxRecDepth 100000 in
set_option maxHeartbeats 2000000 in
theorem words_long (a : Option Addr) (len cap : Nat) (xs : List Int) (w : World) (h : Ints w a len cap xs) (h60 : 60 < len) :
    Calls Try.prog 11 #[.slice a len cap] w (LawTrue w) := by
  have HA := Lib.hid awake15
  have HH := Lib.hid h
  have HB := Lib.hid (Below.refl w.heap.size w)
  have hm := h.hm
  have hl := h.le
  have hxl := h.hl
  unfold maxLen at hm
  clear h
  have h60i : (60 : Int) < len := by omega
  go_enter Try.func11, Try.ntmps11
  go_wp2_with fail
  refine (HA.out _).mono ?_
  rintro e w1 ⟨rfl, hb⟩
  replace HB := Lib.hid (below_thru HB.out hb)
  replace HH := Lib.hid (HH.out.thru hb)
  clear hb
  go_wp2_with fail
  refine (HA.out _).mono ?_
  rintro e w2 ⟨rfl, hb⟩
  replace HB := Lib.hid (below_thru HB.out hb)
  replace HH := Lib.hid (HH.out.thru hb)
  clear hb
  go_wp2
  go_ret
  exact ⟨rfl, HB.out⟩
set_option maxRecDepth 100000 in
set_option maxHeartbeats 2000000 in
theorem words_none (a : Option Addr) (len cap : Nat) (xs : List Int) (w : World) (h : Ints w a len cap xs) (h60 : len ≤ 60) (hL : unpackL xs = none) (hA : unpackA xs = none) :
    Calls Try.prog 11 #[.slice a len cap] w (LawTrue w) := by
  have HA := Lib.hid awake15
  have HH := Lib.hid h
  have HB := Lib.hid (Below.refl w.heap.size w)
  have hm := h.hm
  have hl := h.le
  have hxl := h.hl
  unfold maxLen at hm
  clear h
  have h60i : (len : Int) ≤ 60 := by omega
  have HL := Lib.hid hL
  have HAr := Lib.hid hA
  clear hL hA
  go_enter Try.func11, Try.ntmps11
  go_wp2_with fail
  refine (HA.out _).mono ?_
  rintro e w1 ⟨rfl, hb⟩
  replace HB := Lib.hid (below_thru HB.out hb)
  replace HH := Lib.hid (HH.out.thru hb)
  clear hb
  have HU := Lib.hid (slot_unpack a len cap xs w1 HH.out)
  go_upto_region 3 with fail
  go_wp2_with fail
  refine (HU.out).mono ?_
  rintro e w2 ⟨hb, hcase⟩
  replace HB := Lib.hid (below_thru HB.out hb)
  replace HH := Lib.hid (HH.out.thru hb)
  clear hb
  rw [HL.out] at hcase
  rcases hcase with ⟨-, rfl⟩ | ⟨n', h0, -⟩
  rotate_left
  · cases h0
  unfold noNode
  replace HB := Lib.hid (below_thru HB.out (below_alloc0 w2 (.cells #[.bool false, .int .i64 0, .slice none 0 0, .slice none 0 0, .slice none 0 0] 54)))
  replace HH := Lib.hid (HH.out.thru (below_alloc0 w2 (.cells #[.bool false, .int .i64 0, .slice none 0 0, .slice none 0 0, .slice none 0 0] 54)))
  have HM := Lib.hid (Blk.new w2 54 #[.bool false, .int .i64 0, .slice none 0 0, .slice none 0 0, .slice none 0 0])
  go_upto_region 4 with fail
  obtain ⟨mb, hmb⟩ : ∃ x, w2.heap.size = x := ⟨_, rfl⟩
  simp only [hmb] at HM ⊢
  clear hmb
  generalize w2.alloc (.cells #[.bool false, .int .i64 0, .slice none 0 0, .slice none 0 0, .slice none 0 0] 54) = w3 at *
  have HV := Lib.hid (slot_unpackArea a len cap xs w3 HH.out)
  go_wp2_with fail
  refine (HV.out).mono ?_
  rintro e w4 ⟨hb, hcase⟩
  replace HB := Lib.hid (below_thru HB.out hb)
  replace HH := Lib.hid (HH.out.thru hb)
  replace HM := Lib.hid (HM.out.thru hb)
  clear hb
  rw [HAr.out] at hcase
  rcases hcase with ⟨-, rfl⟩ | ⟨_, _, h0, -⟩
  rotate_left
  · cases h0
  unfold noArea
  replace HB := Lib.hid (below_thru HB.out (below_alloc0 w4 (.cells #[.int .i64 0, .int .i64 0, .int .i64 0, .bool false, .int .i64 0, .int .i64 0] 62)))
  replace HH := Lib.hid (HH.out.thru (below_alloc0 w4 (.cells #[.int .i64 0, .int .i64 0, .int .i64 0, .bool false, .int .i64 0, .int .i64 0] 62)))
  replace HM := Lib.hid (HM.out.thru (below_alloc0 w4 (.cells #[.int .i64 0, .int .i64 0, .int .i64 0, .bool false, .int .i64 0, .int .i64 0] 62)))
  have HX := Lib.hid (Blk.new w4 62 #[.int .i64 0, .int .i64 0, .int .i64 0, .bool false, .int .i64 0, .int .i64 0])
  go_upto_region 5 with fail
  obtain ⟨ab, hab⟩ : ∃ x, w4.heap.size = x := ⟨_, rfl⟩
  simp only [hab] at HX ⊢
  clear hab
  generalize w4.alloc (.cells #[.int .i64 0, .int .i64 0, .int .i64 0, .bool false, .int .i64 0, .int .i64 0] 62) = w5 at *
  obtain ⟨k0, k1, k2, k3, k4, k5⟩ := HX.out.at6
  obtain ⟨m0, m1, m2, m3, m4⟩ := HM.out.at5
  go_wp2
  all_goals go_ret
  all_goals exact ⟨rfl, HB.out⟩
set_option maxRecDepth 100000 in
set_option maxHeartbeats 2000000 in
theorem words_area (a : Option Addr) (len cap : Nat) (xs : List Int) (w : World) (h : Ints w a len cap xs) (h60 : len ≤ 60) (hL : unpackL xs = none) (ar : AreaV) (d : Bool) (hA : unpackA xs = some (ar, d)) :
    Calls Try.prog 11 #[.slice a len cap] w (LawTrue w) := by
  have HA := Lib.hid awake15
  have HH := Lib.hid h
  have HB := Lib.hid (Below.refl w.heap.size w)
  have hm := h.hm
  have hl := h.le
  have hxl := h.hl
  unfold maxLen at hm
  clear h
  have h60i : (len : Int) ≤ 60 := by omega
  have HL := Lib.hid hL
  have HAr := Lib.hid hA
  have HF := Lib.hid (unpackA_some hA).1
  have HP := Lib.hid (unpackA_some hA).2
  have hok := area_back hA HH.out.wf
  have HC := Lib.hid (fun w1 => ref15_area ar w1 hok)
  have HPA := Lib.hid (fun w1 => ref15_packArea ar d w1 hok)
  rw [HF.out] at HC
  rw [HP.out] at HPA
  obtain rfl : len = 28 := by have := area_len hA; omega
  clear hA hL hok hxl
  obtain ⟨start, stop, prot, shared, back, off⟩ := ar
  simp only [areaCells] at HC HPA
  go_enter Try.func11, Try.ntmps11
  go_wp2_with fail
  refine (HA.out _).mono ?_
  rintro e w1 ⟨rfl, hb⟩
  replace HB := Lib.hid (below_thru HB.out hb)
  replace HH := Lib.hid (HH.out.thru hb)
  clear hb
  have HU := Lib.hid (slot_unpack a 28 cap xs w1 HH.out)
  go_upto_region 3 with fail
  go_wp2_with fail
  refine (HU.out).mono ?_
  rintro e w2 ⟨hb, hcase⟩
  replace HB := Lib.hid (below_thru HB.out hb)
  replace HH := Lib.hid (HH.out.thru hb)
  clear hb
  rw [HL.out] at hcase
  rcases hcase with ⟨-, rfl⟩ | ⟨n', h0, -⟩
  rotate_left
  · cases h0
  unfold noNode
  replace HB := Lib.hid (below_thru HB.out (below_alloc0 w2 (.cells #[.bool false, .int .i64 0, .slice none 0 0, .slice none 0 0, .slice none 0 0] 54)))
  replace HH := Lib.hid (HH.out.thru (below_alloc0 w2 (.cells #[.bool false, .int .i64 0, .slice none 0 0, .slice none 0 0, .slice none 0 0] 54)))
  have HM := Lib.hid (Blk.new w2 54 #[.bool false, .int .i64 0, .slice none 0 0, .slice none 0 0, .slice none 0 0])
  go_upto_region 4 with fail
  obtain ⟨mb, hmb⟩ : ∃ x, w2.heap.size = x := ⟨_, rfl⟩
  simp only [hmb] at HM ⊢
  clear hmb
  generalize w2.alloc (.cells #[.bool false, .int .i64 0, .slice none 0 0, .slice none 0 0, .slice none 0 0] 54) = w3 at *
  have HV := Lib.hid (slot_unpackArea a 28 cap xs w3 HH.out)
  go_wp2_with fail
  refine (HV.out).mono ?_
  rintro e w4 ⟨hb, hcase⟩
  replace HB := Lib.hid (below_thru HB.out hb)
  replace HH := Lib.hid (HH.out.thru hb)
  replace HM := Lib.hid (HM.out.thru hb)
  clear hb
  rw [HAr.out] at hcase
  rcases hcase with ⟨h0, -⟩ | ⟨a', d', h0, rfl⟩
  · cases h0
  simp only [Option.some.injEq, Prod.mk.injEq] at h0
  obtain ⟨rfl, rfl⟩ := h0
  simp only [areaCells]
  replace HB := Lib.hid (below_thru HB.out (below_alloc0 w4 (.cells #[.int .i64 start, .int .i64 stop, .int .i64 prot, .bool shared, .int .i64 back, .int .i64 off] 62)))
  replace HH := Lib.hid (HH.out.thru (below_alloc0 w4 (.cells #[.int .i64 start, .int .i64 stop, .int .i64 prot, .bool shared, .int .i64 back, .int .i64 off] 62)))
  replace HM := Lib.hid (HM.out.thru (below_alloc0 w4 (.cells #[.int .i64 start, .int .i64 stop, .int .i64 prot, .bool shared, .int .i64 back, .int .i64 off] 62)))
  have HX := Lib.hid (Blk.new w4 62 #[.int .i64 start, .int .i64 stop, .int .i64 prot, .bool shared, .int .i64 back, .int .i64 off])
  go_upto_region 5 with fail
  obtain ⟨ab, hab⟩ : ∃ x, w4.heap.size = x := ⟨_, rfl⟩
  simp only [hab] at HX ⊢
  clear hab
  generalize w4.alloc (.cells #[.int .i64 start, .int .i64 stop, .int .i64 prot, .bool shared, .int .i64 back, .int .i64 off] 62) = w5 at *
  obtain ⟨k0, k1, k2, k3, k4, k5⟩ := HX.out.at6
  obtain ⟨m0, m1, m2, m3, m4⟩ := HM.out.at5
  go_wp2_with fail
  refine (HC.out w5).mono ?_
  rintro e w6 ⟨rfl, hb⟩
  clear k0 k1 k2 k3 k4 k5
  clear m0 m1 m2 m3 m4
  replace HB := Lib.hid (below_thru HB.out hb)
  replace HH := Lib.hid (HH.out.thru hb)
  replace HM := Lib.hid (HM.out.thru hb)
  replace HX := Lib.hid (HX.out.thru hb)
  clear hb
  obtain ⟨k0, k1, k2, k3, k4, k5⟩ := HX.out.at6
  obtain ⟨m0, m1, m2, m3, m4⟩ := HM.out.at5
  clear m0 m1 m2 m3 m4
  go_wp2_with fail
  refine (HPA.out w6).mono ?_
  rintro e w7 ⟨gp, rfl, hgp, hrp, hb⟩
  clear k0 k1 k2 k3 k4 k5
  replace HB := Lib.hid (below_thru HB.out hb)
  replace HH := Lib.hid (HH.out.thru hb)
  replace HX := Lib.hid (HX.out.thru hb)
  clear hb
  obtain ⟨k0, k1, k2, k3, k4, k5⟩ := HX.out.at6
  have HSA := ref15_same _ _ 28 28 _ _ _ _ w7 (hrp.intsB HH.out.wf) HH.out
  rw [show decide (xs = xs) = true by simp] at HSA
  replace HSA := Lib.hid HSA
  clear k0 k1 k2 k3 k4 k5
  clear hrp
  go_wp2_with fail
  refine HSA.out.mono ?_
  rintro e w8 ⟨rfl, q, rfl⟩
  replace HB := Lib.hid (below_drewN HB.out q)
  go_wp2
  all_goals go_ret
  all_goals exact ⟨rfl, HB.out⟩
set_option maxRecDepth 100000 in
set_option maxHeartbeats 2000000 in
theorem words_node (a : Option Addr) (len cap : Nat) (xs : List Int) (w : World) (h : Ints w a len cap xs) (h60 : len ≤ 60) (n : NodeV) (hL : unpackL xs = some n) :
    Calls Try.prog 11 #[.slice a len cap] w (LawTrue w) := by
  have HA := Lib.hid awake15
  have HH := Lib.hid h
  have HB := Lib.hid (Below.refl w.heap.size w)
  have hm := h.hm
  have hl := h.le
  have hxl := h.hl
  unfold maxLen at hm
  clear h
  have h60i : (len : Int) ≤ 60 := by omega
  have HL := Lib.hid hL
  have HAr := Lib.hid (show unpackA xs = none by
    cases hA : unpackA xs with
    | none => rfl
    | some p => exact (node_or_area hL hA).elim)
  have HF := Lib.hid (unpack_some hL).2.1
  have HP := Lib.hid (unpack_some hL).2.2
  obtain rfl : len = 28 := by have := node_len hL; omega
  clear hL hxl
  go_enter Try.func11, Try.ntmps11
  go_wp2_with fail
  refine (HA.out _).mono ?_
  rintro e w1 ⟨rfl, hb⟩
  replace HB := Lib.hid (below_thru HB.out hb)
  replace HH := Lib.hid (HH.out.thru hb)
  clear hb
  have HU := Lib.hid (slot_unpack a 28 cap xs w1 HH.out)
  go_upto_region 3 with fail
  go_wp2_with fail
  refine (HU.out).mono ?_
  rintro e w2 ⟨hb, hcase⟩
  replace HB := Lib.hid (below_thru HB.out hb)
  replace HH := Lib.hid (HH.out.thru hb)
  clear hb
  rw [HL.out] at hcase
  rcases hcase with ⟨h0, -⟩ | ⟨n', h0, g1, g2, g3, c1, c2, c3, rfl, hg1, hg2, hg3, hr1, hr2, hr3⟩
  · cases h0
  injection h0 with h0
  subst h0
  simp only [nodeCells]
  have HN := Lib.hid (node_back HL.out HH.out.wf hr1 hr2 hr3)
  clear hr1 hr2 hr3
  replace HB := Lib.hid (below_thru HB.out (below_alloc0 w2 (.cells #[.bool n.inner, .int .i64 n.lo, .slice (some ⟨g1, 0, none⟩) n.ends.length c1, .slice (some ⟨g2, 0, none⟩) n.slots.length c2, .slice (some ⟨g3, 0, none⟩) n.gaps.length c3] 54)))
  replace HH := Lib.hid (HH.out.thru (below_alloc0 w2 (.cells #[.bool n.inner, .int .i64 n.lo, .slice (some ⟨g1, 0, none⟩) n.ends.length c1, .slice (some ⟨g2, 0, none⟩) n.slots.length c2, .slice (some ⟨g3, 0, none⟩) n.gaps.length c3] 54)))
  replace HN := Lib.hid (HN.out.thru (below_alloc0 w2 (.cells #[.bool n.inner, .int .i64 n.lo, .slice (some ⟨g1, 0, none⟩) n.ends.length c1, .slice (some ⟨g2, 0, none⟩) n.slots.length c2, .slice (some ⟨g3, 0, none⟩) n.gaps.length c3] 54)))
  have HM := Lib.hid (Blk.new w2 54 #[.bool n.inner, .int .i64 n.lo, .slice (some ⟨g1, 0, none⟩) n.ends.length c1, .slice (some ⟨g2, 0, none⟩) n.slots.length c2, .slice (some ⟨g3, 0, none⟩) n.gaps.length c3])
  go_upto_region 4 with fail
  obtain ⟨mb, hmb⟩ : ∃ x, w2.heap.size = x := ⟨_, rfl⟩
  simp only [hmb] at HM ⊢
  clear hmb
  generalize w2.alloc (.cells #[.bool n.inner, .int .i64 n.lo, .slice (some ⟨g1, 0, none⟩) n.ends.length c1, .slice (some ⟨g2, 0, none⟩) n.slots.length c2, .slice (some ⟨g3, 0, none⟩) n.gaps.length c3] 54) = w3 at *
  have HV := Lib.hid (slot_unpackArea a 28 cap xs w3 HH.out)
  go_wp2_with fail
  refine (HV.out).mono ?_
  rintro e w4 ⟨hb, hcase⟩
  replace HB := Lib.hid (below_thru HB.out hb)
  replace HH := Lib.hid (HH.out.thru hb)
  replace HN := Lib.hid (HN.out.thru hb)
  replace HM := Lib.hid (HM.out.thru hb)
  clear hb
  rw [HAr.out] at hcase
  rcases hcase with ⟨-, rfl⟩ | ⟨_, _, h0, -⟩
  rotate_left
  · cases h0
  unfold noArea
  replace HB := Lib.hid (below_thru HB.out (below_alloc0 w4 (.cells #[.int .i64 0, .int .i64 0, .int .i64 0, .bool false, .int .i64 0, .int .i64 0] 62)))
  replace HH := Lib.hid (HH.out.thru (below_alloc0 w4 (.cells #[.int .i64 0, .int .i64 0, .int .i64 0, .bool false, .int .i64 0, .int .i64 0] 62)))
  replace HN := Lib.hid (HN.out.thru (below_alloc0 w4 (.cells #[.int .i64 0, .int .i64 0, .int .i64 0, .bool false, .int .i64 0, .int .i64 0] 62)))
  replace HM := Lib.hid (HM.out.thru (below_alloc0 w4 (.cells #[.int .i64 0, .int .i64 0, .int .i64 0, .bool false, .int .i64 0, .int .i64 0] 62)))
  have HX := Lib.hid (Blk.new w4 62 #[.int .i64 0, .int .i64 0, .int .i64 0, .bool false, .int .i64 0, .int .i64 0])
  go_upto_region 5 with fail
  obtain ⟨ab, hab⟩ : ∃ x, w4.heap.size = x := ⟨_, rfl⟩
  simp only [hab] at HX ⊢
  clear hab
  generalize w4.alloc (.cells #[.int .i64 0, .int .i64 0, .int .i64 0, .bool false, .int .i64 0, .int .i64 0] 62) = w5 at *
  have HFO := ref15_formed n _ _ _ _ _ _ w5 HN.out
  rw [HF.out] at HFO
  simp only [nodeCells] at HFO
  replace HFO := Lib.hid HFO
  obtain ⟨m0, m1, m2, m3, m4⟩ := HM.out.at5
  go_wp2_with fail
  refine (HFO.out).mono ?_
  rintro e w6 ⟨rfl, hb⟩
  clear m0 m1 m2 m3 m4
  replace HB := Lib.hid (below_thru HB.out hb)
  replace HH := Lib.hid (HH.out.thru hb)
  replace HN := Lib.hid (HN.out.thru hb)
  replace HM := Lib.hid (HM.out.thru hb)
  replace HX := Lib.hid (HX.out.thru hb)
  clear hb
  obtain ⟨m0, m1, m2, m3, m4⟩ := HM.out.at5
  have HRP := ref15_pack n _ _ _ _ _ _ w6 HN.out HF.out
  simp only [nodeCells] at HRP
  replace HRP := Lib.hid HRP
  go_wp2_with fail
  refine (HRP.out).mono ?_
  rintro e w7 ⟨gp, rfl, hgp, hrp, hb⟩
  clear m0 m1 m2 m3 m4
  replace HB := Lib.hid (below_thru HB.out hb)
  replace HH := Lib.hid (HH.out.thru hb)
  replace HN := Lib.hid (HN.out.thru hb)
  replace HM := Lib.hid (HM.out.thru hb)
  replace HX := Lib.hid (HX.out.thru hb)
  clear hb
  obtain ⟨m0, m1, m2, m3, m4⟩ := HM.out.at5
  rw [HP.out] at hrp
  have HSA := ref15_same _ _ 28 28 _ _ _ _ w7 (hrp.intsB HH.out.wf) HH.out
  rw [show decide (xs = xs) = true by simp] at HSA
  replace HSA := Lib.hid HSA
  clear m0 m1 m2 m3 m4
  clear hrp
  go_wp2_with fail
  refine HSA.out.mono ?_
  rintro e w8 ⟨rfl, q, rfl⟩
  replace HB := Lib.hid (below_drewN HB.out q)
  replace HX := Lib.hid (HX.out.drewN q)
  generalize w7.drewN q = w8 at *
  obtain ⟨k0, k1, k2, k3, k4, k5⟩ := HX.out.at6
  go_wp2
  all_goals go_ret
  all_goals exact ⟨rfl, HB.out⟩
theorem words15 (a : Option Addr) (len cap : Nat) (xs : List Int) (w : World) (h : Ints w a len cap xs) :
    Calls Try.prog 11 #[.slice a len cap] w fun e w' => e = .returned (.bool true) ∧ Below w.heap.size w w' := by
  by_cases h60 : 60 < len
  · exact words_long a len cap xs w h h60
  · cases hL : unpackL xs with
    | some n => exact words_node a len cap xs w h (by omega) n hL
    | none =>
      cases hA : unpackA xs with
      | none => exact words_none a len cap xs w h (by omega) hL hA
      | some p => exact words_area a len cap xs w h (by omega) hL p.1 p.2 hA
end Go.Proofs.Ytnglbgdokdcefaa
