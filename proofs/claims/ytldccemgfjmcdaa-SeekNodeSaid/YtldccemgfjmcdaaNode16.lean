/- SeekNode, walked. -/
import Derived.Test.YtldccemgfjmcdaaThings16
import Derived.Test.YtldccemgfjmcdaaOpenAgg
namespace Go.Proofs.Ytldccemgfjmcdaa
open Go.RowKit
set_option linter.unusedSimpArgs false
set_option linter.unusedVariables false

theorem pack_head (n : NodeV) : n.pack.getD 0 0 = n.head := by simp [NodeV.pack]
theorem head_facts {n : NodeV} (hf : n.formedB = true) : headOf n.head = (n.inner, n.ends.length) := by
  obtain ⟨k1, k8, -, -, -⟩ := NodeV.formed_iff hf
  have hgood : 17 ≤ n.head ∧ n.head ≤ 130 ∧ (n.head % 16 = 1 ∨ n.head % 16 = 2) := by
    unfold NodeV.head
    split <;> omega
  rw [headOf_yes hgood]
  unfold NodeV.head
  cases n.inner with
  | true =>
    simp only [if_true, Prod.mk.injEq, beq_iff_eq]
    omega
  | false =>
    simp only [Bool.false_eq_true, if_false, Prod.mk.injEq, beq_eq_false_iff_ne]
    omega
theorem pack_parts {n : NodeV} (hf : n.formedB = true) : n.pack.getD 1 0 = n.lo ∧ (n.pack.drop 2).take n.ends.length = n.ends ∧ (n.pack.drop 10).take n.ends.length = n.slots ∧ (n.pack.drop 18).take n.ends.length = n.gaps := by
  have h := (unpack_some (unpack_pack hf)).1
  have hh := head_facts hf
  have e : (n.pack.getD 0 0 / 16).toNat = n.ends.length := by
    rw [pack_head]
    obtain ⟨k1, k8, -, -, -⟩ := NodeV.formed_iff hf
    unfold NodeV.head
    split <;> omega
  unfold nodeOf at h
  rw [e] at h
  have h1 := congrArg NodeV.lo h
  have h2 := congrArg NodeV.ends h
  have h3 := congrArg NodeV.slots h
  have h4 := congrArg NodeV.gaps h
  exact ⟨h1.symm, h2.symm, h3.symm, h4.symm⟩
theorem getD_take_drop (x : List Int) (c k i : Nat) (hi : i < k) : x.getD (c + i) 0 = ((x.drop c).take k).getD i 0 := by
  simp [List.getD_eq_getElem?_getD, List.getElem?_take, hi, List.getElem?_drop]
theorem nodeP_pack {n : NodeV} (hf : n.formedB = true) : nodeP n.pack = (some n, 2 + 3 * n.ends.length) := by
  obtain ⟨k1, k8, -, -, -⟩ := NodeV.formed_iff hf
  obtain ⟨p1, p2, p3, p4⟩ := pack_parts hf
  unfold nodeP
  rw [pack_head, head_facts hf]
  simp only
  rw [if_neg (by omega), p1, p2, p3, p4]
  unfold nodeAns
  simp only
  rw [if_pos hf]
theorem lookP_pack {n : NodeV} (hf : n.formedB = true) (addr : Int) : lookP n.pack addr = ((lookGo n.pack addr n.inner 0 n.ends.length).1, (lookGo n.pack addr n.inner 0 n.ends.length).2.1, (lookGo n.pack addr n.inner 0 n.ends.length).2.2.1, (lookGo n.pack addr n.inner 0 n.ends.length).2.2.2 + 1) := by
  unfold lookP
  rw [pack_head, head_facts hf]
/-- Behind the entries that end no later. -/
theorem look_step {n : NodeV} (hf : n.formedB = true) {addr : Int} {i : Nat} (hi : i < n.ends.length) (hle : n.ends.getD i 0 ≤ addr) (q : Int × Bool × Bool) (h : ((lookGo n.pack addr n.inner i (n.ends.length - i)).1, (lookGo n.pack addr n.inner i (n.ends.length - i)).2.1, (lookGo n.pack addr n.inner i (n.ends.length - i)).2.2.1) = q) :
    ((lookGo n.pack addr n.inner (i + 1) (n.ends.length - (i + 1))).1, (lookGo n.pack addr n.inner (i + 1) (n.ends.length - (i + 1))).2.1, (lookGo n.pack addr n.inner (i + 1) (n.ends.length - (i + 1))).2.2.1) = q := by
  obtain ⟨p1, p2, p3, p4⟩ := pack_parts hf
  rw [show n.ends.length - i = (n.ends.length - (i + 1)) + 1 by omega, lookGo, getD_take_drop _ _ _ _ hi, p2, if_pos hle] at h
  exact h
theorem look_here {n : NodeV} (hf : n.formedB = true) {addr : Int} {i : Nat} (hi : i < n.ends.length) (hlt : addr < n.ends.getD i 0) (q : Int × Bool × Bool) (h : ((lookGo n.pack addr n.inner i (n.ends.length - i)).1, (lookGo n.pack addr n.inner i (n.ends.length - i)).2.1, (lookGo n.pack addr n.inner i (n.ends.length - i)).2.2.1) = q) :
    q = (n.slots.getD i 0, n.inner, true) := by
  obtain ⟨p1, p2, p3, p4⟩ := pack_parts hf
  rw [show n.ends.length - i = (n.ends.length - (i + 1)) + 1 by omega, lookGo, getD_take_drop _ _ _ _ hi, p2, if_neg (by omega), getD_take_drop _ _ _ _ hi, p3] at h
  exact h.symm

set_option maxRecDepth 100000 in
set_option maxHeartbeats 4000000 in
theorem node16_no (n : NodeV) (a1 a2 a3 : Option Addr) (c1 c2 c3 : Nat) (addr : Int) (w : World) (h : NodeR w n a1 a2 a3 c1 c2 c3) (hf : n.formedB = false) :
    Calls Try.prog 8 #[.agg (nodeCells n.inner n.lo a1 a2 a3 n.ends.length n.slots.length n.gaps.length c1 c2 c3), .int .i64 addr] w fun e w' => e = .returned (.bool true) ∧ Below w.heap.size w w' := by
  have m1 := h.e.hm
  have l1 := h.e.le
  have m2 := h.s.hm
  have l2 := h.s.le
  have m3 := h.g.hm
  have l3 := h.g.le
  unfold maxLen at m1 m2 m3
  have HFO := Lib.hid (fun w1 (h1 : NodeR w1 n a1 a2 a3 c1 c2 c3) => ref15_formed n a1 a2 a3 c1 c2 c3 w1 h1)
  rw [hf] at HFO
  have HA := Lib.hid awake16
  have HH := Lib.hid h
  have HB := Lib.hid (Below.refl w.heap.size w)
  unfold nodeCells
  unfold nodeCells at HFO
  clear h hf
  by_cases e1 : 20 < n.ends.length
  · have e1i : (20 : Int) < n.ends.length := by omega
    go_enter Try.func8, Try.ntmps8
    replace HB := Lib.hid (below_thru HB.out (below_alloc0 w (.cells #[.bool n.inner, .int .i64 n.lo, .slice a1 n.ends.length c1, .slice a2 n.slots.length c2, .slice a3 n.gaps.length c3] 50)))
    replace HH := Lib.hid (HH.out.thru (below_alloc0 w (.cells #[.bool n.inner, .int .i64 n.lo, .slice a1 n.ends.length c1, .slice a2 n.slots.length c2, .slice a3 n.gaps.length c3] 50)))
    have HNB := Lib.hid (Blk.new w 50 #[.bool n.inner, .int .i64 n.lo, .slice a1 n.ends.length c1, .slice a2 n.slots.length c2, .slice a3 n.gaps.length c3])
    go_upto_region 1 with fail
    have HZ := Lib.hid (World.size_alloc w (.cells #[.bool n.inner, .int .i64 n.lo, .slice a1 n.ends.length c1, .slice a2 n.slots.length c2, .slice a3 n.gaps.length c3] 50))
    obtain ⟨nb, hnb⟩ : ∃ x, w.heap.size = x := ⟨_, rfl⟩
    simp only [hnb] at HNB HZ ⊢
    replace hnb := Lib.hid hnb
    generalize w.alloc (.cells #[.bool n.inner, .int .i64 n.lo, .slice a1 n.ends.length c1, .slice a2 n.slots.length c2, .slice a3 n.gaps.length c3] 50) = w1 at *
    go_wp2_with fail
    refine (HA.out _).mono ?_
    rintro e w2 ⟨rfl, hb⟩
    replace HB := Lib.hid (below_thru HB.out hb)
    replace HH := Lib.hid (HH.out.thru hb)
    replace HNB := Lib.hid (HNB.out.thru hb)
    clear hb
    obtain ⟨k0, k1, k2, k3, k4⟩ := HNB.out.at5
    go_wp2_with fail
    refine (HA.out _).mono ?_
    rintro e w9 ⟨rfl, hb⟩
    replace HB := Lib.hid (below_thru HB.out hb)
    clear hb
    go_wp2
    go_ret
    exact ⟨rfl, HB.out⟩
  · have e1i : (n.ends.length : Int) ≤ 20 := by omega
    by_cases e2 : 20 < n.slots.length
    · have e2i : (20 : Int) < n.slots.length := by omega
      go_enter Try.func8, Try.ntmps8
      replace HB := Lib.hid (below_thru HB.out (below_alloc0 w (.cells #[.bool n.inner, .int .i64 n.lo, .slice a1 n.ends.length c1, .slice a2 n.slots.length c2, .slice a3 n.gaps.length c3] 50)))
      replace HH := Lib.hid (HH.out.thru (below_alloc0 w (.cells #[.bool n.inner, .int .i64 n.lo, .slice a1 n.ends.length c1, .slice a2 n.slots.length c2, .slice a3 n.gaps.length c3] 50)))
      have HNB := Lib.hid (Blk.new w 50 #[.bool n.inner, .int .i64 n.lo, .slice a1 n.ends.length c1, .slice a2 n.slots.length c2, .slice a3 n.gaps.length c3])
      go_upto_region 1 with fail
      have HZ := Lib.hid (World.size_alloc w (.cells #[.bool n.inner, .int .i64 n.lo, .slice a1 n.ends.length c1, .slice a2 n.slots.length c2, .slice a3 n.gaps.length c3] 50))
      obtain ⟨nb, hnb⟩ : ∃ x, w.heap.size = x := ⟨_, rfl⟩
      simp only [hnb] at HNB HZ ⊢
      replace hnb := Lib.hid hnb
      generalize w.alloc (.cells #[.bool n.inner, .int .i64 n.lo, .slice a1 n.ends.length c1, .slice a2 n.slots.length c2, .slice a3 n.gaps.length c3] 50) = w1 at *
      go_wp2_with fail
      refine (HA.out _).mono ?_
      rintro e w2 ⟨rfl, hb⟩
      replace HB := Lib.hid (below_thru HB.out hb)
      replace HH := Lib.hid (HH.out.thru hb)
      replace HNB := Lib.hid (HNB.out.thru hb)
      clear hb
      obtain ⟨k0, k1, k2, k3, k4⟩ := HNB.out.at5
      go_wp2_with fail
      refine (HA.out _).mono ?_
      rintro e w9 ⟨rfl, hb⟩
      replace HB := Lib.hid (below_thru HB.out hb)
      clear hb
      go_wp2
      go_ret
      exact ⟨rfl, HB.out⟩
    · have e2i : (n.slots.length : Int) ≤ 20 := by omega
      by_cases e3 : 20 < n.gaps.length
      · have e3i : (20 : Int) < n.gaps.length := by omega
        go_enter Try.func8, Try.ntmps8
        replace HB := Lib.hid (below_thru HB.out (below_alloc0 w (.cells #[.bool n.inner, .int .i64 n.lo, .slice a1 n.ends.length c1, .slice a2 n.slots.length c2, .slice a3 n.gaps.length c3] 50)))
        replace HH := Lib.hid (HH.out.thru (below_alloc0 w (.cells #[.bool n.inner, .int .i64 n.lo, .slice a1 n.ends.length c1, .slice a2 n.slots.length c2, .slice a3 n.gaps.length c3] 50)))
        have HNB := Lib.hid (Blk.new w 50 #[.bool n.inner, .int .i64 n.lo, .slice a1 n.ends.length c1, .slice a2 n.slots.length c2, .slice a3 n.gaps.length c3])
        go_upto_region 1 with fail
        have HZ := Lib.hid (World.size_alloc w (.cells #[.bool n.inner, .int .i64 n.lo, .slice a1 n.ends.length c1, .slice a2 n.slots.length c2, .slice a3 n.gaps.length c3] 50))
        obtain ⟨nb, hnb⟩ : ∃ x, w.heap.size = x := ⟨_, rfl⟩
        simp only [hnb] at HNB HZ ⊢
        replace hnb := Lib.hid hnb
        generalize w.alloc (.cells #[.bool n.inner, .int .i64 n.lo, .slice a1 n.ends.length c1, .slice a2 n.slots.length c2, .slice a3 n.gaps.length c3] 50) = w1 at *
        go_wp2_with fail
        refine (HA.out _).mono ?_
        rintro e w2 ⟨rfl, hb⟩
        replace HB := Lib.hid (below_thru HB.out hb)
        replace HH := Lib.hid (HH.out.thru hb)
        replace HNB := Lib.hid (HNB.out.thru hb)
        clear hb
        obtain ⟨k0, k1, k2, k3, k4⟩ := HNB.out.at5
        go_wp2_with fail
        refine (HA.out _).mono ?_
        rintro e w9 ⟨rfl, hb⟩
        replace HB := Lib.hid (below_thru HB.out hb)
        clear hb
        go_wp2
        go_ret
        exact ⟨rfl, HB.out⟩
      · have e3i : (n.gaps.length : Int) ≤ 20 := by omega
        go_enter Try.func8, Try.ntmps8
        replace HB := Lib.hid (below_thru HB.out (below_alloc0 w (.cells #[.bool n.inner, .int .i64 n.lo, .slice a1 n.ends.length c1, .slice a2 n.slots.length c2, .slice a3 n.gaps.length c3] 50)))
        replace HH := Lib.hid (HH.out.thru (below_alloc0 w (.cells #[.bool n.inner, .int .i64 n.lo, .slice a1 n.ends.length c1, .slice a2 n.slots.length c2, .slice a3 n.gaps.length c3] 50)))
        have HNB := Lib.hid (Blk.new w 50 #[.bool n.inner, .int .i64 n.lo, .slice a1 n.ends.length c1, .slice a2 n.slots.length c2, .slice a3 n.gaps.length c3])
        go_upto_region 1 with fail
        have HZ := Lib.hid (World.size_alloc w (.cells #[.bool n.inner, .int .i64 n.lo, .slice a1 n.ends.length c1, .slice a2 n.slots.length c2, .slice a3 n.gaps.length c3] 50))
        obtain ⟨nb, hnb⟩ : ∃ x, w.heap.size = x := ⟨_, rfl⟩
        simp only [hnb] at HNB HZ ⊢
        replace hnb := Lib.hid hnb
        generalize w.alloc (.cells #[.bool n.inner, .int .i64 n.lo, .slice a1 n.ends.length c1, .slice a2 n.slots.length c2, .slice a3 n.gaps.length c3] 50) = w1 at *
        go_wp2_with fail
        refine (HA.out _).mono ?_
        rintro e w2 ⟨rfl, hb⟩
        replace HB := Lib.hid (below_thru HB.out hb)
        replace HH := Lib.hid (HH.out.thru hb)
        replace HNB := Lib.hid (HNB.out.thru hb)
        clear hb
        obtain ⟨k0, k1, k2, k3, k4⟩ := HNB.out.at5
        go_wp2_with fail
        refine (HFO.out _ HH.out).mono ?_
        rintro e w3 ⟨rfl, hb⟩
        clear k0 k1 k2 k3 k4
        replace HB := Lib.hid (below_thru HB.out hb)
        replace HH := Lib.hid (HH.out.thru hb)
        replace HNB := Lib.hid (HNB.out.thru hb)
        clear hb
        obtain ⟨k0, k1, k2, k3, k4⟩ := HNB.out.at5
        go_wp2_with fail
        refine (HA.out _).mono ?_
        rintro e w9 ⟨rfl, hb⟩
        replace HB := Lib.hid (below_thru HB.out hb)
        clear hb
        go_wp2
        go_ret
        exact ⟨rfl, HB.out⟩
set_option maxRecDepth 100000 in
set_option maxHeartbeats 8000000 in
theorem node16_yes (n : NodeV) (a1 a2 a3 : Option Addr) (c1 c2 c3 : Nat) (addr : Int) (w : World) (h : NodeR w n a1 a2 a3 c1 c2 c3) (hf : n.formedB = true) :
    Calls Try.prog 8 #[.agg (nodeCells n.inner n.lo a1 a2 a3 n.ends.length n.slots.length n.gaps.length c1 c2 c3), .int .i64 addr] w fun e w' => e = .returned (.bool true) ∧ Below w.heap.size w w' := by
  have m1 := h.e.hm
  have l1 := h.e.le
  have m2 := h.s.hm
  have l2 := h.s.le
  have m3 := h.g.hm
  have l3 := h.g.le
  unfold maxLen at m1 m2 m3
  obtain ⟨k1, k8, k3, k4, -⟩ := NodeV.formed_iff hf
  have HFO := Lib.hid (fun w1 (h1 : NodeR w1 n a1 a2 a3 c1 c2 c3) => ref15_formed n a1 a2 a3 c1 c2 c3 w1 h1)
  have HPK := Lib.hid (fun w1 (h1 : NodeR w1 n a1 a2 a3 c1 c2 c3) => ref15_pack n a1 a2 a3 c1 c2 c3 w1 h1 hf)
  rw [hf] at HFO
  have HFT := Lib.hid hf
  have HA := Lib.hid awake16
  have HH := Lib.hid h
  have HB := Lib.hid (Below.refl w.heap.size w)
  unfold nodeCells
  unfold nodeCells at HFO HPK
  have e1i : (n.ends.length : Int) ≤ 20 := by omega
  have e2i : (n.slots.length : Int) ≤ 20 := by omega
  have e3i : (n.gaps.length : Int) ≤ 20 := by omega
  have k8i : (n.ends.length : Int) ≤ 8 := by omega
  have HL2 := Lib.hid k3
  have HL3 := Lib.hid k4
  have HWF := Lib.hid (h.pack_wf hf)
  have HPL := Lib.hid (NodeV.pack_len hf)
  have h0 := Lib.hid h
  clear h hf k3 k4
  go_enter Try.func8, Try.ntmps8
  replace HB := Lib.hid (below_thru HB.out (below_alloc0 w (.cells #[.bool n.inner, .int .i64 n.lo, .slice a1 n.ends.length c1, .slice a2 n.slots.length c2, .slice a3 n.gaps.length c3] 50)))
  replace HH := Lib.hid (HH.out.thru (below_alloc0 w (.cells #[.bool n.inner, .int .i64 n.lo, .slice a1 n.ends.length c1, .slice a2 n.slots.length c2, .slice a3 n.gaps.length c3] 50)))
  have HNB := Lib.hid (Blk.new w 50 #[.bool n.inner, .int .i64 n.lo, .slice a1 n.ends.length c1, .slice a2 n.slots.length c2, .slice a3 n.gaps.length c3])
  go_upto_region 1 with fail
  have HZ := Lib.hid (World.size_alloc w (.cells #[.bool n.inner, .int .i64 n.lo, .slice a1 n.ends.length c1, .slice a2 n.slots.length c2, .slice a3 n.gaps.length c3] 50))
  obtain ⟨nb, hnb⟩ : ∃ x, w.heap.size = x := ⟨_, rfl⟩
  simp only [hnb] at HNB HZ ⊢
  replace hnb := Lib.hid hnb
  generalize w.alloc (.cells #[.bool n.inner, .int .i64 n.lo, .slice a1 n.ends.length c1, .slice a2 n.slots.length c2, .slice a3 n.gaps.length c3] 50) = w1 at *
  go_wp2_with fail
  refine (HA.out _).mono ?_
  rintro e w2 ⟨rfl, hb⟩
  replace HB := Lib.hid (below_thru HB.out hb)
  replace HH := Lib.hid (HH.out.thru hb)
  replace HNB := Lib.hid (HNB.out.thru hb)
  clear hb
  obtain ⟨k0, k1, k2, k3, k4⟩ := HNB.out.at5
  go_wp2_with fail
  refine (HFO.out _ HH.out).mono ?_
  rintro e w3 ⟨rfl, hb⟩
  clear k0 k1 k2 k3 k4
  replace HB := Lib.hid (below_thru HB.out hb)
  replace HH := Lib.hid (HH.out.thru hb)
  replace HNB := Lib.hid (HNB.out.thru hb)
  clear hb
  obtain ⟨k0, k1, k2, k3, k4⟩ := HNB.out.at5
  go_wp2_with fail
  refine (HPK.out _ HH.out).mono ?_
  rintro e w4 ⟨g, rfl, hg, hrow, hb⟩
  clear k0 k1 k2 k3 k4
  replace HB := Lib.hid (below_thru HB.out hb)
  replace HH := Lib.hid (HH.out.thru hb)
  replace HNB := Lib.hid (HNB.out.thru hb)
  clear hb
  obtain ⟨k0, k1, k2, k3, k4⟩ := HNB.out.at5
  have HR := Lib.hid hrow
  clear hrow hg
  clear k0 k1 k2 k3 k4
  replace HB := Lib.hid (below_thru HB.out (below_alloc0 w4 (.cells #[.slice (some ⟨g, 0, none⟩) 28 28] 31)))
  replace HH := Lib.hid (HH.out.thru (below_alloc0 w4 (.cells #[.slice (some ⟨g, 0, none⟩) 28 28] 31)))
  replace HNB := Lib.hid (HNB.out.thru (below_alloc0 w4 (.cells #[.slice (some ⟨g, 0, none⟩) 28 28] 31)))
  replace HR := Lib.hid (HR.out.thru (below_alloc0 w4 (.cells #[.slice (some ⟨g, 0, none⟩) 28 28] 31)))
  have HS := Lib.hid (Blk.new w4 31 #[.slice (some ⟨g, 0, none⟩) 28 28])
  go_wp2_with fail
  have HZ := Lib.hid (World.size_alloc w4 (.cells #[.slice (some ⟨g, 0, none⟩) 28 28] 31))
  obtain ⟨sb, hsb⟩ : ∃ x, w4.heap.size = x := ⟨_, rfl⟩
  simp only [hsb] at HS HZ ⊢
  replace hsb := Lib.hid hsb
  generalize w4.alloc (.cells #[.slice (some ⟨g, 0, none⟩) 28 28] 31) = w5 at *
  have HSL := Lib.hid (slots16' (some ⟨sb, 0, none⟩) 1 1 [⟨some ⟨g, 0, none⟩, 28, 28, n.pack⟩] w5 (rowsL_one HS.out (ArgInts.ofRow HR.out HWF.out)) (by simp) (by omega))
  have HZ2 := Lib.hid HB.out.size
  have HN5 := Lib.hid HNB.out.lt
  clear HZ HFO HPK
  refine (HSL.out).mono ?_
  rintro e w6 ⟨rfl, hb, hland⟩
  replace HB := Lib.hid (below_thru HB.out hb)
  replace HH := Lib.hid (HH.out.thru hb)
  replace HNB := Lib.hid (HNB.out.thru hb)
  clear hb
  have HLA := Lib.hid hland
  clear hland HR HS HSL
  have hslot : HasSlot (land16 [n.pack]) 65537 n.pack := by
    have := land_slot (xs := [n.pack]) (i := 0) (x := n.pack) (hd := 65537) rfl (by simp) (by decide)
    rw [pad28_of HPL.out] at this
    exact this
  obtain ⟨st, -, ht⟩ := tells_look0 (addr := addr) hslot
  obtain ⟨st2, -, ht2⟩ := tells_look2 hslot
  rw [nodeP_pack HFT.out] at ht2
  simp only [Option.isSome_some] at ht2
  have HT2 := Lib.hid ht2
  have hle10 := lookP_le n.pack addr
  have HQ := Lib.hid (lookP_pack HFT.out addr)
  obtain ⟨Q, hQ⟩ : ∃ Q, lookP n.pack addr = Q := ⟨_, rfl⟩
  rw [hQ] at HQ
  simp only [hQ] at ht hle10
  clear hQ
  obtain ⟨q0, q1, q2, qn⟩ := Q
  simp only at ht hle10
  have HT := Lib.hid (all_tells 65537 addr 0 (look0R 65537 addr) (free0 _ _) (runs0 65537 addr (by decide)) _ _ _ _ (land16 [n.pack]) none w6 HLA.out ht (by omega) (by simp [land16, slotMem]) (by simp only [land16, slotMem, List.length_singleton]; omega))
  have hqni : (qn : Int) ≤ 10 := by omega
  clear ht ht2 hslot
  go_wp2_with fail
  refine HT.out.mono ?_
  rintro e w7 ⟨cs, σ2, rfl, ⟨d0, d1, d2, d3, d4, rfl, hnd⟩, hla, hsame, hcnt, -, hu⟩
  have HB7 := Lib.hid (below_upd HB.out hu (Nat.le_refl _) (by
    have := HZ2.out
    intro x hx
    simp only [List.mem_cons, List.not_mem_nil, or_false] at hx
    omega))
  have HN7 := Lib.hid (HNB.out.upd hu (by
    have := HN5.out
    simp only [List.mem_cons, List.not_mem_nil, or_false]
    omega))
  have HLA7 := Lib.hid hla
  have HLT7 := Lib.hid hla.lt
  have HT7 := Lib.hid (HT2.out.same hsame)
  have HCN := Lib.hid (show σ2.mu.count = 28 + (qn : Int) by rw [hcnt]; simp only [land16, slotMem, List.length_singleton]; omega)
  rcases hnd with ⟨-, rfl, rfl, rfl, rfl, rfl⟩ | ⟨_, _, _, _, _, _, _, hm', -⟩
  rotate_left
  · cases hm'
  clear hla hcnt hu HT HLA HB HNB HT2 hsame
  simp only [zeroArea]
  replace HB7 := Lib.hid (below_thru HB7.out (below_alloc0 w7 (.cells #[.int .i64 q0, .bool q1, .bool q2, .int .i64 0, .int .i64 0, .int .i64 0, .bool false, .int .i64 0, .int .i64 0, .bool false, .int .i64 0, .slice none 0 0, .slice none 0 0, .slice none 0 0] 59)))
  replace HN7 := Lib.hid (HN7.out.thru (below_alloc0 w7 (.cells #[.int .i64 q0, .bool q1, .bool q2, .int .i64 0, .int .i64 0, .int .i64 0, .bool false, .int .i64 0, .int .i64 0, .bool false, .int .i64 0, .slice none 0 0, .slice none 0 0, .slice none 0 0] 59)))
  replace HLA7 := Lib.hid (HLA7.out.thru (below_alloc0 w7 (.cells #[.int .i64 q0, .bool q1, .bool q2, .int .i64 0, .int .i64 0, .int .i64 0, .bool false, .int .i64 0, .int .i64 0, .bool false, .int .i64 0, .slice none 0 0, .slice none 0 0, .slice none 0 0] 59)))
  have HRB := Lib.hid (Blk.new w7 59 #[.int .i64 q0, .bool q1, .bool q2, .int .i64 0, .int .i64 0, .int .i64 0, .bool false, .int .i64 0, .int .i64 0, .bool false, .int .i64 0, .slice none 0 0, .slice none 0 0, .slice none 0 0])
  go_upto_region 5 with fail
  have HZ := Lib.hid (World.size_alloc w7 (.cells #[.int .i64 q0, .bool q1, .bool q2, .int .i64 0, .int .i64 0, .int .i64 0, .bool false, .int .i64 0, .int .i64 0, .bool false, .int .i64 0, .slice none 0 0, .slice none 0 0, .slice none 0 0] 59))
  obtain ⟨rb, hrb⟩ : ∃ x, w7.heap.size = x := ⟨_, rfl⟩
  simp only [hrb] at HRB HZ ⊢
  replace hrb := Lib.hid hrb
  generalize w7.alloc (.cells #[.int .i64 q0, .bool q1, .bool q2, .int .i64 0, .int .i64 0, .int .i64 0, .bool false, .int .i64 0, .int .i64 0, .bool false, .int .i64 0, .slice none 0 0, .slice none 0 0, .slice none 0 0] 59) = w8 at *
  have HRB8 := Lib.hid HRB.out.lt
  have HN8 := Lib.hid HN7.out.lt
  have HAT := Lib.hid (all_tells 65537 0 2 (look2R 65537) (free2 _) (runs2 65537 0 (by decide)) _ _ _ _ σ2 none w8 HLA7.out HT7.out (by omega) (by rw [HCN.out]; omega) (by rw [HCN.out]; omega))
  go_wp2_with fail
  refine HAT.out.mono ?_
  rintro e w9 ⟨cs, σ3, rfl, ⟨d0, d1, d2, d3, d4, rfl, hnd⟩, -, -, -, -, hu⟩
  have HB9 := Lib.hid (below_upd HB7.out hu (Nat.le_refl _) (by
    have := HZ2.out
    intro x hx
    simp only [List.mem_cons, List.not_mem_nil, or_false] at hx
    omega))
  have hne : ∀ x ∈ [w5.heap.size + 1, w5.heap.size, w5.heap.size + 3, w5.heap.size + 2], nb ≠ x ∧ rb ≠ x := by
    have := HN5.out
    intro x hx
    have h2 := HLT7.out x hx
    have h3 := hrb.out
    simp only [List.mem_cons, List.not_mem_nil, or_false] at hx
    omega
  have HN9 := Lib.hid (HN7.out.upd hu (fun hin => (hne _ hin).1 rfl))
  have HR9 := Lib.hid (HRB.out.upd hu (fun hin => (hne _ hin).2 rfl))
  obtain ⟨b1, b2, b3, e1, e2, e3, rfl, rfl, rfl, rfl, rfl, hnr⟩ := hnd.rep
  simp only [Option.getD_some] at hnr ⊢
  have HNR := Lib.hid hnr
  clear hnr hnd hu hne HAT HLA7 HB7 HN7 HRB HN8 HRB8 HLT7
  simp only [zeroArea]
  replace HB9 := Lib.hid (below_thru HB9.out (below_alloc0 w9 (.cells #[.int .i64 0, .bool false, .bool true, .int .i64 0, .int .i64 0, .int .i64 0, .bool false, .int .i64 0, .int .i64 0, .bool n.inner, .int .i64 n.lo, .slice b1 n.ends.length e1, .slice b2 n.slots.length e2, .slice b3 n.gaps.length e3] 59)))
  replace HN9 := Lib.hid (HN9.out.thru (below_alloc0 w9 (.cells #[.int .i64 0, .bool false, .bool true, .int .i64 0, .int .i64 0, .int .i64 0, .bool false, .int .i64 0, .int .i64 0, .bool n.inner, .int .i64 n.lo, .slice b1 n.ends.length e1, .slice b2 n.slots.length e2, .slice b3 n.gaps.length e3] 59)))
  replace HR9 := Lib.hid (HR9.out.thru (below_alloc0 w9 (.cells #[.int .i64 0, .bool false, .bool true, .int .i64 0, .int .i64 0, .int .i64 0, .bool false, .int .i64 0, .int .i64 0, .bool n.inner, .int .i64 n.lo, .slice b1 n.ends.length e1, .slice b2 n.slots.length e2, .slice b3 n.gaps.length e3] 59)))
  replace HNR := Lib.hid (HNR.out.thru (below_alloc0 w9 (.cells #[.int .i64 0, .bool false, .bool true, .int .i64 0, .int .i64 0, .int .i64 0, .bool false, .int .i64 0, .int .i64 0, .bool n.inner, .int .i64 n.lo, .slice b1 n.ends.length e1, .slice b2 n.slots.length e2, .slice b3 n.gaps.length e3] 59)))
  have HSB := Lib.hid (Blk.new w9 59 #[.int .i64 0, .bool false, .bool true, .int .i64 0, .int .i64 0, .int .i64 0, .bool false, .int .i64 0, .int .i64 0, .bool n.inner, .int .i64 n.lo, .slice b1 n.ends.length e1, .slice b2 n.slots.length e2, .slice b3 n.gaps.length e3])
  go_upto_region 6 with fail
  have HZ := Lib.hid (World.size_alloc w9 (.cells #[.int .i64 0, .bool false, .bool true, .int .i64 0, .int .i64 0, .int .i64 0, .bool false, .int .i64 0, .int .i64 0, .bool n.inner, .int .i64 n.lo, .slice b1 n.ends.length e1, .slice b2 n.slots.length e2, .slice b3 n.gaps.length e3] 59))
  obtain ⟨sb2, hsb2⟩ : ∃ x, w9.heap.size = x := ⟨_, rfl⟩
  simp only [hsb2] at HSB HZ ⊢
  replace hsb2 := Lib.hid hsb2
  generalize w9.alloc (.cells #[.int .i64 0, .bool false, .bool true, .int .i64 0, .int .i64 0, .int .i64 0, .bool false, .int .i64 0, .int .i64 0, .bool n.inner, .int .i64 n.lo, .slice b1 n.ends.length e1, .slice b2 n.slots.length e2, .slice b3 n.gaps.length e3] 59) = w10 at *
  have hsy : NodeV.sameB n n = true := (NodeV.sameB_iff _ _).2 rfl
  have HSN := ref15_sameNode n n b1 b2 b3 e1 e2 e3 a1 a2 a3 c1 c2 c3 w10 HNR.out (h0.out.below HB9.out)
  rw [hsy] at HSN
  simp only [nodeCells] at HSN
  have HSN' := Lib.hid HSN
  clear HSN hsy
  obtain ⟨m0, m1, m2, m3, m4, m5, m6, m7, m8, m9, m10, m11, m12, m13⟩ := HSB.out.at14
  obtain ⟨k0, k1, k2, k3, k4⟩ := HN9.out.at5
  go_wp2_with fail
  refine (HSN'.out).mono ?_
  rintro e w11 ⟨rfl, hb⟩
  clear m0 m1 m2 m3 m4 m5 m6 m7 m8 m9 m10 m11 m12 m13
  clear k0 k1 k2 k3 k4
  replace HB9 := Lib.hid (below_thru HB9.out hb)
  replace HN9 := Lib.hid (HN9.out.thru hb)
  replace HR9 := Lib.hid (HR9.out.thru hb)
  replace HNR := Lib.hid (HNR.out.thru hb)
  replace HSB := Lib.hid (HSB.out.thru hb)
  clear hb
  obtain ⟨m0, m1, m2, m3, m4, m5, m6, m7, m8, m9, m10, m11, m12, m13⟩ := HSB.out.at14
  obtain ⟨k0, k1, k2, k3, k4⟩ := HN9.out.at5
  clear m0 m1 m2 m3 m4 m5 m6 m7 m8 m9 m10 m11 m12 m13
  have HH11 := Lib.hid (h0.out.below HB9.out)
  obtain ⟨p0, p1, p2, p3, p4, p5, p6, p7, p8, p9, p10, p11, p12, p13⟩ := HR9.out.at14
  have hqn : ¬ (10 : Int) < qn := by omega
  have H0 := Lib.hid (show ((lookGo n.pack addr n.inner 0 (n.ends.length - 0)).1, (lookGo n.pack addr n.inner 0 (n.ends.length - 0)).2.1, (lookGo n.pack addr n.inner 0 (n.ends.length - 0)).2.2.1) = (q0, q1, q2) from by
    have := HQ.out
    simp only [Prod.mk.injEq] at this ⊢
    obtain ⟨h1, h2, h3, -⟩ := this
    exact ⟨h1.symm, h2.symm, h3.symm⟩)
  clear HQ
  go_wp2
  go_loop [13] (fun v => ∃ i : Nat, i ≤ n.ends.length ∧ v = .int .i64 i ∧ ((lookGo n.pack addr n.inner i (n.ends.length - i)).1, (lookGo n.pack addr n.inner i (n.ends.length - i)).2.1, (lookGo n.pack addr n.inner i (n.ends.length - i)).2.2.1) = (q0, q1, q2)) (fun v => n.ends.length - (intOf v).toNat)
  case atStart => exact ⟨0, Nat.zero_le _, rfl, H0.out⟩
  case round =>
    clear H0
    obtain ⟨i, hi, rfl, hx⟩ := hrel
    have HX := Lib.hid hx
    clear hx
    by_cases hlt : i < n.ends.length
    · obtain ⟨x1, o1, rfl, -, y1⟩ := HH11.out.e.at_ hlt
      obtain ⟨x2, o2, rfl, -, y2⟩ := HH11.out.s.at_ (j := i) (by rw [HL2.out]; exact hlt)
      have hii : (0 : Int) ≤ i := by omega
      by_cases hle : n.ends.getD i 0 ≤ addr
      · have hno : ¬ addr < n.ends.getD i 0 := by omega
        have HY := Lib.hid (look_step HFT.out hlt hle _ HX.out)
        clear hle y2
        generalize n.ends.getD i 0 = z at *
        go_wp2
        go_round
        case rel => exact ⟨i + 1, by omega, by go_num, HY.out⟩
        case measure => simp [intOf]; omega
      · have hyes : addr < n.ends.getD i 0 := by omega
        have hq := look_here HFT.out hlt hyes _ HX.out
        simp only [Prod.mk.injEq] at hq
        obtain ⟨rfl, rfl, rfl⟩ := hq
        have his : (i : Int) < n.slots.length := by rw [HL2.out]; omega
        clear hle HX
        generalize n.ends.getD i 0 = z at *
        generalize n.slots.getD i 0 = u at *
        go_upto_region 12 with fail
        go_quiet (fail)
        go_wp2
        go_ret
        exact ⟨rfl, below_drewN HB9.out _⟩
    · obtain rfl : i = n.ends.length := by omega
      have hq := HX.out
      rw [Nat.sub_self] at hq
      simp only [lookGo, Prod.mk.injEq] at hq
      obtain ⟨rfl, rfl, rfl⟩ := hq
      clear HX
      go_wp2
      go_ret
      exact ⟨rfl, HB9.out⟩
theorem node16 (n : NodeV) (a1 a2 a3 : Option Addr) (c1 c2 c3 : Nat) (addr : Int) (w : World) (h : NodeR w n a1 a2 a3 c1 c2 c3) (_ : (Lit.int .i64 addr).wf = true) :
    Calls Try.prog 8 #[.agg (nodeCells n.inner n.lo a1 a2 a3 n.ends.length n.slots.length n.gaps.length c1 c2 c3), .int .i64 addr] w fun e w' => e = .returned (.bool true) ∧ Below w.heap.size w w' := by
  cases hf : n.formedB with
  | true => exact node16_yes n a1 a2 a3 c1 c2 c3 addr w h hf
  | false => exact node16_no n a1 a2 a3 c1 c2 c3 addr w h hf
end Go.Proofs.Ytldccemgfjmcdaa
