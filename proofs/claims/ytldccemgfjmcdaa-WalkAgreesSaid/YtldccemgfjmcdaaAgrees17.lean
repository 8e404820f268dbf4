/- WalkAgrees, walked. -/
import Derived.Test.YtldccemgfjmcdaaAgreeP17
import Derived.Test.YtldccemgfjmcdaaGoes17
import Derived.Test.YtldccemgfjmcdaaOpenAgg
namespace Go.Proofs.Ytldccemgfjmcdaa
open Go.RowKit
set_option linter.unusedSimpArgs false
set_option linter.unusedVariables false

theorem Tells.same' {β : Type} {σ σ' : LandS} {r : Res LandS β} {v : β} {n c : Nat} {st : Bool} (h : Tells σ r v n c st) (hs : Same σ σ') : Tells σ' r v n c st := fun σ1 h1 h0 hc => by
  obtain ⟨σ2, e, h2, r2⟩ := h σ1 (hs.trans h1) h0 hc
  exact ⟨σ2, e, ⟨h2.cells.trans hs.cells.symm, h2.first.trans hs.first.symm, h2.slots.trans hs.slots.symm⟩, r2⟩
theorem NodeR.thru {w w' : World} {n : NodeV} {a1 a2 a3 : Option Addr} {c1 c2 c3 : Nat} (h : NodeR w n a1 a2 a3 c1 c2 c3) (hb : Below w.heap.size w w') : NodeR w' n a1 a2 a3 c1 c2 c3 := h.below hb
set_option maxRecDepth 100000 in
set_option maxHeartbeats 4000000 in
theorem agrees17_no (n : NodeV) (a1 a2 a3 : Option Addr) (c1 c2 c3 : Nat) (addr : Int) (w : World) (h : NodeR w n a1 a2 a3 c1 c2 c3) (hf : n.inner = true ∨ n.formedB = false) :
    Calls Try.prog 5 #[.agg (nodeCells n.inner n.lo a1 a2 a3 n.ends.length n.slots.length n.gaps.length c1 c2 c3), .int .i64 addr] w fun e w' => e = .returned (.bool true) ∧ Below w.heap.size w w' := by
  have m1 := h.e.hm
  have l1 := h.e.le
  have m2 := h.s.hm
  have l2 := h.s.le
  have m3 := h.g.hm
  have l3 := h.g.le
  unfold maxLen at m1 m2 m3
  have HFO := Lib.hid (fun w1 (h1 : NodeR w1 n a1 a2 a3 c1 c2 c3) => ref15_formed n a1 a2 a3 c1 c2 c3 w1 h1)
  have HF := Lib.hid hf
  have HA := Lib.hid awake17
  have HH := Lib.hid h
  have HB := Lib.hid (Below.refl w.heap.size w)
  unfold nodeCells
  unfold nodeCells at HFO
  clear h hf
  by_cases e1 : 20 < n.ends.length
  · have e1i : (20 : Int) < n.ends.length := by omega
    go_enter Try.func5, Try.ntmps5
    replace HB := Lib.hid (below_thru HB.out (below_alloc0 w (.cells #[.bool (n.inner), .int .i64 n.lo, .slice a1 n.ends.length c1, .slice a2 n.slots.length c2, .slice a3 n.gaps.length c3] 50)))
    replace HH := Lib.hid (HH.out.thru (below_alloc0 w (.cells #[.bool (n.inner), .int .i64 n.lo, .slice a1 n.ends.length c1, .slice a2 n.slots.length c2, .slice a3 n.gaps.length c3] 50)))
    have HNB := Lib.hid (Blk.new w 50 #[.bool (n.inner), .int .i64 n.lo, .slice a1 n.ends.length c1, .slice a2 n.slots.length c2, .slice a3 n.gaps.length c3])
    go_upto_region 1 with fail
    have HZ := Lib.hid (World.size_alloc w (.cells #[.bool (n.inner), .int .i64 n.lo, .slice a1 n.ends.length c1, .slice a2 n.slots.length c2, .slice a3 n.gaps.length c3] 50))
    obtain ⟨nb, hnb⟩ : ∃ x, w.heap.size = x := ⟨_, rfl⟩
    simp only [hnb] at HNB HZ ⊢
    replace hnb := Lib.hid hnb
    generalize w.alloc (.cells #[.bool (n.inner), .int .i64 n.lo, .slice a1 n.ends.length c1, .slice a2 n.slots.length c2, .slice a3 n.gaps.length c3] 50) = w1 at *
    go_wp2_with fail
    refine (HA.out _).mono ?_
    rintro e w2 ⟨rfl, hb⟩
    replace HB := Lib.hid (below_thru HB.out hb)
    replace HH := Lib.hid (HH.out.thru hb)
    replace HNB := Lib.hid (HNB.out.thru hb)
    clear hb
    obtain ⟨k0, k1, k2, k3, k4⟩ := HNB.out.at5
    go_wp2_with fail
    refine (HA.out _).mono ?_
    rintro e w9 ⟨rfl, hb⟩
    replace HB := Lib.hid (below_thru HB.out hb)
    clear hb
    go_wp2
    go_ret
    exact ⟨rfl, HB.out⟩
  · have e1i : (n.ends.length : Int) ≤ 20 := by omega
    by_cases e2 : 20 < n.slots.length
    · have e2i : (20 : Int) < n.slots.length := by omega
      go_enter Try.func5, Try.ntmps5
      replace HB := Lib.hid (below_thru HB.out (below_alloc0 w (.cells #[.bool (n.inner), .int .i64 n.lo, .slice a1 n.ends.length c1, .slice a2 n.slots.length c2, .slice a3 n.gaps.length c3] 50)))
      replace HH := Lib.hid (HH.out.thru (below_alloc0 w (.cells #[.bool (n.inner), .int .i64 n.lo, .slice a1 n.ends.length c1, .slice a2 n.slots.length c2, .slice a3 n.gaps.length c3] 50)))
      have HNB := Lib.hid (Blk.new w 50 #[.bool (n.inner), .int .i64 n.lo, .slice a1 n.ends.length c1, .slice a2 n.slots.length c2, .slice a3 n.gaps.length c3])
      go_upto_region 1 with fail
      have HZ := Lib.hid (World.size_alloc w (.cells #[.bool (n.inner), .int .i64 n.lo, .slice a1 n.ends.length c1, .slice a2 n.slots.length c2, .slice a3 n.gaps.length c3] 50))
      obtain ⟨nb, hnb⟩ : ∃ x, w.heap.size = x := ⟨_, rfl⟩
      simp only [hnb] at HNB HZ ⊢
      replace hnb := Lib.hid hnb
      generalize w.alloc (.cells #[.bool (n.inner), .int .i64 n.lo, .slice a1 n.ends.length c1, .slice a2 n.slots.length c2, .slice a3 n.gaps.length c3] 50) = w1 at *
      go_wp2_with fail
      refine (HA.out _).mono ?_
      rintro e w2 ⟨rfl, hb⟩
      replace HB := Lib.hid (below_thru HB.out hb)
      replace HH := Lib.hid (HH.out.thru hb)
      replace HNB := Lib.hid (HNB.out.thru hb)
      clear hb
      obtain ⟨k0, k1, k2, k3, k4⟩ := HNB.out.at5
      go_wp2_with fail
      refine (HA.out _).mono ?_
      rintro e w9 ⟨rfl, hb⟩
      replace HB := Lib.hid (below_thru HB.out hb)
      clear hb
      go_wp2
      go_ret
      exact ⟨rfl, HB.out⟩
    · have e2i : (n.slots.length : Int) ≤ 20 := by omega
      by_cases e3 : 20 < n.gaps.length
      · have e3i : (20 : Int) < n.gaps.length := by omega
        go_enter Try.func5, Try.ntmps5
        replace HB := Lib.hid (below_thru HB.out (below_alloc0 w (.cells #[.bool (n.inner), .int .i64 n.lo, .slice a1 n.ends.length c1, .slice a2 n.slots.length c2, .slice a3 n.gaps.length c3] 50)))
        replace HH := Lib.hid (HH.out.thru (below_alloc0 w (.cells #[.bool (n.inner), .int .i64 n.lo, .slice a1 n.ends.length c1, .slice a2 n.slots.length c2, .slice a3 n.gaps.length c3] 50)))
        have HNB := Lib.hid (Blk.new w 50 #[.bool (n.inner), .int .i64 n.lo, .slice a1 n.ends.length c1, .slice a2 n.slots.length c2, .slice a3 n.gaps.length c3])
        go_upto_region 1 with fail
        have HZ := Lib.hid (World.size_alloc w (.cells #[.bool (n.inner), .int .i64 n.lo, .slice a1 n.ends.length c1, .slice a2 n.slots.length c2, .slice a3 n.gaps.length c3] 50))
        obtain ⟨nb, hnb⟩ : ∃ x, w.heap.size = x := ⟨_, rfl⟩
        simp only [hnb] at HNB HZ ⊢
        replace hnb := Lib.hid hnb
        generalize w.alloc (.cells #[.bool (n.inner), .int .i64 n.lo, .slice a1 n.ends.length c1, .slice a2 n.slots.length c2, .slice a3 n.gaps.length c3] 50) = w1 at *
        go_wp2_with fail
        refine (HA.out _).mono ?_
        rintro e w2 ⟨rfl, hb⟩
        replace HB := Lib.hid (below_thru HB.out hb)
        replace HH := Lib.hid (HH.out.thru hb)
        replace HNB := Lib.hid (HNB.out.thru hb)
        clear hb
        obtain ⟨k0, k1, k2, k3, k4⟩ := HNB.out.at5
        go_wp2_with fail
        refine (HA.out _).mono ?_
        rintro e w9 ⟨rfl, hb⟩
        replace HB := Lib.hid (below_thru HB.out hb)
        clear hb
        go_wp2
        go_ret
        exact ⟨rfl, HB.out⟩
      · have e3i : (n.gaps.length : Int) ≤ 20 := by omega
        cases hin : n.inner with
        | true =>
          rw [hin] at HFO
          go_enter Try.func5, Try.ntmps5
          replace HB := Lib.hid (below_thru HB.out (below_alloc0 w (.cells #[.bool (true), .int .i64 n.lo, .slice a1 n.ends.length c1, .slice a2 n.slots.length c2, .slice a3 n.gaps.length c3] 50)))
          replace HH := Lib.hid (HH.out.thru (below_alloc0 w (.cells #[.bool (true), .int .i64 n.lo, .slice a1 n.ends.length c1, .slice a2 n.slots.length c2, .slice a3 n.gaps.length c3] 50)))
          have HNB := Lib.hid (Blk.new w 50 #[.bool (true), .int .i64 n.lo, .slice a1 n.ends.length c1, .slice a2 n.slots.length c2, .slice a3 n.gaps.length c3])
          go_upto_region 1 with fail
          have HZ := Lib.hid (World.size_alloc w (.cells #[.bool (true), .int .i64 n.lo, .slice a1 n.ends.length c1, .slice a2 n.slots.length c2, .slice a3 n.gaps.length c3] 50))
          obtain ⟨nb, hnb⟩ : ∃ x, w.heap.size = x := ⟨_, rfl⟩
          simp only [hnb] at HNB HZ ⊢
          replace hnb := Lib.hid hnb
          generalize w.alloc (.cells #[.bool (true), .int .i64 n.lo, .slice a1 n.ends.length c1, .slice a2 n.slots.length c2, .slice a3 n.gaps.length c3] 50) = w1 at *
          go_wp2_with fail
          refine (HA.out _).mono ?_
          rintro e w2 ⟨rfl, hb⟩
          replace HB := Lib.hid (below_thru HB.out hb)
          replace HH := Lib.hid (HH.out.thru hb)
          replace HNB := Lib.hid (HNB.out.thru hb)
          clear hb
          obtain ⟨k0, k1, k2, k3, k4⟩ := HNB.out.at5
          go_wp2_with fail
          refine (HA.out _).mono ?_
          rintro e w9 ⟨rfl, hb⟩
          replace HB := Lib.hid (below_thru HB.out hb)
          clear hb
          go_wp2
          go_ret
          exact ⟨rfl, HB.out⟩
        | false =>
          have hf : n.formedB = false := HF.out.resolve_left (by rw [hin]; simp)
          rw [hin, hf] at HFO
          clear hf
          go_enter Try.func5, Try.ntmps5
          replace HB := Lib.hid (below_thru HB.out (below_alloc0 w (.cells #[.bool (false), .int .i64 n.lo, .slice a1 n.ends.length c1, .slice a2 n.slots.length c2, .slice a3 n.gaps.length c3] 50)))
          replace HH := Lib.hid (HH.out.thru (below_alloc0 w (.cells #[.bool (false), .int .i64 n.lo, .slice a1 n.ends.length c1, .slice a2 n.slots.length c2, .slice a3 n.gaps.length c3] 50)))
          have HNB := Lib.hid (Blk.new w 50 #[.bool (false), .int .i64 n.lo, .slice a1 n.ends.length c1, .slice a2 n.slots.length c2, .slice a3 n.gaps.length c3])
          go_upto_region 1 with fail
          have HZ := Lib.hid (World.size_alloc w (.cells #[.bool (false), .int .i64 n.lo, .slice a1 n.ends.length c1, .slice a2 n.slots.length c2, .slice a3 n.gaps.length c3] 50))
          obtain ⟨nb, hnb⟩ : ∃ x, w.heap.size = x := ⟨_, rfl⟩
          simp only [hnb] at HNB HZ ⊢
          replace hnb := Lib.hid hnb
          generalize w.alloc (.cells #[.bool (false), .int .i64 n.lo, .slice a1 n.ends.length c1, .slice a2 n.slots.length c2, .slice a3 n.gaps.length c3] 50) = w1 at *
          go_wp2_with fail
          refine (HA.out _).mono ?_
          rintro e w2 ⟨rfl, hb⟩
          replace HB := Lib.hid (below_thru HB.out hb)
          replace HH := Lib.hid (HH.out.thru hb)
          replace HNB := Lib.hid (HNB.out.thru hb)
          clear hb
          obtain ⟨k0, k1, k2, k3, k4⟩ := HNB.out.at5
          go_wp2_with fail
          refine (HFO.out _ HH.out).mono ?_
          rintro e w3 ⟨rfl, hb⟩
          clear k0 k1 k2 k3 k4
          replace HB := Lib.hid (below_thru HB.out hb)
          replace HH := Lib.hid (HH.out.thru hb)
          replace HNB := Lib.hid (HNB.out.thru hb)
          clear hb
          obtain ⟨k0, k1, k2, k3, k4⟩ := HNB.out.at5
          go_wp2_with fail
          refine (HA.out _).mono ?_
          rintro e w9 ⟨rfl, hb⟩
          replace HB := Lib.hid (below_thru HB.out hb)
          clear hb
          go_wp2
          go_ret
          exact ⟨rfl, HB.out⟩
theorem ents_ok {n : NodeV} (hf : n.formedB = true) {i : Nat} (hi : i < n.ends.length) : (ents (n.ends.zip n.slots) n.lo)[i]? = some ⟨n.from_ i, n.ends.getD i 0, n.slots.getD i 0⟩ := by
  obtain ⟨-, -, hs, -⟩ := NodeV.formed_iff hf
  exact ents_at n.ends n.slots n.lo i hs.symm hi
set_option maxRecDepth 100000 in
set_option maxHeartbeats 8000000 in
theorem agrees17_yes (n : NodeV) (a1 a2 a3 : Option Addr) (c1 c2 c3 : Nat) (addr : Int) (w : World) (h : NodeR w n a1 a2 a3 c1 c2 c3) (hin : n.inner = false) (hf : n.formedB = true) :
    Calls Try.prog 5 #[.agg (nodeCells n.inner n.lo a1 a2 a3 n.ends.length n.slots.length n.gaps.length c1 c2 c3), .int .i64 addr] w fun e w' => e = .returned (.bool true) ∧ Below w.heap.size w w' := by
  have m1 := h.e.hm
  have l1 := h.e.le
  have m2 := h.s.hm
  have l2 := h.s.le
  have m3 := h.g.hm
  have l3 := h.g.le
  unfold maxLen at m1 m2 m3
  obtain ⟨k1, k8, k3, k4, -⟩ := NodeV.formed_iff hf
  have HFO := Lib.hid (fun w1 (h1 : NodeR w1 n a1 a2 a3 c1 c2 c3) => ref15_formed n a1 a2 a3 c1 c2 c3 w1 h1)
  have HPK := Lib.hid (fun w1 (h1 : NodeR w1 n a1 a2 a3 c1 c2 c3) => ref15_pack n a1 a2 a3 c1 c2 c3 w1 h1 hf)
  rw [hf] at HFO
  have HFT := Lib.hid hf
  have HIN := Lib.hid hin
  have HA := Lib.hid awake17
  have HH := Lib.hid h
  have HB := Lib.hid (Below.refl w.heap.size w)
  unfold nodeCells
  unfold nodeCells at HFO HPK
  rw [hin] at HFO HPK ⊢
  have e1i : (n.ends.length : Int) ≤ 20 := by omega
  have e2i : (n.slots.length : Int) ≤ 20 := by omega
  have e3i : (n.gaps.length : Int) ≤ 20 := by omega
  have k8i : (n.ends.length : Int) ≤ 8 := by omega
  have HL2 := Lib.hid k3
  have HL3 := Lib.hid k4
  have HWF := Lib.hid (h.pack_wf hf)
  have HPL := Lib.hid (NodeV.pack_len hf)
  have h0 := Lib.hid h
  clear h hf k3 k4 hin
  go_enter Try.func5, Try.ntmps5
  replace HB := Lib.hid (below_thru HB.out (below_alloc0 w (.cells #[.bool false, .int .i64 n.lo, .slice a1 n.ends.length c1, .slice a2 n.slots.length c2, .slice a3 n.gaps.length c3] 50)))
  replace HH := Lib.hid (HH.out.thru (below_alloc0 w (.cells #[.bool false, .int .i64 n.lo, .slice a1 n.ends.length c1, .slice a2 n.slots.length c2, .slice a3 n.gaps.length c3] 50)))
  have HNB := Lib.hid (Blk.new w 50 #[.bool false, .int .i64 n.lo, .slice a1 n.ends.length c1, .slice a2 n.slots.length c2, .slice a3 n.gaps.length c3])
  go_upto_region 1 with fail
  have HZ := Lib.hid (World.size_alloc w (.cells #[.bool false, .int .i64 n.lo, .slice a1 n.ends.length c1, .slice a2 n.slots.length c2, .slice a3 n.gaps.length c3] 50))
  obtain ⟨nb, hnb⟩ : ∃ x, w.heap.size = x := ⟨_, rfl⟩
  simp only [hnb] at HNB HZ ⊢
  replace hnb := Lib.hid hnb
  generalize w.alloc (.cells #[.bool false, .int .i64 n.lo, .slice a1 n.ends.length c1, .slice a2 n.slots.length c2, .slice a3 n.gaps.length c3] 50) = w1 at *
  go_wp2_with fail
  refine (HA.out _).mono ?_
  rintro e w2 ⟨rfl, hb⟩
  replace HB := Lib.hid (below_thru HB.out hb)
  replace HH := Lib.hid (HH.out.thru hb)
  replace HNB := Lib.hid (HNB.out.thru hb)
  clear hb
  obtain ⟨k0, k1, k2, k3, k4⟩ := HNB.out.at5
  go_wp2_with fail
  refine (HFO.out _ HH.out).mono ?_
  rintro e w3 ⟨rfl, hb⟩
  clear k0 k1 k2 k3 k4
  replace HB := Lib.hid (below_thru HB.out hb)
  replace HH := Lib.hid (HH.out.thru hb)
  replace HNB := Lib.hid (HNB.out.thru hb)
  clear hb
  obtain ⟨k0, k1, k2, k3, k4⟩ := HNB.out.at5
  go_wp2_with fail
  refine (HPK.out _ HH.out).mono ?_
  rintro e w4 ⟨g, rfl, hg, hrow, hb⟩
  clear k0 k1 k2 k3 k4
  replace HB := Lib.hid (below_thru HB.out hb)
  replace HH := Lib.hid (HH.out.thru hb)
  replace HNB := Lib.hid (HNB.out.thru hb)
  clear hb
  obtain ⟨k0, k1, k2, k3, k4⟩ := HNB.out.at5
  have HR := Lib.hid hrow
  clear hrow hg
  clear k0 k1 k2 k3 k4
  replace HB := Lib.hid (below_thru HB.out (below_alloc0 w4 (.cells #[.slice (some ⟨g, 0, none⟩) 28 28] 31)))
  replace HH := Lib.hid (HH.out.thru (below_alloc0 w4 (.cells #[.slice (some ⟨g, 0, none⟩) 28 28] 31)))
  replace HNB := Lib.hid (HNB.out.thru (below_alloc0 w4 (.cells #[.slice (some ⟨g, 0, none⟩) 28 28] 31)))
  replace HR := Lib.hid (HR.out.thru (below_alloc0 w4 (.cells #[.slice (some ⟨g, 0, none⟩) 28 28] 31)))
  have HS := Lib.hid (Blk.new w4 31 #[.slice (some ⟨g, 0, none⟩) 28 28])
  go_wp2_with fail
  have HZ := Lib.hid (World.size_alloc w4 (.cells #[.slice (some ⟨g, 0, none⟩) 28 28] 31))
  obtain ⟨sb, hsb⟩ : ∃ x, w4.heap.size = x := ⟨_, rfl⟩
  simp only [hsb] at HS HZ ⊢
  replace hsb := Lib.hid hsb
  generalize w4.alloc (.cells #[.slice (some ⟨g, 0, none⟩) 28 28] 31) = w5 at *
  have HSL := Lib.hid (slots16' (some ⟨sb, 0, none⟩) 1 1 [⟨some ⟨g, 0, none⟩, 28, 28, n.pack⟩] w5 (rowsL_one HS.out (ArgInts.ofRow HR.out HWF.out)) (by simp) (by omega))
  have HZ2 := Lib.hid HB.out.size
  have HN5 := Lib.hid HNB.out.lt
  clear HZ HFO HPK
  refine (HSL.out).mono ?_
  rintro e w6 ⟨rfl, hb, hland⟩
  replace HB := Lib.hid (below_thru HB.out hb)
  replace HH := Lib.hid (HH.out.thru hb)
  replace HNB := Lib.hid (HNB.out.thru hb)
  clear hb
  have HLA := Lib.hid hland
  clear hland HR HS HSL
  obtain ⟨st, q, hq, h80, ht, -⟩ := tells_goFind (xs := [n.pack]) (by simp [HPL.out]) (by simp) 65537 addr
  obtain ⟨st2, q2, hq2, -, ht2, -⟩ := tells_goAll (xs := [n.pack]) (by simp [HPL.out]) (by simp) 65537
  have hall : allP [n.pack] 65537 = (ents (n.ends.zip n.slots) n.lo, [65537], true, 2 + 3 * n.ends.length) := by unfold allP; rw [leaf_all HFT.out HIN.out]; rfl
  rw [hall, leaf_all HFT.out HIN.out] at ht2
  simp only at ht2
  have HT2 := Lib.hid ht2
  have HAG := Lib.hid (AgreeAt.start HFT.out HIN.out addr)
  obtain ⟨Q, hQ⟩ : ∃ Q, findP [n.pack] addr 8 65537 = Q := ⟨_, rfl⟩
  simp only [hQ] at ht h80 HAG
  obtain ⟨rh, ro, qn⟩ := Q
  simp only at ht h80 HAG
  have HT := Lib.hid (alone_tells 65537 addr false (goFindR 65537 addr) (goFind_free _ _) (runsFind 65537 addr rfl) _ _ _ _ (land16 [n.pack]) none w6 HLA.out ht (by omega) (by rw [land16_count]; omega) (by rw [land16_count]; simp only [List.length_singleton]; omega))
  have HQ2 := Lib.hid hq2
  have HQ1 := Lib.hid hq
  clear ht ht2 hall hQ hq hq2 h80
  go_wp2_with fail
  refine HT.out.mono ?_
  rintro e w7 ⟨cs, σ2, rfl, ⟨EA, ec, NA, nc, rfl, -, -, -⟩, hla, hsame, hcnt, -, hu⟩
  have HB7 := Lib.hid (below_upd HB.out hu (Nat.le_refl _) (by
    have := HZ2.out
    intro x hx
    simp only [List.mem_cons, List.not_mem_nil, or_false] at hx
    omega))
  have HN7 := Lib.hid (HNB.out.upd hu (by
    have := HN5.out
    simp only [List.mem_cons, List.not_mem_nil, or_false]
    omega))
  have HLA7 := Lib.hid hla
  have HLT7 := Lib.hid hla.lt
  have HT7 := Lib.hid (HT2.out.same' hsame)
  have HCN := Lib.hid (show σ2.mu.count = 28 + (q : Int) by rw [hcnt, land16_count]; simp only [List.length_singleton]; omega)
  clear hla hcnt hu HT HLA HB HNB HT2 hsame
  simp only
  replace HB7 := Lib.hid (below_thru HB7.out (below_alloc0 w7 (.cells #[.int .i64 rh, .bool ro, .slice EA 0 ec, .slice NA 0 nc] 33)))
  replace HN7 := Lib.hid (HN7.out.thru (below_alloc0 w7 (.cells #[.int .i64 rh, .bool ro, .slice EA 0 ec, .slice NA 0 nc] 33)))
  replace HLA7 := Lib.hid (HLA7.out.thru (below_alloc0 w7 (.cells #[.int .i64 rh, .bool ro, .slice EA 0 ec, .slice NA 0 nc] 33)))
  have HRB := Lib.hid (Blk.new w7 33 #[.int .i64 rh, .bool ro, .slice EA 0 ec, .slice NA 0 nc])
  go_upto_region 5 with fail
  have HZ := Lib.hid (World.size_alloc w7 (.cells #[.int .i64 rh, .bool ro, .slice EA 0 ec, .slice NA 0 nc] 33))
  obtain ⟨rb, hrb⟩ : ∃ x, w7.heap.size = x := ⟨_, rfl⟩
  simp only [hrb] at HRB HZ ⊢
  replace hrb := Lib.hid hrb
  generalize w7.alloc (.cells #[.int .i64 rh, .bool ro, .slice EA 0 ec, .slice NA 0 nc] 33) = w8 at *
  have HRB8 := Lib.hid HRB.out.lt
  have HN8 := Lib.hid HN7.out.lt
  have HAT := Lib.hid (alone_tells 65537 0 true (goAllR 65537) (goAll_free _) (runsAll 65537 0 rfl) _ _ _ _ σ2 none w8 HLA7.out HT7.out (by omega) (by rw [HCN.out]; omega) (by rw [HCN.out]; have := HQ1.out; have := HQ2.out; omega))
  go_wp2_with fail
  refine HAT.out.mono ?_
  rintro e w9 ⟨cs, σ3, rfl, ⟨EA2, ec2, NA2, nc2, rfl, hoe, hon, hwg⟩, -, -, -, -, hu⟩
  have HB9 := Lib.hid (below_upd HB7.out hu (Nat.le_refl _) (by
    have := HZ2.out
    intro x hx
    simp only [List.mem_cons, List.not_mem_nil, or_false] at hx
    omega))
  have hne : ∀ x ∈ [w5.heap.size + 1, w5.heap.size, w5.heap.size + 3, w5.heap.size + 2], nb ≠ x ∧ rb ≠ x := by
    have := HN5.out
    intro x hx
    have h2 := HLT7.out x hx
    have h3 := hrb.out
    simp only [List.mem_cons, List.not_mem_nil, or_false] at hx
    omega
  have HN9 := Lib.hid (HN7.out.upd hu (fun hin => (hne _ hin).1 rfl))
  have HR9 := Lib.hid (HRB.out.upd hu (fun hin => (hne _ hin).2 rfl))
  have HGT := Lib.hid (show Got w9 (ents (n.ends.zip n.slots) n.lo) [65537] EA2 ec2 NA2 nc2 from ⟨hoe, hon, hwg.2.1⟩)
  have hlen : (ents (n.ends.zip n.slots) n.lo).length = n.ends.length := by rw [ents_len, List.length_zip, HL2.out, Nat.min_self]
  have HLN := Lib.hid hlen
  simp only [hlen]
  clear hoe hon hwg hu hne HAT HLA7 HB7 HN7 HRB HN8 HRB8 HLT7 hlen
  replace HB9 := Lib.hid (below_thru HB9.out (below_alloc0 w9 (.cells #[.int .i64 0, .bool true, .slice EA2 n.ends.length ec2, .slice NA2 1 nc2] 33)))
  replace HN9 := Lib.hid (HN9.out.thru (below_alloc0 w9 (.cells #[.int .i64 0, .bool true, .slice EA2 n.ends.length ec2, .slice NA2 1 nc2] 33)))
  replace HR9 := Lib.hid (HR9.out.thru (below_alloc0 w9 (.cells #[.int .i64 0, .bool true, .slice EA2 n.ends.length ec2, .slice NA2 1 nc2] 33)))
  replace HGT := Lib.hid (HGT.out.thru (below_alloc0 w9 (.cells #[.int .i64 0, .bool true, .slice EA2 n.ends.length ec2, .slice NA2 1 nc2] 33)))
  have HSB := Lib.hid (Blk.new w9 33 #[.int .i64 0, .bool true, .slice EA2 n.ends.length ec2, .slice NA2 1 nc2])
  go_upto_region 6 with fail
  have HZ := Lib.hid (World.size_alloc w9 (.cells #[.int .i64 0, .bool true, .slice EA2 n.ends.length ec2, .slice NA2 1 nc2] 33))
  obtain ⟨sb2, hsb2⟩ : ∃ x, w9.heap.size = x := ⟨_, rfl⟩
  simp only [hsb2] at HSB HZ ⊢
  replace hsb2 := Lib.hid hsb2
  generalize w9.alloc (.cells #[.int .i64 0, .bool true, .slice EA2 n.ends.length ec2, .slice NA2 1 nc2] 33) = w10 at *
  obtain ⟨m0, m1, m2, m3⟩ := HSB.out.at4
  obtain ⟨k0, k1, k2, k3, k4⟩ := HN9.out.at5
  obtain ⟨p0, p1, p2, p3⟩ := HR9.out.at4
  have HEND := Lib.hid (show ∀ wr, Below w10.heap.size w10 wr → Below w.heap.size w wr from fun wr hb => below_thru HB9.out hb)
  have HG0 := Lib.hid HGT.out
  have HS0 := Lib.hid HSB.out
  have HN0 := Lib.hid HN9.out
  have HR0 := Lib.hid HR9.out
  go_wp2_with fail
  clear m0 m1 m2 m3
  clear k0 k1 k2 k3 k4
  clear p0 p1 p2 p3
  go_loopw [13] (fun v wr => ∃ i : Nat, i ≤ n.ends.length ∧ v = .int .i64 i ∧ Below w10.heap.size w10 wr ∧ AgreeAt n addr rh ro i) (fun v _ => n.ends.length - (intOf v).toNat)
  case atStart => exact ⟨0, Nat.zero_le _, rfl, Below.refl _ _, HAG.out⟩
  case round =>
    obtain ⟨i, hi, rfl, hbr, hag⟩ := hrel
    have HBR := Lib.hid hbr
    have HX := Lib.hid hag
    have HSr := Lib.hid (HS0.out.thru hbr)
    have HNr := Lib.hid (HN0.out.thru hbr)
    have HRr := Lib.hid (HR0.out.thru hbr)
    obtain ⟨m0, m1, m2, m3⟩ := HSr.out.at4
    obtain ⟨k0, k1, k2, k3, k4⟩ := HNr.out.at5
    obtain ⟨p0, p1, p2, p3⟩ := HRr.out.at4
    by_cases hlt : i < n.ends.length
    · obtain ⟨gg, ev, rfl, hev, x0, x1, x2⟩ := (HG0.out.thru hbr).ent (i := i) (by rw [HLN.out]; exact hlt)
      rw [ents_ok HFT.out hlt] at hev
      injection hev with hev
      subst hev
      simp only at x0 x1 x2
      have hii : (0 : Int) ≤ i := by omega
      have hij : (i : Int) < n.ends.length := by omega
      have HLT := Lib.hid hlt
      obtain ⟨lo, hlo⟩ : ∃ y, n.from_ i = y := ⟨_, rfl⟩
      obtain ⟨en, hen⟩ : ∃ y, n.ends.getD i 0 = y := ⟨_, rfl⟩
      obtain ⟨sl, hsl⟩ : ∃ y, n.slots.getD i 0 = y := ⟨_, rfl⟩
      rw [hlo] at x0
      rw [hen] at x1
      rw [hsl] at x2
      have HLO := Lib.hid hlo
      have HEN := Lib.hid hen
      have HSL := Lib.hid hsl
      clear hlo hen hsl hbr hag
      have HSa := Lib.hid (HSr.out.thru (below_alloc0 wr (.cells #[.int .i64 lo, .int .i64 en, .int .i64 sl] 47)))
      have HNa := Lib.hid (HNr.out.thru (below_alloc0 wr (.cells #[.int .i64 lo, .int .i64 en, .int .i64 sl] 47)))
      have HRa := Lib.hid (HRr.out.thru (below_alloc0 wr (.cells #[.int .i64 lo, .int .i64 en, .int .i64 sl] 47)))
      have HBa := Lib.hid (below_thru HBR.out (below_alloc0 wr (.cells #[.int .i64 lo, .int .i64 en, .int .i64 sl] 47)))
      have HEV := Lib.hid (Blk.new wr 47 #[.int .i64 lo, .int .i64 en, .int .i64 sl])
      go_upto_region 12 with fail
      clear m0 m1 m2 m3 k0 k1 k2 k3 k4 p0 p1 p2 p3 x0 x1 x2 HSr HNr HRr HBR
      obtain ⟨eb, heb⟩ : ∃ x, wr.heap.size = x := ⟨_, rfl⟩
      simp only [heb] at HEV ⊢
      clear heb
      generalize wr.alloc (.cells #[.int .i64 lo, .int .i64 en, .int .i64 sl] 47) = w11 at *
      obtain ⟨m0, m1, m2, m3⟩ := HSa.out.at4
      obtain ⟨k0, k1, k2, k3, k4⟩ := HNa.out.at5
      obtain ⟨p0, p1, p2, p3⟩ := HRa.out.at4
      obtain ⟨z0, z1, z2⟩ := HEV.out.at3
      by_cases h1 : lo ≤ addr
      · by_cases h2 : addr < en
        · obtain ⟨hro, hrh⟩ := HX.out.hit HFT.out HLT.out (by rw [HLO.out]; exact h1) (by rw [HEN.out]; exact h2)
          rw [HSL.out] at hrh
          subst hro hrh
          have HEB := Lib.hid (HEND.out _ HBa.out)
          clear HX
          go_wp2
          go_ret
          exact ⟨rfl, HEB.out⟩
        · have HN := Lib.hid (HX.out.next HFT.out HLT.out (by rw [HLO.out, HEN.out]; omega))
          clear HX
          go_wp2
          go_roundw
          case rel => exact ⟨i + 1, by omega, by go_num, HBa.out, HN.out⟩
          case measure => simp [intOf]; omega
      · have HN := Lib.hid (HX.out.next HFT.out HLT.out (by rw [HLO.out, HEN.out]; omega))
        clear HX
        go_wp2
        go_roundw
        case rel => exact ⟨i + 1, by omega, by go_num, HBa.out, HN.out⟩
        case measure => simp [intOf]; omega
    · obtain rfl : i = n.ends.length := by omega
      have HD := Lib.hid (show (!ro || decide (addr < n.lo)) = true by rcases HX.out.done with h | h <;> simp [h])
      have HE := Lib.hid (HEND.out _ hbr)
      have HDV := Lib.hid HD.out
      cases hro : ro with
      | false =>
        rw [hro] at p1
        clear hbr hag HX HD HDV
        go_wp2
        go_ret
        exact ⟨rfl, HE.out⟩
      | true =>
        rw [hro] at p1
        have hlt2 : addr < n.lo := by have := HD.out; rw [hro] at this; simpa using this
        clear hbr hag HX HD HDV
        go_wp2
        go_ret
        exact ⟨rfl, HE.out⟩
theorem agrees17 (n : NodeV) (a1 a2 a3 : Option Addr) (c1 c2 c3 : Nat) (addr : Int) (w : World) (h : NodeR w n a1 a2 a3 c1 c2 c3) (_ : (Lit.int .i64 addr).wf = true) :
    Calls Try.prog 5 #[.agg (nodeCells n.inner n.lo a1 a2 a3 n.ends.length n.slots.length n.gaps.length c1 c2 c3), .int .i64 addr] w fun e w' => e = .returned (.bool true) ∧ Below w.heap.size w w' := by
  rcases Bool.eq_false_or_eq_true n.inner with hi | hi
  · exact agrees17_no n a1 a2 a3 c1 c2 c3 addr w h (.inl hi)
  · rcases Bool.eq_false_or_eq_true n.formedB with hf | hf
    · exact agrees17_yes n a1 a2 a3 c1 c2 c3 addr w h hi hf
    · exact agrees17_no n a1 a2 a3 c1 c2 c3 addr w h (.inr hf)
end Go.Proofs.Ytldccemgfjmcdaa
