/- The reference's Pack (layer 15), called alone on a formed node. -/
import Derived.Test.YtohidmkfpaiklaaWords
namespace Go.Proofs.Ytohidmkfpaiklaa
open Go.RowKit
set_option linter.unusedSimpArgs false
set_option linter.unusedVariables false

theorem head_zero (x : Int) : nums .i64 (x :: 0 :: zeros 26) = (nums .i64 (zeros 28)).setIfInBounds 0 (.int .i64 x) := by rw [nums_set]; rfl
theorem NodeV.packTo_zero (n : NodeV) : n.packTo 0 = n.head :: n.lo :: zeros 26 := by unfold NodeV.packTo seg; rfl
set_option maxRecDepth 100000 in
set_option maxHeartbeats 2000000 in
theorem ref15_pack (n : NodeV) (a1 a2 a3 : Option Addr) (c1 c2 c3 : Nat) (w : World) (h : NodeR w n a1 a2 a3 c1 c2 c3) (hf : n.formedB = true) :
    Calls Try.prog 26 #[.agg (nodeCells n.inner n.lo a1 a2 a3 n.ends.length n.slots.length n.gaps.length c1 c2 c3)] w fun e w' =>
      ∃ g, e = .returned (.slice (some ⟨g, 0, none⟩) 28 28) ∧ w.heap.size ≤ g ∧ Row w' 2 1 g 28 28 (i64s n.pack) ∧ Below w.heap.size w w' := by
  obtain ⟨h1, h2, h3, h4, -⟩ := NodeV.formed_iff hf
  have hmk : ∀ w, (Instr.makeSlice 23 (.int .i64 28) (.int .i64 28)).run Try.prog w = .ok (.slice (some ⟨w.heap.size, 0, none⟩) 28 28) (w.alloc (.cells (madeCells #[.int .i64 0] 28) 2)) :=
    run_make_row' (P := Try.prog) 23 2 (.int .i64 0) 8 Try.underlying23 info_i64 rfl .i64 .i64 28 (by omega) (by omega)
  have hz28 : madeCells #[.int .i64 0] 28 = nums .i64 (zeros 28) := nums_zeros .i64 28
  rw [hz28] at hmk
  obtain ⟨Z, hZ⟩ : ∃ Z, nums .i64 (zeros 28) = Z := ⟨_, rfl⟩
  rw [hZ] at hmk
  have HZ := Lib.hid hZ
  have HH := Lib.hid h
  have HALL := Lib.hid (n.packTo_all h3 h4)
  have HP0 := Lib.hid n.packTo_zero
  obtain ⟨k, hk⟩ : ∃ k, n.ends.length = k := ⟨_, rfl⟩
  have HST := Lib.hid (fun (i : Nat) (hi : i < k) => n.packTo_step (i := i) (by rw [hk]; exact hi) (by omega) h3 h4)
  have HLEN := Lib.hid (fun (i : Nat) (hi : i ≤ k) => n.packTo_len (i := i) (by rw [hk]; exact hi) (by omega) h3 h4)
  have HCE := Lib.hid (fun (i : Nat) (hi : i < k) (wr : World) (hw : Below w.heap.size w wr) => And.intro ((h.below hw).e.at_ (j := i) (by rw [hk]; exact hi)) (And.intro ((h.below hw).s.at_ (j := i) (by rw [h3, hk]; exact hi)) ((h.below hw).g.at_ (j := i) (by rw [h4, hk]; exact hi))))
  have HHD := Lib.hid (show n.head = (if n.inner = true then 2 else 1) + 16 * (n.ends.length : Int) from rfl)
  rw [hk] at HHD HALL
  obtain ⟨b1, o1, rfl, l1, -⟩ := h.e.at_ (j := 0) (by omega)
  obtain ⟨b2, o2, rfl, l2, -⟩ := h.s.at_ (j := 0) (by omega)
  obtain ⟨b3, o3, rfl, l3, -⟩ := h.g.at_ (j := 0) (by omega)
  rw [h3, h4, hk]
  rw [hk] at h1 h2
  have hk1 : (k : Int) ≤ 8 := by omega
  have hk0 : (1 : Int) ≤ k := by omega
  have hb : ∀ o : Obj, Below w.heap.size w (w.alloc o) := fun o => (Below.refl _ _).alloc (Nat.le_refl _) _
  unfold nodeCells
  clear h h3 h4 hk hz28 hZ hf
  have hB0 := (Blk.new w 43 #[.bool n.inner, .int .i64 n.lo, .slice (some ⟨b1, o1, none⟩) k c1, .slice (some ⟨b2, o2, none⟩) k c2, .slice (some ⟨b3, o3, none⟩) k c3]).alloc (.cells Z 2)
  have hR0 := Blk.new (w.alloc (.cells #[.bool n.inner, .int .i64 n.lo, .slice (some ⟨b1, o1, none⟩) k c1, .slice (some ⟨b2, o2, none⟩) k c2, .slice (some ⟨b3, o3, none⟩) k c3] 43)) 2 Z
  have hw0 := (hb (.cells #[.bool n.inner, .int .i64 n.lo, .slice (some ⟨b1, o1, none⟩) k c1, .slice (some ⟨b2, o2, none⟩) k c2, .slice (some ⟨b3, o3, none⟩) k c3] 43)).alloc (by simp) (.cells Z 2)
  simp only [World.size_alloc] at hR0
  go_enter Try.func26, Try.ntmps26
  go_upto_region 2 with fail
  generalize (w.alloc (.cells #[.bool n.inner, .int .i64 n.lo, .slice (some ⟨b1, o1, none⟩) k c1, .slice (some ⟨b2, o2, none⟩) k c2, .slice (some ⟨b3, o3, none⟩) k c3] 43)).alloc (.cells Z 2) = w1 at *
  obtain ⟨nb, hnb⟩ : ∃ nb, w.heap.size = nb := ⟨_, rfl⟩
  rw [hnb] at hB0 hR0 hw0 ⊢
  have HNB := Lib.hid hnb
  have hrb : nb ≠ nb + 1 := by omega
  have hl123 : b1 < nb ∧ b2 < nb ∧ b3 < nb := by rw [← hnb]; exact ⟨l1, l2, l3⟩
  clear hnb l1 l2 l3
  generalize hrbe : nb + 1 = rb at *
  have hnr : nb ≤ rb := by omega
  clear hrbe
  rw [← HZ.out] at hR0
  have t0 := hB0.at_ (i := 0) rfl
  have t1 := hB0.at_ (i := 1) rfl
  have t2 := hB0.at_ (i := 2) rfl
  simp only [List.getElem_toArray, List.getElem_cons_succ, List.getElem_cons_zero] at t0 t1 t2
  have r0 := hR0.at_ (i := 0) (v := .int .i64 0) rfl
  have r1 := hR0.at_ (i := 1) (v := .int .i64 0) rfl
  have f0 := hR0.free 0
  have f1 := hR0.free 1
  have HB := Lib.hid hB0
  have HR := Lib.hid hR0
  have HW := Lib.hid hw0
  clear hB0 hR0 hw0
  go_upto_if 14 with fail
  go_cut [] (fun wc => Blk wc rb 2 (nums .i64 (n.head :: zeros 27)) ∧ Blk wc nb 43 #[.bool n.inner, .int .i64 n.lo, .slice (some ⟨b1, o1, none⟩) k c1, .slice (some ⟨b2, o2, none⟩) k c2, .slice (some ⟨b3, o3, none⟩) k c3] ∧ Below nb w wc)
  case first =>
    have q1 := HR.out.put 0 (.int .i64 (1 + 16 * (k : Int)))
    rw [nums_set, show (zeros 28).set 0 (1 + 16 * (k : Int)) = (1 + 16 * (k : Int)) :: zeros 27 from rfl] at q1
    have q2 := q1.put 0 (.int .i64 (1 + 16 * (k : Int) + 1))
    rw [nums_set, show ((1 + 16 * (k : Int)) :: zeros 27).set 0 (1 + 16 * (k : Int) + 1) = (1 + 16 * (k : Int) + 1) :: zeros 27 from rfl] at q2
    have e1 := HB.out.far (p := ⟨rb, 0, none⟩) hrb (.int .i64 (1 + 16 * (k : Int)))
    have e2 := e1.far (p := ⟨rb, 0, none⟩) hrb (.int .i64 (1 + 16 * (k : Int) + 1))
    have e3 := HW.out.setCell (p := ⟨rb, 0, none⟩) hnr (.int .i64 (1 + 16 * (k : Int)))
    have e4 := e3.setCell (p := ⟨rb, 0, none⟩) hnr (.int .i64 (1 + 16 * (k : Int) + 1))
    have z0 := q1.at_ (i := 0) (v := .int .i64 (1 + 16 * (k : Int))) rfl
    have z1 := q1.free 0
    have Q1 := Lib.hid q1
    have Q2 := Lib.hid q2
    have E1 := Lib.hid e1
    have E2 := Lib.hid e2
    have E3 := Lib.hid e3
    have E4 := Lib.hid e4
    clear q1 q2 e1 e2 e3 e4
    go_wp2
    · go_meet
      have hh : n.head = 1 + 16 * (k : Int) + 1 := by rw [HHD.out, if_pos (by assumption)]; omega
      rw [hh]
      exact ⟨Q2.out, E2.out, E4.out⟩
    · go_meet
      have hh : n.head = 1 + 16 * (k : Int) := by rw [HHD.out, if_neg (by simp_all)]
      rw [hh]
      exact ⟨Q1.out, E1.out, E3.out⟩
  case rest =>
    rename_i hcut
    obtain ⟨hR, hB, hw⟩ := hcut
    clear t0 t1 t2 r0 r1 f0 f1 HB HR HW
    have t1 := hB.at_ (i := 1) rfl
    simp only [List.getElem_toArray, List.getElem_cons_succ, List.getElem_cons_zero] at t1
    have r1 := hR.at_ (i := 1) (v := .int .i64 0) rfl
    have f1 := hR.free 1
    have q1 := hR.put 1 (.int .i64 n.lo)
    rw [nums_set, show (n.head :: zeros 27).set 1 n.lo = n.packTo 0 by rw [HP0.out]; rfl] at q1
    have Q1 := Lib.hid q1
    have E1 := Lib.hid (hB.far (p := ⟨rb, 1, none⟩) hrb (.int .i64 n.lo))
    have E3 := Lib.hid (hw.setCell (p := ⟨rb, 1, none⟩) hnr (.int .i64 n.lo))
    clear q1 hR hB hw
    go_wp2_with fail
    go_loopw [4] (fun v wr => ∃ i : Nat, i ≤ k ∧ v = .int .i64 i ∧ Blk wr rb 2 (nums .i64 (n.packTo i)) ∧ Blk wr nb 43 #[.bool n.inner, .int .i64 n.lo, .slice (some ⟨b1, o1, none⟩) k c1, .slice (some ⟨b2, o2, none⟩) k c2, .slice (some ⟨b3, o3, none⟩) k c3] ∧ Below nb w wr) (fun v _ => k - (intOf v).toNat)
    case atStart => exact ⟨0, Nat.zero_le _, rfl, Q1.out, E1.out, E3.out⟩
    case round =>
      clear Q1 E1 E3 t1 r1 f1
      obtain ⟨i, hi, rfl, hR, hB, hw⟩ := hrel
      have t2 := hB.at_ (i := 2) rfl
      have t3 := hB.at_ (i := 3) rfl
      have t4 := hB.at_ (i := 4) rfl
      simp only [List.getElem_toArray, List.getElem_cons_succ, List.getElem_cons_zero] at t2 t3 t4
      by_cases hlt : i < k
      · have hii : (i : Int) < (k : Int) := by omega
        have hii0 : (0 : Int) ≤ i := by omega
        obtain ⟨⟨b1', o1', e1, -, q1⟩, ⟨b2', o2', e2, -, q2⟩, ⟨b3', o3', e3, -, q3⟩⟩ := HCE.out i hlt wr (by rw [HNB.out]; exact hw)
        obtain ⟨rfl, rfl⟩ : b1' = b1 ∧ o1' = o1 := by simpa using e1.symm
        obtain ⟨rfl, rfl⟩ : b2' = b2 ∧ o2' = o2 := by simpa using e2.symm
        obtain ⟨rfl, rfl⟩ : b3' = b3 ∧ o3' = o3 := by simpa using e3.symm
        have hs := HST.out i hlt
        have hln := HLEN.out i (by omega)
        clear e1 e2 e3
        generalize n.ends.getD i 0 = e at *
        generalize n.slots.getD i 0 = s at *
        generalize n.gaps.getD i 0 = g at *
        have k1 := hR.put (2 + i) (.int .i64 e)
        have k2 := k1.put (10 + i) (.int .i64 s)
        have k3 := k2.put (18 + i) (.int .i64 g)
        rw [nums_set, nums_set, nums_set, hs] at k3
        obtain ⟨x1, hx1⟩ : ∃ x, wr.cell? ⟨rb, 2 + i, none⟩ = some x := ⟨_, hR.at_ (nums_get _ _ _ (by omega))⟩
        obtain ⟨x2, hx2⟩ : ∃ x, wr.cell? ⟨rb, 10 + i, none⟩ = some x := ⟨_, hR.at_ (nums_get _ _ _ (by omega))⟩
        obtain ⟨x3, hx3⟩ : ∃ x, wr.cell? ⟨rb, 18 + i, none⟩ = some x := ⟨_, hR.at_ (nums_get _ _ _ (by omega))⟩
        have y1 := hR.free (2 + i)
        have y2 := hR.free (10 + i)
        have y3 := hR.free (18 + i)
        have hl1 : b1' ≠ rb ∧ b2' ≠ rb ∧ b3' ≠ rb := by omega
        obtain ⟨hl1, hl2, hl3⟩ := hl1
        have K3 := Lib.hid k3
        have B3 := Lib.hid (((hB.far (p := ⟨rb, 2 + i, none⟩) hrb (.int .i64 e)).far (p := ⟨rb, 10 + i, none⟩) hrb (.int .i64 s)).far (p := ⟨rb, 18 + i, none⟩) hrb (.int .i64 g))
        have W3 := Lib.hid (((hw.setCell (p := ⟨rb, 2 + i, none⟩) hnr (.int .i64 e)).setCell (p := ⟨rb, 10 + i, none⟩) hnr (.int .i64 s)).setCell (p := ⟨rb, 18 + i, none⟩) hnr (.int .i64 g))
        clear hs hln k1 k2 k3 hR hB hw
        go_wp2
        go_roundw
        case rel => exact ⟨i + 1, by omega, by go_num, K3.out, B3.out, W3.out⟩
        case measure => simp [intOf]; omega
      · obtain rfl : i = k := by omega
        rw [HALL.out] at hR
        have HRR := Lib.hid hR
        have HWW := Lib.hid hw
        clear hR hw hB
        go_wp2
        go_ret
        refine ⟨rb, rfl, by rw [HNB.out]; exact hnr, ?_, by rw [HNB.out]; exact HWW.out⟩
        have hsz : (nums .i64 n.pack).size = 28 := by rw [nums_size, ← HALL.out]; exact HLEN.out i (Nat.le_refl _)
        have := Row.made HRR.out (by rw [hsz]; unfold maxLen; omega)
        rw [hsz] at this
        simpa [nums, i64s] using this
end Go.Proofs.Ytohidmkfpaiklaa
