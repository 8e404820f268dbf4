/- Lists of words side by side: slices.Equal, the reference's Same, SameNode, Formed, Pack. -/
import Derived.Test.YtohidmkfpaiklaaPack
namespace Go.Proofs.Ytohidmkfpaiklaa
open Go.RowKit
set_option linter.unusedSimpArgs false
set_option linter.unusedVariables false

theorem take_step {xs ys : List Int} {i : Nat} (hx : i < xs.length) (hy : i < ys.length) (h : xs.take i = ys.take i) : xs.take (i + 1) = ys.take (i + 1) ↔ xs.getD i 0 = ys.getD i 0 := by
  rw [List.take_succ_eq_append_getElem hx, List.take_succ_eq_append_getElem hy, h, getD_of hx, getD_of hy]
  simp only [List.append_cancel_left_eq, List.cons.injEq, and_true]
theorem ne_of_at {xs ys : List Int} {i : Nat} (h : xs.getD i 0 ≠ ys.getD i 0) : xs ≠ ys := fun e => h (by rw [e])
def SamePost (w : World) (b : Bool) (e : Ending) (w' : World) : Prop := e = .returned (.bool b) ∧ ∃ q, w.drewN q = w'

set_option maxRecDepth 100000 in
theorem slices_equal (a1 a2 : Option Addr) (n m c1 c2 : Nat) (xs ys : List Int) (w : World) (hx : Ints w a1 n c1 xs) (hy : Ints w a2 m c2 ys) :
    Calls Try.prog 59 #[.slice a1 n c1, .slice a2 m c2] w (SamePost w (decide (xs = ys))) := by
  have hm := hx.hm
  have hl := hx.le
  have hxl := hx.hl
  have hyl := hy.hl
  unfold maxLen at hm
  by_cases hnm : n = m
  · subst hnm
    have g1 : ((n : Int) != n) = false := by simp
    have HX := Lib.hid hx
    have HY := Lib.hid hy
    have HXL := Lib.hid hxl
    have HYL := Lib.hid hyl
    clear hx hy hxl hyl
    go_enter Try.func59, Try.ntmps59
    go_wp2_with fail
    go_loopw [13] (fun u wr => ∃ (i q : Nat), i ≤ n ∧ u = .int .i64 i ∧ wr = w.drewN q ∧ xs.take i = ys.take i) (fun u _ => n - (intOf u).toNat)
    case atStart => exact ⟨0, 0, Nat.zero_le _, rfl, rfl, rfl⟩
    case round =>
      obtain ⟨i, q, hi, rfl, rfl, ht⟩ := hrel
      have HT := Lib.hid ht
      clear ht
      by_cases hlt : i < n
      · obtain ⟨b1, o1, rfl, -, q1⟩ := HX.out.at_ hlt
        obtain ⟨b2, o2, rfl, -, q2⟩ := HY.out.at_ hlt
        have hii : (i : Int) < n := by omega
        have hii0 : (0 : Int) ≤ i := by omega
        by_cases he : xs.getD i 0 = ys.getD i 0
        · have HS := Lib.hid ((take_step (by rw [HXL.out]; exact hlt) (by rw [HYL.out]; exact hlt) HT.out).2 he)
          rw [he] at q1
          generalize ys.getD i 0 = y at *
          have g2 : (y != y) = false := by simp
          clear he
          go_wp2_with fail
          go_quiet (fail)
          go_wp2
          go_roundw
          case rel => exact ⟨i + 1, _, by omega, by go_num, rfl, HS.out⟩
          case measure => simp [intOf]; omega
        · have HNE := Lib.hid (show decide (xs = ys) = false from decide_eq_false (ne_of_at he))
          have g2 : (xs.getD i 0 != ys.getD i 0) = true := bne_iff_ne.2 he
          generalize xs.getD i 0 = x at *
          generalize ys.getD i 0 = y at *
          clear he
          go_wp2_with fail
          go_quiet (fail)
          go_wp2
          go_ret
          exact ⟨by rw [HNE.out]; rfl, q + nq, (World.drewN_drewN _ _ _).symm⟩
      · obtain rfl : i = n := by omega
        have HE := Lib.hid (show decide (xs = ys) = true by
          have h := HT.out
          rw [List.take_of_length_le (by rw [HXL.out]; exact Nat.le_refl _), List.take_of_length_le (by rw [HYL.out]; exact Nat.le_refl _)] at h
          exact decide_eq_true h)
        go_wp2
        go_ret
        exact ⟨by rw [HE.out]; rfl, q, rfl⟩
  · have g1 : ((n : Int) != m) = true := bne_iff_ne.2 (by omega)
    have HE := Lib.hid (show decide (xs = ys) = false from decide_eq_false (fun e => hnm (by rw [← hxl, ← hyl, e])))
    clear hnm hx hy hxl hyl
    go_enter Try.func59, Try.ntmps59
    go_wp2
    go_ret
    exact ⟨by rw [HE.out]; rfl, 0, rfl⟩

set_option maxRecDepth 100000 in
theorem ref15_same (a1 a2 : Option Addr) (n m c1 c2 : Nat) (xs ys : List Int) (w : World) (hx : Ints w a1 n c1 xs) (hy : Ints w a2 m c2 ys) :
    Calls Try.prog 46 #[.slice a1 n c1, .slice a2 m c2] w (SamePost w (decide (xs = ys))) := by
  have hm := hx.hm
  have hl := hx.le
  have hxl := hx.hl
  have hyl := hy.hl
  unfold maxLen at hm
  by_cases hnm : n = m
  · subst hnm
    have g1 : ((n : Int) != n) = false := by simp
    have HX := Lib.hid hx
    have HY := Lib.hid hy
    have HXL := Lib.hid hxl
    have HYL := Lib.hid hyl
    clear hx hy hxl hyl
    go_enter Try.func46, Try.ntmps46
    go_wp2_with fail
    go_loopw [5] (fun u wr => ∃ (i q : Nat), i ≤ n ∧ u = .int .i64 i ∧ wr = w.drewN q ∧ xs.take i = ys.take i) (fun u _ => n - (intOf u).toNat)
    case atStart => exact ⟨0, 0, Nat.zero_le _, rfl, rfl, rfl⟩
    case round =>
      obtain ⟨i, q, hi, rfl, rfl, ht⟩ := hrel
      have HT := Lib.hid ht
      clear ht
      by_cases hlt : i < n
      · obtain ⟨b1, o1, rfl, -, q1⟩ := HX.out.at_ hlt
        obtain ⟨b2, o2, rfl, -, q2⟩ := HY.out.at_ hlt
        have hii : (i : Int) < n := by omega
        have hii0 : (0 : Int) ≤ i := by omega
        by_cases he : xs.getD i 0 = ys.getD i 0
        · have HS := Lib.hid ((take_step (by rw [HXL.out]; exact hlt) (by rw [HYL.out]; exact hlt) HT.out).2 he)
          rw [he] at q1
          generalize ys.getD i 0 = y at *
          have g2 : (y != y) = false := by simp
          clear he
          go_wp2_with fail
          go_quiet (fail)
          go_wp2
          go_roundw
          case rel => exact ⟨i + 1, _, by omega, by go_num, rfl, HS.out⟩
          case measure => simp [intOf]; omega
        · have HNE := Lib.hid (show decide (xs = ys) = false from decide_eq_false (ne_of_at he))
          have g2 : (xs.getD i 0 != ys.getD i 0) = true := bne_iff_ne.2 he
          generalize xs.getD i 0 = x at *
          generalize ys.getD i 0 = y at *
          clear he
          go_wp2_with fail
          go_quiet (fail)
          go_wp2
          go_ret
          exact ⟨by rw [HNE.out]; rfl, q + nq, (World.drewN_drewN _ _ _).symm⟩
      · obtain rfl : i = n := by omega
        have HE := Lib.hid (show decide (xs = ys) = true by
          have h := HT.out
          rw [List.take_of_length_le (by rw [HXL.out]; exact Nat.le_refl _), List.take_of_length_le (by rw [HYL.out]; exact Nat.le_refl _)] at h
          exact decide_eq_true h)
        go_wp2
        go_ret
        exact ⟨by rw [HE.out]; rfl, q, rfl⟩
  · have g1 : ((n : Int) != m) = true := bne_iff_ne.2 (by omega)
    have HE := Lib.hid (show decide (xs = ys) = false from decide_eq_false (fun e => hnm (by rw [← hxl, ← hyl, e])))
    clear hnm hx hy hxl hyl
    go_enter Try.func46, Try.ntmps46
    go_wp2
    go_ret
    exact ⟨by rw [HE.out]; rfl, 0, rfl⟩
def NodeV.sameB (a b : NodeV) : Bool := (a.inner == b.inner) && (a.lo == b.lo) && decide (a.ends = b.ends) && decide (a.slots = b.slots) && decide (a.gaps = b.gaps)
theorem NodeV.sameB_iff (a b : NodeV) : a.sameB b = true ↔ a = b := by
  obtain ⟨x1, x2, x3, x4, x5⟩ := a
  obtain ⟨y1, y2, y3, y4, y5⟩ := b
  simp [NodeV.sameB, and_assoc]
set_option maxRecDepth 100000 in
set_option maxHeartbeats 1000000 in
theorem ref15_sameNode (n m : NodeV) (a1 a2 a3 : Option Addr) (c1 c2 c3 : Nat) (b1 b2 b3 : Option Addr) (d1 d2 d3 : Nat) (w : World) (hn : NodeR w n a1 a2 a3 c1 c2 c3) (hm : NodeR w m b1 b2 b3 d1 d2 d3) :
    Calls Try.prog 20 #[.agg (nodeCells n.inner n.lo a1 a2 a3 n.ends.length n.slots.length n.gaps.length c1 c2 c3), .agg (nodeCells m.inner m.lo b1 b2 b3 m.ends.length m.slots.length m.gaps.length d1 d2 d3)] w fun e w' =>
      e = .returned (.bool (n.sameB m)) ∧ Below w.heap.size w w' := by
  have hb : ∀ (o p : Obj) (q : Nat), Below w.heap.size w (((w.alloc o).alloc p).drewN q) := fun o p q => below_drewN (((Below.refl _ _).alloc (Nat.le_refl _) _).alloc (by simp) _) q
  have HB := Lib.hid hb
  have HE := Lib.hid (fun (w1 : World) (hw : Below w.heap.size w w1) => ref15_same a1 b1 n.ends.length m.ends.length c1 d1 n.ends m.ends w1 (hn.below hw).e (hm.below hw).e)
  have HS := Lib.hid (fun (w1 : World) (hw : Below w.heap.size w w1) => ref15_same a2 b2 n.slots.length m.slots.length c2 d2 n.slots m.slots w1 (hn.below hw).s (hm.below hw).s)
  have HG := Lib.hid (fun (w1 : World) (hw : Below w.heap.size w w1) => ref15_same a3 b3 n.gaps.length m.gaps.length c3 d3 n.gaps m.gaps w1 (hn.below hw).g (hm.below hw).g)
  have HR := Lib.hid (show n.sameB m = ((n.inner == m.inner) && (n.lo == m.lo) && decide (n.ends = m.ends) && decide (n.slots = m.slots) && decide (n.gaps = m.gaps)) from rfl)
  unfold nodeCells
  clear hn hm hb
  generalize n.ends.length = k1 at *
  generalize n.slots.length = k2 at *
  generalize n.gaps.length = k3 at *
  generalize m.ends.length = l1 at *
  generalize m.slots.length = l2 at *
  generalize m.gaps.length = l3 at *
  generalize n.inner = x1 at *
  generalize m.inner = y1 at *
  generalize n.lo = x2 at *
  generalize m.lo = y2 at *
  generalize decide (n.ends = m.ends) = r1 at *
  generalize decide (n.slots = m.slots) = r2 at *
  generalize decide (n.gaps = m.gaps) = r3 at *
  generalize hx : (x1 == y1) = q1 at *
  generalize hy : (x2 == y2) = q2 at *
  cases q1 with
  | false =>
    go_enter Try.func20, Try.ntmps20
    go_wp2
    go_ret
    exact ⟨ret_bool (by rw [HR.out]; rfl), HB.out _ _ 0⟩
  | true =>
    cases q2 with
    | false =>
      go_enter Try.func20, Try.ntmps20
      go_wp2
      go_ret
      exact ⟨ret_bool (by rw [HR.out]; rfl), HB.out _ _ 0⟩
    | true =>
      cases r1 with
      | false =>
        go_enter Try.func20, Try.ntmps20
        go_wp2_with fail
        refine (HE.out _ (HB.out _ _ 0)).mono ?_
        rintro e w1 ⟨rfl, z1, rfl⟩
        go_wp2
        go_ret
        exact ⟨ret_bool (by rw [HR.out]; rfl), HB.out _ _ _⟩
      | true =>
        cases r2 with
        | false =>
          go_enter Try.func20, Try.ntmps20
          go_wp2_with fail
          refine (HE.out _ (HB.out _ _ 0)).mono ?_
          rintro e w1 ⟨rfl, z1, rfl⟩
          go_wp2_with fail
          refine (HS.out _ (HB.out _ _ z1)).mono ?_
          rintro e w1 ⟨rfl, z2, rfl⟩
          go_wp2
          go_ret
          exact ⟨ret_bool (by rw [HR.out]; rfl), HB.out _ _ _⟩
        | true =>
          go_enter Try.func20, Try.ntmps20
          go_wp2_with fail
          refine (HE.out _ (HB.out _ _ 0)).mono ?_
          rintro e w1 ⟨rfl, z1, rfl⟩
          go_wp2_with fail
          refine (HS.out _ (HB.out _ _ z1)).mono ?_
          rintro e w1 ⟨rfl, z2, rfl⟩
          go_wp2_with fail
          refine (HG.out _ (HB.out _ _ _)).mono ?_
          rintro e w1 ⟨rfl, z3, rfl⟩
          go_wp2
          go_ret
          exact ⟨ret_bool (by rw [HR.out]; rfl), HB.out _ _ _⟩
set_option maxRecDepth 100000 in
set_option maxHeartbeats 2000000 in
theorem ref15_formed (n : NodeV) (a1 a2 a3 : Option Addr) (c1 c2 c3 : Nat) (w : World) (h : NodeR w n a1 a2 a3 c1 c2 c3) :
    Calls Try.prog 21 #[.agg (nodeCells n.inner n.lo a1 a2 a3 n.ends.length n.slots.length n.gaps.length c1 c2 c3)] w fun e w' => e = .returned (.bool n.formedB) ∧ Below w.heap.size w w' := by
  have hb : ∀ o : Obj, Below w.heap.size w (w.alloc o) := fun o => (Below.refl _ _).alloc (Nat.le_refl _) _
  have hm := h.e.hm
  have hl := h.e.le
  unfold maxLen at hm
  cases hh : n.headB with
  | false =>
    obtain ⟨hf, hcase⟩ := NodeV.not_head hh
    rw [hf]
    clear hf hh h
    unfold nodeCells
    obtain ⟨inner, lo, ends, slots, gaps⟩ := n
    simp only at hcase hl ⊢
    generalize ends.length = k1 at *
    generalize slots.length = k2 at *
    generalize gaps.length = k3 at *
    rcases hcase with h1 | h1 | ⟨h1, h2, h3⟩ | ⟨h1, h2, rfl, h3⟩ | ⟨h1, h2, rfl, rfl, h3⟩ | ⟨h1, h2, rfl, rfl, h3, h4⟩
    · have g1 : (k1 : Int) < 1 := by omega
      go_enter Try.func21, Try.ntmps21
      go_wp2
      go_ret
      exact ⟨rfl, hb _⟩
    · have g1 : ¬ (k1 : Int) < 1 := by omega
      have g2 : (8 : Int) < k1 := by omega
      go_enter Try.func21, Try.ntmps21
      go_wp2
      go_ret
      exact ⟨rfl, hb _⟩
    · have g1 : ¬ (k1 : Int) < 1 := by omega
      have g2 : ¬ (8 : Int) < k1 := by omega
      have g3 : ((k2 : Int) != k1) = true := bne_iff_ne.2 (by omega)
      clear h3
      go_enter Try.func21, Try.ntmps21
      go_wp2
      go_ret
      exact ⟨rfl, hb _⟩
    · have g1 : ¬ (k2 : Int) < 1 := by omega
      have g2 : ¬ (8 : Int) < k2 := by omega
      have g3 : ((k2 : Int) != k2) = false := by simp
      have g4 : ((k3 : Int) != k2) = true := bne_iff_ne.2 (by omega)
      clear h3
      go_enter Try.func21, Try.ntmps21
      go_wp2
      go_ret
      exact ⟨rfl, hb _⟩
    · have g1 : ¬ (k3 : Int) < 1 := by omega
      have g2 : ¬ (8 : Int) < k3 := by omega
      have g3 : ((k3 : Int) != k3) = false := by simp
      go_enter Try.func21, Try.ntmps21
      go_wp2
      go_ret
      exact ⟨rfl, hb _⟩
    · have g1 : ¬ (k3 : Int) < 1 := by omega
      have g2 : ¬ (8 : Int) < k3 := by omega
      have g3 : ((k3 : Int) != k3) = false := by simp
      have g4 : (lo % 4096 != 0) = true := bne_iff_ne.2 h4
      clear h4
      go_enter Try.func21, Try.ntmps21
      go_wp2
      go_ret
      exact ⟨rfl, hb _⟩
  | true =>
    obtain ⟨h1, h2, h3, h4, h5, h6⟩ := (NodeV.headB_iff n).1 hh
    have HF := Lib.hid (NodeV.formed_chainM hh)
    obtain ⟨k, hk⟩ : ∃ k, n.ends.length = k := ⟨_, rfl⟩
    obtain ⟨b1, o1, ha1, l1, -⟩ := h.e.at_ (j := 0) (by omega)
    obtain ⟨b2, o2, ha2, l2, -⟩ := h.s.at_ (j := 0) (by omega)
    obtain ⟨b3, o3, ha3, l3, -⟩ := h.g.at_ (j := 0) (by omega)
    have HH := Lib.hid h
    have H3 := Lib.hid h3
    have H4 := Lib.hid h4
    have HK := Lib.hid hk
    have g1 : ¬ (k : Int) < 1 := by omega
    have g2 : ¬ (8 : Int) < (k : Int) := by omega
    have g3 : ((k : Int) != (k : Int)) = false := by simp
    have g4 : (n.lo % 4096 != 0) = false := by rw [h6]; rfl
    have g0 : decide (n.lo < 65536) = false := decide_eq_false (by omega)
    rw [h3, h4, hk]
    rw [hk] at hl
    clear h hh h1 h2 h3 h4 h6 hk
    subst ha1 ha2 ha3
    have HCA := Lib.hid (fun (i : Nat) (hi : i < k) => n.chainM_at H3.out H4.out (i := i) (by rw [HK.out]; exact hi))
    have HCE := Lib.hid (fun (i : Nat) (hi : i < k) (wr : World) (hw : Below w.heap.size w wr) => And.intro ((HH.out.below hw).e.at_ (j := i) (by rw [HK.out]; exact hi)) (And.intro ((HH.out.below hw).s.at_ (j := i) (by rw [H3.out, HK.out]; exact hi)) (And.intro ((HH.out.below hw).g.at_ (j := i) (by rw [H4.out, HK.out]; exact hi)) (bounds_i64 (HH.out.e.wf_at (i := i) (by rw [HK.out]; exact hi))))))
    have HLO := Lib.hid h5
    unfold nodeCells
    rw [HF.out]
    obtain ⟨R, hR⟩ : ∃ R, chainM n.inner n.lo n.ends n.slots n.gaps = R := ⟨_, rfl⟩
    rw [hR]
    have HR0 := Lib.hid hR.symm
    obtain ⟨inn, hinn⟩ : ∃ inn, inn = n.inner := ⟨_, rfl⟩
    rw [← hinn]
    have HI := Lib.hid hinn
    clear HF hR hinn
    cases inn with
    | true =>
      have hB0 := Blk.new w 43 (nodeCells true n.lo (some ⟨b1, o1, none⟩) (some ⟨b2, o2, none⟩) (some ⟨b3, o3, none⟩) k k k c1 c2 c3)
      go_enter Try.func21, Try.ntmps21
      go_upto_region 4 with fail
      have hw1 := hb (.cells (nodeCells true n.lo (some ⟨b1, o1, none⟩) (some ⟨b2, o2, none⟩) (some ⟨b3, o3, none⟩) k k k c1 c2 c3) 43)
      unfold nodeCells at hw1 hB0
      generalize w.alloc (.cells #[.bool true, .int .i64 n.lo, .slice (some ⟨b1, o1, none⟩) k c1, .slice (some ⟨b2, o2, none⟩) k c2, .slice (some ⟨b3, o3, none⟩) k c3] 43) = w1 at *
      obtain ⟨nb, hnb⟩ : ∃ nb, w.heap.size = nb := ⟨_, rfl⟩
      rw [hnb] at hB0
      rw [hnb]
      have HNB := Lib.hid hnb
      clear hnb
      have t1 := hB0.at_ (i := 1) rfl
      simp only [List.getElem_toArray, List.getElem_cons_succ, List.getElem_cons_zero] at t1
      go_wp2_with fail
      have t0 := hB0.at_ (i := 0) rfl
      have t2 := hB0.at_ (i := 2) rfl
      have t3 := hB0.at_ (i := 3) rfl
      have t4 := hB0.at_ (i := 4) rfl
      simp only [List.getElem_toArray, List.getElem_cons_succ, List.getElem_cons_zero] at t0 t2 t3 t4
      have HCW := Lib.hid (fun (i : Nat) (hi : i < k) => HCE.out i hi w1 hw1)
      have HW1 := Lib.hid hw1
      clear hB0 hw1 HCE HH
      go_loop [4, 5] (fun v u => ∃ i : Nat, i ≤ k ∧ u = .int .i64 i ∧ v = .int .i64 (n.from_ i) ∧ 0 ≤ n.from_ i ∧
        R = chainM n.inner (n.from_ i) (n.ends.drop i) (n.slots.drop i) (n.gaps.drop i)) (fun _ u => k - (intOf u).toNat)
      case atStart => exact ⟨0, Nat.zero_le _, rfl, rfl, by show 0 ≤ n.lo; have := HLO.out; omega, HR0.out⟩
      case round =>
        obtain ⟨i, hi, rfl, rfl, hf0, hch⟩ := hrel
        have HCH := Lib.hid hch
        clear hch
        by_cases hlt : i < k
        · have hii : (i : Int) < (k : Int) := by omega
          have hii0 : (0 : Int) ≤ i := by omega
          obtain ⟨⟨b1', o1', e1, -, q1⟩, ⟨b2', o2', e2, -, q2⟩, ⟨b3', o3', e3, -, q3⟩, be⟩ := HCW.out i hlt
          obtain ⟨rfl, rfl⟩ : b1' = b1 ∧ o1' = o1 := by simpa using e1.symm
          obtain ⟨rfl, rfl⟩ : b2' = b2 ∧ o2' = o2 := by simpa using e2.symm
          obtain ⟨rfl, rfl⟩ : b3' = b3 ∧ o3' = o3 := by simpa using e3.symm
          have HCA1 := Lib.hid (HCA.out i hlt)
          have HFS := Lib.hid (n.from_succ i)
          clear e1 e2 e3
          generalize n.from_ i = f at *
          generalize n.ends.getD i 0 = e at *
          generalize n.slots.getD i 0 = hh at *
          generalize n.gaps.getD i 0 = g at *
          have HYES := Lib.hid (fun (h : entryM true e hh g f = true) => show R = chainM n.inner (n.from_ (i + 1)) (n.ends.drop (i + 1)) (n.slots.drop (i + 1)) (n.gaps.drop (i + 1)) by rw [HCH.out, HCA1.out, show n.inner = true from HI.out.symm, h]; rfl)
          have HNO := Lib.hid (fun (h : entryM true e hh g f = false) => show R = false by rw [HCH.out, HCA1.out, show n.inner = true from HI.out.symm, h]; rfl)
          go_wp2
          all_goals first
            | (go_ret
               exact ⟨by rw [HNO.out (by clear HNO HYES HCA1 HCH HFS HCW HCA; simp_all [entryM, entryB] <;> omega)]; rfl, HW1.out⟩)
            | (go_round
               case rel => exact ⟨i + 1, by omega, by go_num, by rw [HFS.out] <;> rfl, by rw [HFS.out]; omega, HYES.out (by clear HNO HYES HCA1 HCH HFS HCW HCA; simp_all [entryM, entryB] <;> omega)⟩
               case measure => simp [intOf]; omega)
        · obtain rfl : i = k := by omega
          have HR := Lib.hid (show R = true by rw [HCH.out]; exact n.chainM_end (by rw [HK.out]; exact Nat.le_refl _) _)
          go_wp2
          go_ret
          exact ⟨by rw [HR.out]; rfl, HW1.out⟩
    | false =>
      have hB0 := Blk.new w 43 (nodeCells false n.lo (some ⟨b1, o1, none⟩) (some ⟨b2, o2, none⟩) (some ⟨b3, o3, none⟩) k k k c1 c2 c3)
      go_enter Try.func21, Try.ntmps21
      go_upto_region 4 with fail
      have hw1 := hb (.cells (nodeCells false n.lo (some ⟨b1, o1, none⟩) (some ⟨b2, o2, none⟩) (some ⟨b3, o3, none⟩) k k k c1 c2 c3) 43)
      unfold nodeCells at hw1 hB0
      generalize w.alloc (.cells #[.bool false, .int .i64 n.lo, .slice (some ⟨b1, o1, none⟩) k c1, .slice (some ⟨b2, o2, none⟩) k c2, .slice (some ⟨b3, o3, none⟩) k c3] 43) = w1 at *
      obtain ⟨nb, hnb⟩ : ∃ nb, w.heap.size = nb := ⟨_, rfl⟩
      rw [hnb] at hB0
      rw [hnb]
      have HNB := Lib.hid hnb
      clear hnb
      have t1 := hB0.at_ (i := 1) rfl
      simp only [List.getElem_toArray, List.getElem_cons_succ, List.getElem_cons_zero] at t1
      go_wp2_with fail
      have t0 := hB0.at_ (i := 0) rfl
      have t2 := hB0.at_ (i := 2) rfl
      have t3 := hB0.at_ (i := 3) rfl
      have t4 := hB0.at_ (i := 4) rfl
      simp only [List.getElem_toArray, List.getElem_cons_succ, List.getElem_cons_zero] at t0 t2 t3 t4
      have HCW := Lib.hid (fun (i : Nat) (hi : i < k) => HCE.out i hi w1 hw1)
      have HW1 := Lib.hid hw1
      clear hB0 hw1 HCE HH
      go_loop [4, 5] (fun v u => ∃ i : Nat, i ≤ k ∧ u = .int .i64 i ∧ v = .int .i64 (n.from_ i) ∧ 0 ≤ n.from_ i ∧
        R = chainM n.inner (n.from_ i) (n.ends.drop i) (n.slots.drop i) (n.gaps.drop i)) (fun _ u => k - (intOf u).toNat)
      case atStart => exact ⟨0, Nat.zero_le _, rfl, rfl, by show 0 ≤ n.lo; have := HLO.out; omega, HR0.out⟩
      case round =>
        obtain ⟨i, hi, rfl, rfl, hf0, hch⟩ := hrel
        have HCH := Lib.hid hch
        clear hch
        by_cases hlt : i < k
        · have hii : (i : Int) < (k : Int) := by omega
          have hii0 : (0 : Int) ≤ i := by omega
          obtain ⟨⟨b1', o1', e1, -, q1⟩, ⟨b2', o2', e2, -, q2⟩, ⟨b3', o3', e3, -, q3⟩, be⟩ := HCW.out i hlt
          obtain ⟨rfl, rfl⟩ : b1' = b1 ∧ o1' = o1 := by simpa using e1.symm
          obtain ⟨rfl, rfl⟩ : b2' = b2 ∧ o2' = o2 := by simpa using e2.symm
          obtain ⟨rfl, rfl⟩ : b3' = b3 ∧ o3' = o3 := by simpa using e3.symm
          have HCA1 := Lib.hid (HCA.out i hlt)
          have HFS := Lib.hid (n.from_succ i)
          clear e1 e2 e3
          generalize n.from_ i = f at *
          generalize n.ends.getD i 0 = e at *
          generalize n.slots.getD i 0 = hh at *
          generalize n.gaps.getD i 0 = g at *
          have HYES := Lib.hid (fun (h : entryM false e hh g f = true) => show R = chainM n.inner (n.from_ (i + 1)) (n.ends.drop (i + 1)) (n.slots.drop (i + 1)) (n.gaps.drop (i + 1)) by rw [HCH.out, HCA1.out, show n.inner = false from HI.out.symm, h]; rfl)
          have HNO := Lib.hid (fun (h : entryM false e hh g f = false) => show R = false by rw [HCH.out, HCA1.out, show n.inner = false from HI.out.symm, h]; rfl)
          go_wp2
          all_goals first
            | (go_ret
               exact ⟨by rw [HNO.out (by clear HNO HYES HCA1 HCH HFS HCW HCA; simp_all [entryM, entryB] <;> omega)]; rfl, HW1.out⟩)
            | (go_round
               case rel => exact ⟨i + 1, by omega, by go_num, by rw [HFS.out] <;> rfl, by rw [HFS.out]; omega, HYES.out (by clear HNO HYES HCA1 HCH HFS HCW HCA; simp_all [entryM, entryB] <;> omega)⟩
               case measure => simp [intOf]; omega)
        · obtain rfl : i = k := by omega
          have HR := Lib.hid (show R = true by rw [HCH.out]; exact n.chainM_end (by rw [HK.out]; exact Nat.le_refl _) _)
          go_wp2
          go_ret
          exact ⟨by rw [HR.out]; rfl, HW1.out⟩
end Go.Proofs.Ytohidmkfpaiklaa
