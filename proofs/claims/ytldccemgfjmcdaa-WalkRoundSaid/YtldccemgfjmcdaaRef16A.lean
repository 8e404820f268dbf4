/- The reference of layer 16: Area, of a slot's words. -/
import Derived.Test.YtldccemgfjmcdaaLaw16
namespace Go.Proofs.Ytldccemgfjmcdaa
open Go.RowKit
set_option linter.unusedSimpArgs false
set_option linter.unusedVariables false

theorem ints_all {w : World} {a : Option Addr} {n cap : Nat} {xs : List Int} (h : Ints w a n cap xs) (hn : 0 < n) :
    ∃ b o, a = some ⟨b, o, none⟩ ∧ b < w.heap.size ∧ ∀ w', Below w.heap.size w w' → ∀ j, j < n → w'.cell? ⟨b, o + j, none⟩ = some (.int .i64 (xs.getD j 0)) := by
  obtain ⟨b, o, rfl, hlt, -⟩ := h.at_ hn
  refine ⟨b, o, rfl, hlt, fun w' hb j hj => ?_⟩
  obtain ⟨b', o', e, -, hc⟩ := (h.below hb (Nat.le_refl _)).at_ hj
  injection e with e
  injection e with e1 e2
  subst e1 e2
  exact hc
theorem Row.wordI {w : World} {g n cap i : Nat} {ys : List Int} (h : Row w 2 1 g n cap (i64s ys)) (hi : i < ys.length) : w.cell? ⟨g, i, none⟩ = some (.int .i64 (ys.getD i 0)) :=
  h.cell (by unfold i64s; rw [List.getElem?_map, List.getElem?_eq_getElem hi, List.getD_eq_getElem?_getD, List.getElem?_eq_getElem hi]; rfl)
theorem pack_take (a : AreaV) (d : Bool) : (a.pack d).take 8 = [3, numB d, a.start, a.stop, a.prot, numB a.shared, a.back, a.off] := by simp [AreaV.pack]
theorem take8 {x : List Int} (h : x.length = 28) : x.take 8 = [x.getD 0 0, x.getD 1 0, x.getD 2 0, x.getD 3 0, x.getD 4 0, x.getD 5 0, x.getD 6 0, x.getD 7 0] := by
  match x, h with
  | x0 :: x1 :: x2 :: x3 :: x4 :: x5 :: x6 :: x7 :: l, _ => simp
/-- The answer, by the words of the area that is made of them. -/
theorem areaAns_eq {x : List Int} (h : x.length = 28) : areaAns (x.take 8) = if (areaOf x).formedB = true ∧ ((areaOf x).pack (deadOf x)).take 8 = x.take 8 then (areaOf x, deadOf x, true) else (⟨0, 0, 0, false, 0, 0⟩, false, false) := by
  have h1 : areaOf (x.take 8 ++ zeros 20) = areaOf x := by rw [take8 h]; simp [areaOf]
  have h2 : deadOf (x.take 8 ++ zeros 20) = deadOf x := by rw [take8 h]; simp [deadOf]
  have h3 : (x.take 8 ++ zeros 20).length = 28 := by simp [zeros]; omega
  have h4 : ∀ a d, (AreaV.pack a d = x.take 8 ++ zeros 20) ↔ (a.pack d).take 8 = x.take 8 := by
    intro a d
    rw [pack_take]
    unfold AreaV.pack
    constructor
    · intro e
      exact List.append_cancel_right e
    · intro e
      rw [e]
  unfold areaAns unpackA
  rw [h1, h2]
  by_cases hc : (areaOf x).formedB = true ∧ ((areaOf x).pack (deadOf x)).take 8 = x.take 8
  · rw [if_pos hc, if_pos ⟨h3, hc.1, (h4 _ _).2 hc.2⟩]
  · rw [if_neg hc, if_neg (fun hh => hc ⟨hh.2.1, (h4 _ _).1 hh.2.2⟩)]
theorem take_all_eq {x y : List Int} {n : Nat} (hx : n ≤ x.length) (hy : n ≤ y.length) (h : ∀ j, j < n → x.getD j 0 = y.getD j 0) : x.take n = y.take n := by
  apply List.ext_getElem
  · simp; omega
  · intro j h1 h2
    have hj : j < n := by simp at h1; omega
    have := h j hj
    simp only [List.getD_eq_getElem?_getD] at this
    rw [List.getElem?_eq_getElem (by omega), List.getElem?_eq_getElem (by omega)] at this
    simpa using this
def AreaPost (w : World) (x : List Int) (e : Ending) (w' : World) : Prop :=
  e = .returned (.tuple #[.agg (areaCells (areaAns (x.take 8)).1), .bool (areaAns (x.take 8)).2.1, .bool (areaAns (x.take 8)).2.2]) ∧ Below w.heap.size w w'
set_option maxRecDepth 100000 in
set_option maxHeartbeats 4000000 in
theorem ref16_area (a : Option Addr) (cap : Nat) (x : List Int) (w : World) (h : Ints w a 28 cap x) :
    Calls Try.prog 29 #[.slice a 28 cap] w (AreaPost w x) := by
  have hle := h.le
  have hm := h.hm
  unfold maxLen at hm
  have HEQ := Lib.hid (areaAns_eq h.hl)
  have HLEN := Lib.hid h.hl
  obtain ⟨b, o, rfl, hlt, hc⟩ := ints_all h (by decide)
  have HC := Lib.hid hc
  have HOK := Lib.hid (show AreaV.Ok ⟨x.getD 2 0, x.getD 3 0, x.getD 4 0, x.getD 5 0 == 1, x.getD 6 0, x.getD 7 0⟩ from ⟨h.wf_at (by decide), h.wf_at (by decide), h.wf_at (by decide), h.wf_at (by decide), h.wf_at (by decide)⟩)
  have HOF := Lib.hid (show areaOf x = ⟨x.getD 2 0, x.getD 3 0, x.getD 4 0, x.getD 5 0 == 1, x.getD 6 0, x.getD 7 0⟩ from rfl)
  have HDF := Lib.hid (show deadOf x = (x.getD 1 0 == 1) from rfl)
  have HB := Lib.hid (Below.refl w.heap.size w)
  clear h hc hlt
  go_enter Try.func29, Try.ntmps29
  replace HB := Lib.hid (below_thru HB.out (below_alloc0 w (.cells #[.int .i64 0, .int .i64 0, .int .i64 0, .bool false, .int .i64 0, .int .i64 0] 57)))
  have HRB := Lib.hid (Blk.new w 57 #[.int .i64 0, .int .i64 0, .int .i64 0, .bool false, .int .i64 0, .int .i64 0])
  go_upto_region 1 with fail
  have HZ := Lib.hid (World.size_alloc w (.cells #[.int .i64 0, .int .i64 0, .int .i64 0, .bool false, .int .i64 0, .int .i64 0] 57))
  obtain ⟨rb, hrb⟩ : ∃ x, w.heap.size = x := ⟨_, rfl⟩
  simp only [hrb] at HRB HZ ⊢
  replace hrb := Lib.hid hrb
  generalize w.alloc (.cells #[.int .i64 0, .int .i64 0, .int .i64 0, .bool false, .int .i64 0, .int .i64 0] 57) = w1 at *
  have p1 := HC.out w1 HB.out 1 (by decide)
  have p2 := HC.out w1 HB.out 2 (by decide)
  have p3 := HC.out w1 HB.out 3 (by decide)
  have p4 := HC.out w1 HB.out 4 (by decide)
  have p5 := HC.out w1 HB.out 5 (by decide)
  have p6 := HC.out w1 HB.out 6 (by decide)
  have p7 := HC.out w1 HB.out 7 (by decide)
  obtain ⟨x1, hx1⟩ : ∃ y, x.getD 1 0 = y := ⟨_, rfl⟩
  rw [hx1] at HDF
  have HX1 := Lib.hid hx1
  clear hx1
  generalize x.getD 2 0 = x2 at *
  generalize x.getD 3 0 = x3 at *
  generalize x.getD 4 0 = x4 at *
  generalize x.getD 5 0 = y5 at *
  generalize x.getD 6 0 = x6 at *
  generalize x.getD 7 0 = x7 at *
  obtain ⟨x5, hx5⟩ : ∃ b, (y5 == 1) = b := ⟨_, rfl⟩
  rw [hx5] at HOF HOK
  have n2 := World.new_ne w1 _ p2
  have n3 := World.new_ne w1 _ p3
  have n4 := World.new_ne w1 _ p4
  have n5 := World.new_ne w1 _ p5
  have n6 := World.new_ne w1 _ p6
  have n7 := World.new_ne w1 _ p7
  go_region_held3 (fun x => x.cell? ⟨b, o + 2, none⟩ = some (.int .i64 x2) ∧ x.cell? ⟨b, o + 3, none⟩ = some (.int .i64 x3) ∧ x.cell? ⟨b, o + 4, none⟩ = some (.int .i64 x4) ∧ x.cell? ⟨b, o + 5, none⟩ = some (.int .i64 y5) ∧ x.cell? ⟨b, o + 6, none⟩ = some (.int .i64 x6) ∧ x.cell? ⟨b, o + 7, none⟩ = some (.int .i64 x7)) (go_keep) (first | fail)
  clear p1 p2 p3 p4 p5 p6 p7 n2 n3 n4 n5 n6 n7 hx5
  replace HB := Lib.hid (below_thru HB.out (below_alloc0 w1 (.cells #[.int .i64 x2, .int .i64 x3, .int .i64 x4, .bool x5, .int .i64 x6, .int .i64 x7] 57)))
  replace HRB := Lib.hid (HRB.out.thru (below_alloc0 w1 (.cells #[.int .i64 x2, .int .i64 x3, .int .i64 x4, .bool x5, .int .i64 x6, .int .i64 x7] 57)))
  have HNB := Lib.hid (Blk.new w1 57 #[.int .i64 x2, .int .i64 x3, .int .i64 x4, .bool x5, .int .i64 x6, .int .i64 x7])
  rw [HZ.out] at HNB
  try simp only [HZ.out]
  replace HZ := Lib.hid (show (w1.alloc (.cells #[.int .i64 x2, .int .i64 x3, .int .i64 x4, .bool x5, .int .i64 x6, .int .i64 x7] 57)).heap.size = rb + 1 + 1 by rw [World.size_alloc, HZ.out])
  generalize w1.alloc (.cells #[.int .i64 x2, .int .i64 x3, .int .i64 x4, .bool x5, .int .i64 x6, .int .i64 x7] 57) = w2 at *
  replace HB := Lib.hid (below_thru HB.out (show Below w2.heap.size w2 w2.drew from below_drewN0 w2 1))
  replace HRB := Lib.hid (HRB.out.thru (show Below w2.heap.size w2 w2.drew from below_drewN0 w2 1))
  replace HNB := Lib.hid (HNB.out.thru (show Below w2.heap.size w2 w2.drew from below_drewN0 w2 1))
  generalize w2.drew = w3 at *
  clear HZ
  have p1 := HC.out w3 HB.out 1 (by decide)
  rw [HX1.out] at p1
  obtain ⟨dd, hdd⟩ : ∃ d, (x1 == 1) = d := ⟨_, rfl⟩
  rw [hdd] at HDF
  have HDD := Lib.hid hdd
  clear hdd
  go_upto_region 3 with fail
  rw [HDD.out]
  clear p1 HX1
  rw [HOF.out, HDF.out] at HEQ
  have HFO := ref15_area ⟨x2, x3, x4, x5, x6, x7⟩ w3 HOK.out
  have HPK := Lib.hid (fun w9 => ref15_packArea ⟨x2, x3, x4, x5, x6, x7⟩ dd w9 HOK.out)
  simp only [areaCells] at HFO HPK
  obtain ⟨k0, k1, k2, k3, k4, k5⟩ := HNB.out.at6
  cases hf : AreaV.formedB ⟨x2, x3, x4, x5, x6, x7⟩ with
  | false =>
    have HE0 := Lib.hid (show ∀ w9, Below w.heap.size w w9 → AreaPost w x (.returned (.tuple #[.agg #[.int .i64 0, .int .i64 0, .int .i64 0, .bool false, .int .i64 0, .int .i64 0], .bool false, .bool false])) w9 from fun w9 hb => by
      unfold AreaPost
      rw [HEQ.out, if_neg (by rw [hf]; simp)]
      exact ⟨rfl, hb⟩)
    rw [hf] at HFO
    have HFO' := Lib.hid HFO
    clear hf HFO HPK
    go_wp2_with fail
    refine (HFO'.out).mono ?_
    rintro e w4 ⟨rfl, hb⟩
    clear k0 k1 k2 k3 k4 k5
    replace HB := Lib.hid (below_thru HB.out hb)
    replace HRB := Lib.hid (HRB.out.thru hb)
    replace HNB := Lib.hid (HNB.out.thru hb)
    clear hb
    obtain ⟨k0, k1, k2, k3, k4, k5⟩ := HNB.out.at6
    obtain ⟨m0, m1, m2, m3, m4, m5⟩ := HRB.out.at6
    obtain ⟨f0, f1, f2, f3, f4, f5⟩ := HRB.out.fr6
    go_wp2
    have hz := HRB.out.put6 (.int .i64 0) (.int .i64 0) (.int .i64 0) (.bool false) (.int .i64 0) (.int .i64 0)
    have HBF := Lib.hid (put6_below HB.out (by rw [hrb.out]; exact Nat.le_refl _) (.int .i64 0) (.int .i64 0) (.int .i64 0) (.bool false) (.int .i64 0) (.int .i64 0))
    have hrun := run_loadVar_row (P := Try.prog) ((((((w4.setCell ⟨rb, 0, none⟩ (.int .i64 0)).setCell ⟨rb, 1, none⟩ (.int .i64 0)).setCell ⟨rb, 2, none⟩ (.int .i64 0)).setCell ⟨rb, 3, none⟩ (.bool false)).setCell ⟨rb, 4, none⟩ (.int .i64 0)).setCell ⟨rb, 5, none⟩ (.int .i64 0)) rb 57 57 #[.int .i64 0, .int .i64 0, .int .i64 0, .bool false, .int .i64 0, .int .i64 0] (0, 0) _ hz Try.underlying57 rfl h6
    generalize ((((((w4.setCell ⟨rb, 0, none⟩ (.int .i64 0)).setCell ⟨rb, 1, none⟩ (.int .i64 0)).setCell ⟨rb, 2, none⟩ (.int .i64 0)).setCell ⟨rb, 3, none⟩ (.bool false)).setCell ⟨rb, 4, none⟩ (.int .i64 0)).setCell ⟨rb, 5, none⟩ (.int .i64 0)) = wz at *
    exact bodyPost_ret (v := .tuple #[.agg #[.int .i64 0, .int .i64 0, .int .i64 0, .bool false, .int .i64 0, .int .i64 0], .bool false, .bool false]) (by simp [results, Try.results29, asAddr, hrun]) rfl (HE0.out _ HBF.out)
  | true =>
    rw [hf] at HFO
    have HFO' := Lib.hid HFO
    have HFT := Lib.hid hf
    clear hf HFO
    go_wp2_with fail
    refine (HFO'.out).mono ?_
    rintro e w4 ⟨rfl, hb⟩
    clear k0 k1 k2 k3 k4 k5
    replace HB := Lib.hid (below_thru HB.out hb)
    replace HRB := Lib.hid (HRB.out.thru hb)
    replace HNB := Lib.hid (HNB.out.thru hb)
    clear hb
    obtain ⟨k0, k1, k2, k3, k4, k5⟩ := HNB.out.at6
    go_wp2_with fail
    refine (HPK.out _).mono ?_
    rintro e w5 ⟨g, rfl, hg, hrow, hb⟩
    clear k0 k1 k2 k3 k4 k5
    replace HB := Lib.hid (below_thru HB.out hb)
    replace HRB := Lib.hid (HRB.out.thru hb)
    replace HNB := Lib.hid (HNB.out.thru hb)
    clear hb
    obtain ⟨k0, k1, k2, k3, k4, k5⟩ := HNB.out.at6
    have HROW := Lib.hid hrow
    clear hrow
    clear k0 k1 k2 k3 k4 k5
    go_wp2
    go_loopw [8] (fun v wr => ∃ i : Nat, i ≤ 8 ∧ v = .int .i64 i ∧ Below w.heap.size w wr ∧ Blk wr rb 57 #[.int .i64 0, .int .i64 0, .int .i64 0, .bool false, .int .i64 0, .int .i64 0] ∧ Blk wr (rb + 1) 57 #[.int .i64 x2, .int .i64 x3, .int .i64 x4, .bool x5, .int .i64 x6, .int .i64 x7] ∧ Row wr 2 1 g 28 28 (i64s (AreaV.pack ⟨x2, x3, x4, x5, x6, x7⟩ dd)) ∧ ∀ j, j < i → (AreaV.pack ⟨x2, x3, x4, x5, x6, x7⟩ dd).getD j 0 = x.getD j 0) (fun v _ => 8 - (intOf v).toNat)
    case atStart => exact ⟨0, Nat.zero_le _, rfl, HB.out, HRB.out, HNB.out, HROW.out, by intro j hj; omega⟩
    case round =>
      clear HB HRB HNB HROW
      obtain ⟨i, hi, rfl, hb, hrb2, hnb2, hrow, hall⟩ := hrel
      have HB := Lib.hid hb
      have HRB := Lib.hid hrb2
      have HNB := Lib.hid hnb2
      have HROW := Lib.hid hrow
      have HALL := Lib.hid hall
      clear hb hrb2 hnb2 hrow hall
      by_cases hlt8 : i < 8
      · have hpl : (AreaV.pack ⟨x2, x3, x4, x5, x6, x7⟩ dd).length = 28 := AreaV.pack_len _ _
        have c1 := HROW.out.wordI (i := i) (by omega)
        have c2 := HC.out wr HB.out i (by omega)
        have hi0 : (0 : Int) ≤ i := by omega
        have hi8 : (i : Int) < 28 := by omega
        by_cases he : (AreaV.pack ⟨x2, x3, x4, x5, x6, x7⟩ dd).getD i 0 = x.getD i 0
        · have hne : ((AreaV.pack ⟨x2, x3, x4, x5, x6, x7⟩ dd).getD i 0 != x.getD i 0) = false := by rw [bne_eq_false_iff_eq]; exact he
          have HE := Lib.hid he
          clear he hpl
          obtain ⟨u1, hu1⟩ : ∃ u, (AreaV.pack ⟨x2, x3, x4, x5, x6, x7⟩ dd).getD i 0 = u := ⟨_, rfl⟩
          obtain ⟨u2, hu2⟩ : ∃ u, x.getD i 0 = u := ⟨_, rfl⟩
          rw [hu1, hu2] at hne
          rw [hu1] at c1
          rw [hu2] at c2
          clear hu1 hu2
          go_upto_region 9 with fail
          go_quiet (fail)
          clear c1 c2
          replace HB := Lib.hid (below_thru HB.out (below_drewN0 wr nq))
          replace HRB := Lib.hid (HRB.out.thru (below_drewN0 wr nq))
          replace HNB := Lib.hid (HNB.out.thru (below_drewN0 wr nq))
          replace HROW := Lib.hid (HROW.out.thru (below_drewN0 wr nq))
          generalize wr.drewN nq = wq at *
          go_wp2
          go_roundw
          case rel => exact ⟨i + 1, by omega, by go_num, HB.out, HRB.out, HNB.out, HROW.out, by intro j hj; rcases Nat.lt_or_ge j i with h | h; exact HALL.out j h; rw [show j = i by omega]; exact HE.out⟩
          case measure => simp [intOf]; omega
        · have hne : ((AreaV.pack ⟨x2, x3, x4, x5, x6, x7⟩ dd).getD i 0 != x.getD i 0) = true := bne_iff_ne.2 he
          have HE0 := Lib.hid (show ∀ w9, Below w.heap.size w w9 → AreaPost w x (.returned (.tuple #[.agg #[.int .i64 0, .int .i64 0, .int .i64 0, .bool false, .int .i64 0, .int .i64 0], .bool false, .bool false])) w9 from fun w9 hb => by
            unfold AreaPost
            rw [HEQ.out, if_neg ?_]
            · exact ⟨rfl, hb⟩
            · rintro ⟨-, e⟩
              apply he
              have := congrArg (fun l => l.getD i 0) e
              simpa [List.getD_eq_getElem?_getD, List.getElem?_take, hlt8] using this)
          clear he hpl
          obtain ⟨u1, hu1⟩ : ∃ u, (AreaV.pack ⟨x2, x3, x4, x5, x6, x7⟩ dd).getD i 0 = u := ⟨_, rfl⟩
          obtain ⟨u2, hu2⟩ : ∃ u, x.getD i 0 = u := ⟨_, rfl⟩
          rw [hu1, hu2] at hne
          rw [hu1] at c1
          rw [hu2] at c2
          clear hu1 hu2
          go_upto_region 9 with fail
          go_quiet (fail)
          clear c1 c2
          replace HB := Lib.hid (below_thru HB.out (below_drewN0 wr nq))
          replace HRB := Lib.hid (HRB.out.thru (below_drewN0 wr nq))
          replace HNB := Lib.hid (HNB.out.thru (below_drewN0 wr nq))
          replace HROW := Lib.hid (HROW.out.thru (below_drewN0 wr nq))
          generalize wr.drewN nq = wq at *
          obtain ⟨m0, m1, m2, m3, m4, m5⟩ := HRB.out.at6
          obtain ⟨f0, f1, f2, f3, f4, f5⟩ := HRB.out.fr6
          go_wp2
          have hz := HRB.out.put6 (.int .i64 0) (.int .i64 0) (.int .i64 0) (.bool false) (.int .i64 0) (.int .i64 0)
          have HBF := Lib.hid (put6_below HB.out (by rw [hrb.out]; exact Nat.le_refl _) (.int .i64 0) (.int .i64 0) (.int .i64 0) (.bool false) (.int .i64 0) (.int .i64 0))
          have hrun := run_loadVar_row (P := Try.prog) ((((((wq.setCell ⟨rb, 0, none⟩ (.int .i64 0)).setCell ⟨rb, 1, none⟩ (.int .i64 0)).setCell ⟨rb, 2, none⟩ (.int .i64 0)).setCell ⟨rb, 3, none⟩ (.bool false)).setCell ⟨rb, 4, none⟩ (.int .i64 0)).setCell ⟨rb, 5, none⟩ (.int .i64 0)) rb 57 57 #[.int .i64 0, .int .i64 0, .int .i64 0, .bool false, .int .i64 0, .int .i64 0] (0, 0) _ hz Try.underlying57 rfl h6
          generalize ((((((wq.setCell ⟨rb, 0, none⟩ (.int .i64 0)).setCell ⟨rb, 1, none⟩ (.int .i64 0)).setCell ⟨rb, 2, none⟩ (.int .i64 0)).setCell ⟨rb, 3, none⟩ (.bool false)).setCell ⟨rb, 4, none⟩ (.int .i64 0)).setCell ⟨rb, 5, none⟩ (.int .i64 0)) = wz at *
          exact bodyPost_ret (v := .tuple #[.agg #[.int .i64 0, .int .i64 0, .int .i64 0, .bool false, .int .i64 0, .int .i64 0], .bool false, .bool false]) (by simp [results, Try.results29, asAddr, hrun]) rfl (HE0.out _ HBF.out)
      · obtain rfl : i = 8 := by omega
        have HE0 := Lib.hid (show ∀ w9, Below w.heap.size w w9 → AreaPost w x (.returned (.tuple #[.agg #[.int .i64 x2, .int .i64 x3, .int .i64 x4, .bool x5, .int .i64 x6, .int .i64 x7], .bool dd, .bool true])) w9 from fun w9 hb => by
          unfold AreaPost
          rw [HEQ.out, if_pos ⟨HFT.out, take_all_eq (by rw [AreaV.pack_len]; omega) (by rw [HLEN.out]; omega) HALL.out⟩]
          exact ⟨rfl, hb⟩)
        obtain ⟨k0, k1, k2, k3, k4, k5⟩ := HNB.out.at6
        obtain ⟨m0, m1, m2, m3, m4, m5⟩ := HRB.out.at6
        obtain ⟨f0, f1, f2, f3, f4, f5⟩ := HRB.out.fr6
        go_wp2
        have hz := HRB.out.put6 (.int .i64 x2) (.int .i64 x3) (.int .i64 x4) (.bool x5) (.int .i64 x6) (.int .i64 x7)
        have HBF := Lib.hid (put6_below HB.out (by rw [hrb.out]; exact Nat.le_refl _) (.int .i64 x2) (.int .i64 x3) (.int .i64 x4) (.bool x5) (.int .i64 x6) (.int .i64 x7))
        have hrun := run_loadVar_row (P := Try.prog) ((((((wr.setCell ⟨rb, 0, none⟩ (.int .i64 x2)).setCell ⟨rb, 1, none⟩ (.int .i64 x3)).setCell ⟨rb, 2, none⟩ (.int .i64 x4)).setCell ⟨rb, 3, none⟩ (.bool x5)).setCell ⟨rb, 4, none⟩ (.int .i64 x6)).setCell ⟨rb, 5, none⟩ (.int .i64 x7)) rb 57 57 #[.int .i64 x2, .int .i64 x3, .int .i64 x4, .bool x5, .int .i64 x6, .int .i64 x7] (0, 0) _ hz Try.underlying57 rfl h6
        generalize ((((((wr.setCell ⟨rb, 0, none⟩ (.int .i64 x2)).setCell ⟨rb, 1, none⟩ (.int .i64 x3)).setCell ⟨rb, 2, none⟩ (.int .i64 x4)).setCell ⟨rb, 3, none⟩ (.bool x5)).setCell ⟨rb, 4, none⟩ (.int .i64 x6)).setCell ⟨rb, 5, none⟩ (.int .i64 x7)) = wz at *
        exact bodyPost_ret (v := .tuple #[.agg #[.int .i64 x2, .int .i64 x3, .int .i64 x4, .bool x5, .int .i64 x6, .int .i64 x7], .bool dd, .bool true]) (by simp [results, Try.results29, asAddr, hrun]) rfl (HE0.out _ HBF.out)
end Go.Proofs.Ytldccemgfjmcdaa
