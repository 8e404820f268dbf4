/- Layer 7: the reference's Right. -/
import Derived.Test.YtohidmkfpaiklaaPage7
import Derived.Test.YtohidmkfpaiklaaRight7
namespace Go.Proofs.Ytohidmkfpaiklaa
open Go.RowKit
set_option linter.unusedSimpArgs false
set_option linter.unusedVariables false

/-- Of two formed areas that meet, the one behind goes on from the one ahead just if the pages do. -/
theorem goes_iff {b a : AreaV} (hb : b.formedB = true) (ha : a.formedB = true) (hm : b.stop = a.start) : decide ((b.at_ (b.stop / 4096 - 1)).next = a.at_ (a.start / 4096)) = b.goes a := by
  have fb := b.formed_iff.1 hb
  have fa := a.formed_iff.1 ha
  unfold AreaV.goes AttrV.next AreaV.at_ AreaV.offAt
  rw [hb, ha]
  obtain ⟨b0, b1, b2, b3, b4, b5⟩ := b
  obtain ⟨a0, a1, a2, a3, a4, a5⟩ := a
  simp only at *
  subst hm
  rw [Bool.eq_iff_iff]
  simp only [decide_eq_true_eq, AttrV.mk.injEq, Bool.true_and, Bool.and_eq_true, beq_iff_eq]
  have e1 : 4096 * (b1 / 4096 - b0 / 4096) = b1 - b0 := by omega
  by_cases hbk : 0 < b4
  · simp only [if_pos hbk, if_neg (show ¬ b4 = 0 by omega)]
    constructor
    · rintro ⟨rfl, rfl, rfl, h⟩
      simp only [if_pos hbk] at h
      exact ⟨⟨⟨⟨trivial, rfl⟩, rfl⟩, rfl⟩, by omega⟩
    · rintro ⟨⟨⟨⟨-, rfl⟩, rfl⟩, rfl⟩, h⟩
      simp only [if_pos hbk]
      refine ⟨?_, ?_, ?_, ?_⟩ <;> first | trivial | rfl | omega
  · have hb0 : b4 = 0 := by omega
    subst hb0
    simp only [Int.lt_irrefl, if_false, if_true]
    constructor
    · rintro ⟨rfl, rfl, rfl, h⟩
      exact ⟨⟨⟨⟨trivial, rfl⟩, rfl⟩, rfl⟩, by omega⟩
    · rintro ⟨⟨⟨⟨-, rfl⟩, rfl⟩, rfl⟩, h⟩
      refine ⟨?_, ?_, ?_, ?_⟩ <;> first | trivial | rfl | simp
theorem ahead_bd {b : AreaV} (hb : b.formedB = true) : 0 ≤ b.stop / 4096 - 1 ∧ b.stop / 4096 - 1 ≤ 600 ∧ b.hasPage (b.stop / 4096 - 1) = true ∧ 0 ≤ b.start / 4096 ∧ b.start / 4096 ≤ 600 ∧ b.hasPage (b.start / 4096) = true := by
  have fb := b.formed_iff.1 hb
  unfold AreaV.hasPage
  simp only [Bool.and_eq_true, decide_eq_true_eq]
  omega
theorem at_small {b : AreaV} (hb : b.formedB = true) {p : Int} (h0 : b.start / 4096 ≤ p) (h1 : p < b.stop / 4096) : 0 ≤ (b.at_ p).off ∧ (b.at_ p).off ≤ 1099511627776 := by
  have fb := b.formed_iff.1 hb
  unfold AreaV.at_
  simp only
  split <;> omega
theorem ret_v {a b : Bool} (h : b = a) : Value.bool a = Value.bool b := by rw [h]
theorem six7 {z : World} {g o : Nat} {a0 a1 a2 a4 a5 : Int} {a3 : Bool} (h : ∀ (j : Nat) (u : Value), (AreaV.cells ⟨a0, a1, a2, a3, a4, a5⟩)[j]? = some u → z.cell? ⟨g, o + j, none⟩ = some u) :
    z.cell? ⟨g, o, none⟩ = some (.int .i64 a0) ∧ z.cell? ⟨g, o + 1, none⟩ = some (.int .i64 a1) ∧ z.cell? ⟨g, o + 2, none⟩ = some (.int .i64 a2) ∧ z.cell? ⟨g, o + 3, none⟩ = some (.bool a3) ∧ z.cell? ⟨g, o + 4, none⟩ = some (.int .i64 a4) ∧ z.cell? ⟨g, o + 5, none⟩ = some (.int .i64 a5) :=
  ⟨h 0 _ rfl, h 1 _ rfl, h 2 _ rfl, h 3 _ rfl, h 4 _ rfl, h 5 _ rfl⟩
set_option maxRecDepth 100000 in
set_option maxHeartbeats 4000000 in
theorem ref07_right (la : Option Addr) (len cap : Nat) (zs : List AreaV) (w : World) (hz : ArgOf AreaV.cells 6 AreaV.Ok w la len cap zs) (hlen : len ≤ 1000) :
    Calls Try.prog 40 #[.slice la len cap] w fun e w' => e = .returned (.bool (rightB zs)) ∧ Below w.heap.size w w' := by
  have hzl := hz.hl
  have HZ := Lib.hid hz
  have HB := Lib.hid (Below.refl w.heap.size w)
  clear hz
  go_enter Try.func40, Try.ntmps40
  go_wp2_with fail
  go_loopw [3] (fun v wr => ∃ i : Nat, i ≤ len ∧ v = .int .i64 i ∧ (∀ k, k < i → okAt zs k = true) ∧ Below w.heap.size w wr) (fun v _ => len - (intOf v).toNat)
  case atStart => exact ⟨0, by omega, rfl, by omega, HB.out⟩
  case round =>
    clear HB
    obtain ⟨i, hi, rfl, hall, hlow⟩ := hrel
    by_cases hlt : i < len
    · have hlti : (i : Int) < len := by omega
      obtain ⟨lb, lo, a, rfl, hlb, ha, hok, hcell⟩ := (HZ.out.below hlow (Nat.le_refl _)).at_ hlt
      have haD : zs.getD i .zero = a := by rw [List.getD_eq_getElem?_getD, ha]; rfl
      have HFO := Lib.hid (fun w => ref06_formed a w hok)
      have HBD := Lib.hid (fun (h : okAt zs i = false) => rightB_bad (by rw [hzl]; exact hlt) h)
      have HGD := Lib.hid (fun (h : okAt zs i = true) (k : Nat) (hk : k < i + 1) => if e : k = i then (e ▸ h : okAt zs k = true) else hall k (by omega))
      have HALL := Lib.hid hall
      have HLOW := Lib.hid hlow
      obtain ⟨fa, hfa⟩ : ∃ fa, a.formedB = fa := ⟨_, rfl⟩
      rw [hfa] at HFO
      have HFA := Lib.hid hfa
      have HAD := Lib.hid haD
      have HCELL := Lib.hid hcell
      have HLB := Lib.hid hlb
      have x0 := hcell 0 _ rfl
      have x1 := hcell 1 _ rfl
      have x2 := hcell 2 _ rfl
      have x3 := hcell 3 _ rfl
      have x4 := hcell 4 _ rfl
      have x5 := hcell 5 _ rfl
      simp only [Nat.add_zero] at x0
      clear hcell hfa haD ha hall hok hlb hlow hzl
      cases fa with
      | false =>
        go_wp2_with fail
        refine (HFO.out _).mono ?_
        rintro e w1 ⟨rfl, hb⟩
        clear x0 x1 x2 x3 x4 x5
        go_wp2
        go_ret
        exact ⟨ret_goes (by rw [HBD.out (by unfold okAt; rw [HAD.out, HFA.out]; rfl)]), below_thru HLOW.out hb⟩
      | true =>
        go_wp2_with fail
        refine (HFO.out _).mono ?_
        rintro e w1 ⟨rfl, hb⟩
        clear x0 x1 x2 x3 x4 x5
        have HL1 := Lib.hid (below_thru HLOW.out hb)
        have HB1 := Lib.hid hb
        clear hb
        cases i with
        | zero =>
          go_wp2_with fail
          go_roundw
          case rel => exact ⟨0 + 1, by omega, by go_num, HGD.out (by unfold okAt; rw [HAD.out, HFA.out]; rfl), HL1.out⟩
          case measure => simp [intOf]; omega
        | succ k =>
          have hkb : (((k + 1 : Nat) : Int) == 0) = false := by rw [beq_eq_false_iff_ne]; omega
          obtain ⟨lb', lo', b, e, -, hb, hbok, hbc⟩ := (HZ.out.below HLOW.out (Nat.le_refl _)).at_ (i := k) (by omega)
          injection e with e
          injection e with e1 e2
          subst e1 e2
          have hbD : zs.getD k .zero = b := by rw [List.getD_eq_getElem?_getD, hb]; rfl
          have hbf : b.formedB = true := by
            have := HALL.out k (by omega)
            unfold okAt at this
            rw [hbD] at this
            simp only [Bool.and_eq_true] at this
            exact this.1
          have HBF := Lib.hid hbf
          have HOK0 := Lib.hid (show okAt zs (k + 1) = !(decide (a.start < b.stop) || b.goes a) by unfold okAt; rw [HAD.out, Nat.add_sub_cancel, hbD, HFA.out]; simp)
          obtain ⟨u1, u2', u3, u4', u5', u6'⟩ := ahead_bd hbf
          have fb := b.formed_iff.1 hbf
          have HXB := Lib.hid (fun w => ref06_attr b (b.stop / 4096 - 1) w hbf u1 u2')
          rw [if_pos u3, u3] at HXB
          have HBC := Lib.hid (fun (wx : World) (hb : Below w1.heap.size w1 wx) (j : Nat) (u : Value) (hu : b.cells[j]? = some u) => ((below_thru HB1.out hb).cell (p := ⟨lb, lo + k * 6 + j, none⟩) HLB.out).trans (hbc j u hu))
          have HAC := Lib.hid (fun (wx : World) (hb : Below w1.heap.size w1 wx) (j : Nat) (u : Value) (hu : a.cells[j]? = some u) => ((below_thru HB1.out hb).cell (p := ⟨lb, lo + (k + 1) * 6 + j, none⟩) HLB.out).trans (HCELL.out j u hu))
          obtain ⟨⟨y0, y1, y2, y3⟩, hX⟩ : ∃ X, b.at_ (b.stop / 4096 - 1) = X := ⟨_, rfl⟩
          rw [hX] at HXB
          have HX := Lib.hid hX
          clear hbc hb hbD u1 u2' u3 u4' u5' u6' hbf hX
          go_upto_region 7 with fail
          go_cut [4] (fun v wx => ∃ xb, v = .pointer (some ⟨xb, 0, none⟩) ∧ Blk wx xb 121 #[.int .i64 y0, .bool y1, .int .i64 y2, .int .i64 y3] ∧ Below w1.heap.size w1 wx)
          case first =>
            clear HALL HGD HBD HAD HCELL HAC HX HOK0 HL1 HLOW
            obtain ⟨b0, b1, b2, b3, b4, b5⟩ := b
            simp only [areaCells, AttrV.cells] at HXB
            simp only at fb
            have hbw := below_drewN0 w1 1
            have hba := fun o => below_thru (below_alloc0 w1 o) (below_drewN0 (w1.alloc o) 1)
            obtain ⟨p0, p1, p2, p3, p4, p5⟩ := six7 (HBC.out w1.drew hbw)
            obtain ⟨q0, q1, q2, q3, q4, q5⟩ := six7 (HBC.out (w1.alloc (.cells #[.int .i64 0, .bool false, .int .i64 0, .int .i64 0] 121)).drew (hba _))
            have ed : b1.tdiv 4096 = b1 / 4096 := tdiv_pos (by omega)
            have ew1 : IntKind.i64.wrap ((k : Int) + 1 - 1) = k := by rw [show (k : Int) + 1 - 1 = k by omega]; exact IntWalk.i64_in _ (by omega)
            have ew3 : IntKind.i64.wrap (b1 / 4096) = b1 / 4096 := IntWalk.i64_in _ (by omega)
            have ew2 : IntKind.i64.wrap (b1 / 4096 - 1) = b1 / 4096 - 1 := IntWalk.i64_in _ (by omega)
            have ewl : IntKind.i64.wrap (k : Int) = k := IntWalk.i64_in _ (by omega)
            have hkl : (k : Int) < len := by omega
            have hk0 : (0 : Int) ≤ k := by omega
            go_region_held3 (fun z => z.cell? ⟨lb, lo + k * 6, none⟩ = some (.int .i64 b0) ∧ z.cell? ⟨lb, lo + k * 6 + 1, none⟩ = some (.int .i64 b1) ∧ z.cell? ⟨lb, lo + k * 6 + 2, none⟩ = some (.int .i64 b2) ∧ z.cell? ⟨lb, lo + k * 6 + 3, none⟩ = some (.bool b3) ∧ z.cell? ⟨lb, lo + k * 6 + 4, none⟩ = some (.int .i64 b4) ∧ z.cell? ⟨lb, lo + k * 6 + 5, none⟩ = some (.int .i64 b5)) (first | with_reducible exact ⟨p0, p1, p2, p3, p4, p5⟩ | with_reducible exact ⟨q0, q1, q2, q3, q4, q5⟩ | with_reducible exact ⟨e0, e1, e2, e3, e4, e5⟩ | with_reducible exact ⟨g0, g1, g2, g3, g4, g5⟩ | with_reducible exact ⟨r0, r1, r2, r3, r4, r5⟩)
              (first
                | ((go_at_call 70); refine (HXB.out w1.drew).mono ?_; rintro e w2 ⟨rfl, hb⟩; have HQ := Lib.hid (below_thru hbw hb); obtain ⟨e0, e1, e2, e3, e4, e5⟩ := six7 (HBC.out w2 HQ.out); obtain ⟨g0, g1, g2, g3, g4, g5⟩ := six7 (HBC.out (w2.alloc (.cells #[.int .i64 0, .bool false, .int .i64 0, .int .i64 0] 121)) (below_thru HQ.out (below_alloc0 _ _))); obtain ⟨r0, r1, r2, r3, r4, r5⟩ := six7 (HBC.out (w2.alloc (.cells #[.int .i64 y0, .bool y1, .int .i64 y2, .int .i64 y3] 121)) (below_thru HQ.out (below_alloc0 _ _))); clear hb)
                | ((go_at_call 70); refine (HXB.out (w1.alloc _).drew).mono ?_; rintro e w2 ⟨rfl, hb⟩; have HQ := Lib.hid (below_thru (hba _) hb); have HN := Lib.hid (((Blk.new w1 121 #[.int .i64 0, .bool false, .int .i64 0, .int .i64 0]).drewN 1).thru hb); obtain ⟨e0, e1, e2, e3, e4, e5⟩ := six7 (HBC.out w2 HQ.out); obtain ⟨r0, r1, r2, r3, r4, r5⟩ := six7 (HBC.out _ (puts4_below HQ.out (Nat.le_refl w1.heap.size) (.int .i64 y0) (.bool y1) (.int .i64 y2) (.int .i64 y3))); obtain ⟨m0, m1, m2, m3⟩ := HN.out.at4; obtain ⟨n0, n1, n2, n3⟩ := HN.out.fr4; clear hb))
            all_goals go_wp2_with fail
            all_goals go_meet
            · exact ⟨_, rfl, Blk.new w2 121 _, below_thru HQ.out (below_alloc0 _ _)⟩
            · exact ⟨_, rfl, HN.out.puts4 (.int .i64 y0) (.bool y1) (.int .i64 y2) (.int .i64 y3), puts4_below HQ.out (Nat.le_refl w1.heap.size) (.int .i64 y0) (.bool y1) (.int .i64 y2) (.int .i64 y3)⟩
          case rest =>
            obtain ⟨xb, rfl, hxb, hb3⟩ := hcut
            have HBX := Lib.hid hxb
            have HB3 := Lib.hid hb3
            obtain ⟨v1, v2, v3, v4, v5, v6⟩ := ahead_bd HFA.out
            have fa' := a.formed_iff.1 HFA.out
            have HYA := Lib.hid (fun w => ref06_attr a (a.start / 4096) w HFA.out v4 v5)
            rw [if_pos v6, v6] at HYA
            obtain ⟨⟨z0, z1, z2, z3⟩, hY⟩ : ∃ X, a.at_ (a.start / 4096) = X := ⟨_, rfl⟩
            rw [hY] at HYA
            have HY := Lib.hid hY
            generalize wc = w3 at *
            replace HAC := Lib.hid (fun (wx : World) (hb : Below w3.heap.size w3 wx) => HAC.out wx (below_thru HB3.out hb))
            replace HBC := Lib.hid (fun (wx : World) (hb : Below w3.heap.size w3 wx) => HBC.out wx (below_thru HB3.out hb))
            clear hxb hb3 v1 v2 v3 v4 v5 v6 hY HALL HCELL
            go_upto_region 8 with fail
            go_cut [6] (fun v wx => ∃ yb, v = .pointer (some ⟨yb, 0, none⟩) ∧ Blk wx yb 121 #[.int .i64 z0, .bool z1, .int .i64 z2, .int .i64 z3] ∧ Below w3.heap.size w3 wx)
            case first =>
              clear HGD HBD HAD HX HY HOK0 HL1 HLOW HXB HBX
              obtain ⟨b0, b1, b2, b3, b4, b5⟩ := a
              simp only [areaCells, AttrV.cells] at HYA
              simp only at fa'
              have hbw := below_drewN0 w3 1
              have hba := fun o => below_thru (below_alloc0 w3 o) (below_drewN0 (w3.alloc o) 1)
              obtain ⟨p0, p1, p2, p3, p4, p5⟩ := six7 (HAC.out w3.drew hbw)
              obtain ⟨q0, q1, q2, q3, q4, q5⟩ := six7 (HAC.out (w3.alloc (.cells #[.int .i64 0, .bool false, .int .i64 0, .int .i64 0] 121)).drew (hba _))
              have ed : b0.tdiv 4096 = b0 / 4096 := tdiv_pos (by omega)
              have ewk : IntKind.i64.wrap ((k : Int) + 1) = (k : Int) + 1 := IntWalk.i64_in _ (by omega)
              have hk1 : (0 : Int) ≤ (k : Int) + 1 := by omega
              have ew3 : IntKind.i64.wrap (b0 / 4096) = b0 / 4096 := IntWalk.i64_in _ (by omega)
              have ewl : IntKind.i64.wrap (k : Int) = k := IntWalk.i64_in _ (by omega)
              have hkl : (k : Int) + 1 < len := by omega
              have hk0 : (0 : Int) ≤ k := by omega
              go_region_held3 (fun z => z.cell? ⟨lb, lo + (k + 1) * 6, none⟩ = some (.int .i64 b0) ∧ z.cell? ⟨lb, lo + (k + 1) * 6 + 1, none⟩ = some (.int .i64 b1) ∧ z.cell? ⟨lb, lo + (k + 1) * 6 + 2, none⟩ = some (.int .i64 b2) ∧ z.cell? ⟨lb, lo + (k + 1) * 6 + 3, none⟩ = some (.bool b3) ∧ z.cell? ⟨lb, lo + (k + 1) * 6 + 4, none⟩ = some (.int .i64 b4) ∧ z.cell? ⟨lb, lo + (k + 1) * 6 + 5, none⟩ = some (.int .i64 b5)) (first | with_reducible exact ⟨p0, p1, p2, p3, p4, p5⟩ | with_reducible exact ⟨q0, q1, q2, q3, q4, q5⟩ | with_reducible exact ⟨e0, e1, e2, e3, e4, e5⟩ | with_reducible exact ⟨g0, g1, g2, g3, g4, g5⟩ | with_reducible exact ⟨r0, r1, r2, r3, r4, r5⟩)
                (first
                  | ((go_at_call 70); refine (HYA.out w3.drew).mono ?_; rintro e w5 ⟨rfl, hb⟩; have HQ := Lib.hid (below_thru hbw hb); obtain ⟨e0, e1, e2, e3, e4, e5⟩ := six7 (HAC.out w5 HQ.out); obtain ⟨g0, g1, g2, g3, g4, g5⟩ := six7 (HAC.out (w5.alloc (.cells #[.int .i64 0, .bool false, .int .i64 0, .int .i64 0] 121)) (below_thru HQ.out (below_alloc0 _ _))); obtain ⟨r0, r1, r2, r3, r4, r5⟩ := six7 (HAC.out (w5.alloc (.cells #[.int .i64 z0, .bool z1, .int .i64 z2, .int .i64 z3] 121)) (below_thru HQ.out (below_alloc0 _ _))); clear hb)
                  | ((go_at_call 70); refine (HYA.out (w3.alloc _).drew).mono ?_; rintro e w5 ⟨rfl, hb⟩; have HQ := Lib.hid (below_thru (hba _) hb); have HN := Lib.hid (((Blk.new w3 121 #[.int .i64 0, .bool false, .int .i64 0, .int .i64 0]).drewN 1).thru hb); obtain ⟨e0, e1, e2, e3, e4, e5⟩ := six7 (HAC.out w5 HQ.out); obtain ⟨r0, r1, r2, r3, r4, r5⟩ := six7 (HAC.out _ (puts4_below HQ.out (Nat.le_refl w3.heap.size) (.int .i64 z0) (.bool z1) (.int .i64 z2) (.int .i64 z3))); obtain ⟨m0, m1, m2, m3⟩ := HN.out.at4; obtain ⟨n0, n1, n2, n3⟩ := HN.out.fr4; clear hb))
              all_goals go_wp2_with fail
              all_goals go_meet
              · exact ⟨_, rfl, Blk.new w5 121 _, below_thru HQ.out (below_alloc0 _ _)⟩
              · exact ⟨_, rfl, HN.out.puts4 (.int .i64 z0) (.bool z1) (.int .i64 z2) (.int .i64 z3), puts4_below HQ.out (Nat.le_refl w3.heap.size) (.int .i64 z0) (.bool z1) (.int .i64 z2) (.int .i64 z3)⟩
            case rest =>
              obtain ⟨yb, rfl, hyb, hb4⟩ := hcut
              generalize wc = w4 at *
              have HB4 := Lib.hid hb4
              have HYB := Lib.hid hyb
              have HXB4 := Lib.hid (HBX.out.thru hb4)
              have HGI0 := Lib.hid (fun h => goes_iff HBF.out HFA.out h)
              have HNG := Lib.hid (fun (h : ¬ b.stop = a.start) => show b.goes a = false by unfold AreaV.goes; rw [show (b.stop == a.start) = false by rw [beq_eq_false_iff_ne]; exact h]; simp)
              have hsm := at_small HBF.out (p := b.stop / 4096 - 1) (by have := b.formed_iff.1 HBF.out; omega) (by omega)
              rw [HX.out] at hsm
              have HAF := Lib.hid (fun w => ref06_after ⟨y0, y1, y2, y3⟩ ⟨z0, z1, z2, z3⟩ w hsm.1 hsm.2)
              simp only [HX.out, HY.out] at HGI0
              obtain ⟨gg, hgg⟩ : ∃ gg, b.goes a = gg := ⟨_, rfl⟩
              simp only [hgg] at HGI0 HNG HOK0
              obtain ⟨b0, b1, b2, b3, b4, b5⟩ := b
              obtain ⟨a0, a1, a2, a3, a4, a5⟩ := a
              simp only [AttrV.cells] at HAF
              simp only at HGI0 HNG HOK0
              have HS := Lib.hid (fun (z : World) (hb : Below w4.heap.size w4 z) => (show z.cell? ⟨lb, lo + k * 6 + 1, none⟩ = some (.int .i64 b1) ∧ z.cell? ⟨lb, lo + (k + 1) * 6, none⟩ = some (.int .i64 a0) ∧ z.cell? ⟨xb, 0, none⟩ = some (.int .i64 y0) ∧ z.cell? ⟨xb, 1, none⟩ = some (.bool y1) ∧ z.cell? ⟨xb, 2, none⟩ = some (.int .i64 y2) ∧ z.cell? ⟨xb, 3, none⟩ = some (.int .i64 y3) ∧ z.cell? ⟨yb, 0, none⟩ = some (.int .i64 z0) ∧ z.cell? ⟨yb, 1, none⟩ = some (.bool z1) ∧ z.cell? ⟨yb, 2, none⟩ = some (.int .i64 z2) ∧ z.cell? ⟨yb, 3, none⟩ = some (.int .i64 z3) from
                have hx := (HXB4.out.thru hb).at4
                have hy := (HYB.out.thru hb).at4
                ⟨HBC.out z (below_thru HB4.out hb) 1 _ rfl, HAC.out z (below_thru HB4.out hb) 0 _ rfl, hx.1, hx.2.1, hx.2.2.1, hx.2.2.2, hy.1, hy.2.1, hy.2.2.1, hy.2.2.2⟩))
              clear hgg hsm HX HY HXB HYA HBC HAC HBX fb fa' hb4 hyb hbok HBF HFA HAD HFO
              go_upto_region 9 with fail
              have ew1 : IntKind.i64.wrap ((k : Int) + 1 - 1) = k := by rw [show (k : Int) + 1 - 1 = k by omega]; exact IntWalk.i64_in _ (by omega)
              have ewl : IntKind.i64.wrap (k : Int) = k := IntWalk.i64_in _ (by omega)
              have hkl : (k : Int) < len := by omega
              have hkl1 : (k : Int) + 1 < len := by omega
              have hk0 : (0 : Int) ≤ k := by omega
              have hk1 : (0 : Int) ≤ (k : Int) + 1 := by omega
              go_cut [83] (fun v wx => v = .bool (!okAt zs (k + 1)) ∧ Below w4.heap.size w4 wx)
              case first =>
-- MARK
                by_cases q1 : a0 < b1
                · have q1b : decide (a0 < b1) = true := decide_eq_true q1
                  refine wp_region_H (fun z => z.cell? ⟨lb, lo + k * 6 + 1, none⟩ = some (.int .i64 b1) ∧ z.cell? ⟨lb, lo + (k + 1) * 6, none⟩ = some (.int .i64 a0) ∧ z.cell? ⟨xb, 0, none⟩ = some (.int .i64 y0) ∧ z.cell? ⟨xb, 1, none⟩ = some (.bool y1) ∧ z.cell? ⟨xb, 2, none⟩ = some (.int .i64 y2) ∧ z.cell? ⟨xb, 3, none⟩ = some (.int .i64 y3) ∧ z.cell? ⟨yb, 0, none⟩ = some (.int .i64 z0) ∧ z.cell? ⟨yb, 1, none⟩ = some (.bool z1) ∧ z.cell? ⟨yb, 2, none⟩ = some (.int .i64 z2) ∧ z.cell? ⟨yb, 3, none⟩ = some (.int .i64 z3)) 31 (by rfl) (by kernel_rfl) ?_
                  have hS : (fun z : World => z.cell? ⟨lb, lo + k * 6 + 1, none⟩ = some (.int .i64 b1) ∧ z.cell? ⟨lb, lo + (k + 1) * 6, none⟩ = some (.int .i64 a0) ∧ z.cell? ⟨xb, 0, none⟩ = some (.int .i64 y0) ∧ z.cell? ⟨xb, 1, none⟩ = some (.bool y1) ∧ z.cell? ⟨xb, 2, none⟩ = some (.int .i64 y2) ∧ z.cell? ⟨xb, 3, none⟩ = some (.int .i64 y3) ∧ z.cell? ⟨yb, 0, none⟩ = some (.int .i64 z0) ∧ z.cell? ⟨yb, 1, none⟩ = some (.bool z1) ∧ z.cell? ⟨yb, 2, none⟩ = some (.int .i64 z2) ∧ z.cell? ⟨yb, 3, none⟩ = some (.int .i64 z3)) w4.drew := HS.out w4.drew (below_drewN0 w4 1)
                  try simp only [Array.replicate, List.replicate, List.setIfInBounds_toArray]
                  refine wpAnyH_takes (i := 0) (d := 53) (v := ?_) rfl rfl (by kernel_rfl) (fun _ _ _ h => h) (Or.inl ⟨by rfl, ?_⟩) hS ?_
                  rotate_left
                  · intro wq hq; (try dsimp only at hq); obtain ⟨hq1, hq2, hq3, hq4, hq5, hq6, hq7, hq8, hq9, hq10⟩ := hq; go_simp; try with_reducible rfl
                  simp only [List.setIfInBounds_toArray, List.set_cons_zero, List.set_cons_succ]
                  refine wpAnyH_takes (i := 1) (d := 54) (v := ?_) rfl rfl (by kernel_rfl) (fun _ _ _ h => h) (Or.inl ⟨by rfl, ?_⟩) hS ?_
                  rotate_left
                  · intro wq hq; (try dsimp only at hq); obtain ⟨hq1, hq2, hq3, hq4, hq5, hq6, hq7, hq8, hq9, hq10⟩ := hq; go_simp; try with_reducible rfl
                  simp only [List.setIfInBounds_toArray, List.set_cons_zero, List.set_cons_succ]
                  refine wpAnyH_takes (i := 2) (d := 55) (v := ?_) rfl rfl (by kernel_rfl) (fun _ _ _ h => h) (Or.inl ⟨by rfl, ?_⟩) hS ?_
                  rotate_left
                  · intro wq hq; (try dsimp only at hq); obtain ⟨hq1, hq2, hq3, hq4, hq5, hq6, hq7, hq8, hq9, hq10⟩ := hq; go_simp; try with_reducible rfl
                  simp only [List.setIfInBounds_toArray, List.set_cons_zero, List.set_cons_succ]
                  refine wpAnyH_takes (i := 3) (d := 56) (v := ?_) rfl rfl (by kernel_rfl) (fun _ _ _ h => h) (Or.inl ⟨by rfl, ?_⟩) hS ?_
                  rotate_left
                  · intro wq hq; (try dsimp only at hq); obtain ⟨hq1, hq2, hq3, hq4, hq5, hq6, hq7, hq8, hq9, hq10⟩ := hq; go_simp; try with_reducible rfl
                  simp only [List.setIfInBounds_toArray, List.set_cons_zero, List.set_cons_succ]
                  refine wpAnyH_takes (i := 4) (d := 57) (v := ?_) rfl rfl (by kernel_rfl) (fun _ _ _ h => h) (Or.inl ⟨by rfl, ?_⟩) hS ?_
                  rotate_left
                  · intro wq hq; (try dsimp only at hq); obtain ⟨hq1, hq2, hq3, hq4, hq5, hq6, hq7, hq8, hq9, hq10⟩ := hq; go_simp; try with_reducible rfl
                  simp only [List.setIfInBounds_toArray, List.set_cons_zero, List.set_cons_succ]
                  refine wpAnyH_takes (i := 5) (d := 58) (v := ?_) rfl rfl (by kernel_rfl) (fun _ _ _ h => h) (Or.inl ⟨by rfl, ?_⟩) hS ?_
                  rotate_left
                  · intro wq hq; (try dsimp only at hq); obtain ⟨hq1, hq2, hq3, hq4, hq5, hq6, hq7, hq8, hq9, hq10⟩ := hq; go_simp; try with_reducible rfl
                  simp only [List.setIfInBounds_toArray, List.set_cons_zero, List.set_cons_succ]
                  refine wpAnyH_takes (i := 6) (d := 59) (v := ?_) rfl rfl (by kernel_rfl) (fun _ _ _ h => h) (Or.inl ⟨by rfl, ?_⟩) hS ?_
                  rotate_left
                  · intro wq hq; (try dsimp only at hq); obtain ⟨hq1, hq2, hq3, hq4, hq5, hq6, hq7, hq8, hq9, hq10⟩ := hq; go_simp; try with_reducible rfl
                  simp only [List.setIfInBounds_toArray, List.set_cons_zero, List.set_cons_succ]
                  refine wpAnyH_takes (i := 7) (d := 60) (v := ?_) rfl rfl (by kernel_rfl) (fun _ _ _ h => h) (Or.inl ⟨by rfl, ?_⟩) hS ?_
                  rotate_left
                  · intro wq hq; (try dsimp only at hq); obtain ⟨hq1, hq2, hq3, hq4, hq5, hq6, hq7, hq8, hq9, hq10⟩ := hq; go_simp; try with_reducible rfl
                  simp only [List.setIfInBounds_toArray, List.set_cons_zero, List.set_cons_succ]
                  refine wpAnyH_takes (i := 8) (d := 61) (v := ?_) rfl rfl (by kernel_rfl) (fun _ _ _ h => h) (Or.inl ⟨by rfl, ?_⟩) hS ?_
                  rotate_left
                  · intro wq hq; (try dsimp only at hq); obtain ⟨hq1, hq2, hq3, hq4, hq5, hq6, hq7, hq8, hq9, hq10⟩ := hq; go_simp; try with_reducible rfl
                  simp only [List.setIfInBounds_toArray, List.set_cons_zero, List.set_cons_succ]
                  refine wpAnyH_takes (i := 9) (d := 62) (v := ?_) rfl rfl (by kernel_rfl) (fun _ _ _ h => h) (Or.inl ⟨by rfl, ?_⟩) hS ?_
                  rotate_left
                  · intro wq hq; (try dsimp only at hq); obtain ⟨hq1, hq2, hq3, hq4, hq5, hq6, hq7, hq8, hq9, hq10⟩ := hq; go_simp; try with_reducible rfl
                  simp only [List.setIfInBounds_toArray, List.set_cons_zero, List.set_cons_succ]
                  refine wpAnyH_takes (i := 10) (d := 63) (v := ?_) rfl rfl (by kernel_rfl) (fun _ _ _ h => h) (Or.inl ⟨by rfl, ?_⟩) hS ?_
                  rotate_left
                  · intro wq hq; (try dsimp only at hq); obtain ⟨hq1, hq2, hq3, hq4, hq5, hq6, hq7, hq8, hq9, hq10⟩ := hq; go_simp; try with_reducible rfl
                  simp only [List.setIfInBounds_toArray, List.set_cons_zero, List.set_cons_succ]
                  refine wpAnyH_takes (i := 11) (d := 64) (v := ?_) rfl rfl (by kernel_rfl) (fun _ _ _ h => h) (Or.inl ⟨by rfl, ?_⟩) hS ?_
                  rotate_left
                  · intro wq hq; (try dsimp only at hq); obtain ⟨hq1, hq2, hq3, hq4, hq5, hq6, hq7, hq8, hq9, hq10⟩ := hq; go_simp; try with_reducible rfl
                  simp only [List.setIfInBounds_toArray, List.set_cons_zero, List.set_cons_succ]
                  refine wpAnyH_takes (i := 12) (d := 65) (v := ?_) rfl rfl (by kernel_rfl) (fun _ _ _ h => h) (Or.inl ⟨by rfl, ?_⟩) hS ?_
                  rotate_left
                  · intro wq hq; (try dsimp only at hq); obtain ⟨hq1, hq2, hq3, hq4, hq5, hq6, hq7, hq8, hq9, hq10⟩ := hq; go_simp; try with_reducible rfl
                  simp only [List.setIfInBounds_toArray, List.set_cons_zero, List.set_cons_succ]
                  refine wpAnyH_takes (i := 13) (d := 66) (v := undef) rfl rfl (by kernel_rfl) (fun _ _ _ h => h) (Or.inr ⟨by rfl, by rfl⟩) hS ?_
                  simp only [List.setIfInBounds_toArray, List.set_cons_zero, List.set_cons_succ]
                  refine wpAnyH_takes (i := 14) (d := 67) (v := undef) rfl rfl (by kernel_rfl) (fun _ _ _ h => h) (Or.inr ⟨by rfl, by rfl⟩) hS ?_
                  simp only [List.setIfInBounds_toArray, List.set_cons_zero, List.set_cons_succ]
                  refine wpAnyH_takes (i := 15) (d := 68) (v := undef) rfl rfl (by kernel_rfl) (fun _ _ _ h => h) (Or.inr ⟨by rfl, by rfl⟩) hS ?_
                  simp only [List.setIfInBounds_toArray, List.set_cons_zero, List.set_cons_succ]
                  refine wpAnyH_takes (i := 16) (d := 69) (v := undef) rfl rfl (by kernel_rfl) (fun _ _ _ h => h) (Or.inr ⟨by rfl, by rfl⟩) hS ?_
                  simp only [List.setIfInBounds_toArray, List.set_cons_zero, List.set_cons_succ]
                  refine wpAnyH_takes (i := 17) (d := 70) (v := undef) rfl rfl (by kernel_rfl) (fun _ _ _ h => h) (Or.inr ⟨by rfl, by rfl⟩) hS ?_
                  simp only [List.setIfInBounds_toArray, List.set_cons_zero, List.set_cons_succ]
                  refine wpAnyH_takes (i := 18) (d := 71) (v := undef) rfl rfl (by kernel_rfl) (fun _ _ _ h => h) (Or.inr ⟨by rfl, by rfl⟩) hS ?_
                  simp only [List.setIfInBounds_toArray, List.set_cons_zero, List.set_cons_succ]
                  refine wpAnyH_takes (i := 19) (d := 72) (v := undef) rfl rfl (by kernel_rfl) (fun _ _ _ h => h) (Or.inr ⟨by rfl, by rfl⟩) hS ?_
                  simp only [List.setIfInBounds_toArray, List.set_cons_zero, List.set_cons_succ]
                  refine wpAnyH_takes (i := 20) (d := 73) (v := undef) rfl rfl (by kernel_rfl) (fun _ _ _ h => h) (Or.inr ⟨by rfl, by rfl⟩) hS ?_
                  simp only [List.setIfInBounds_toArray, List.set_cons_zero, List.set_cons_succ]
                  refine wpAnyH_takes (i := 21) (d := 74) (v := undef) rfl rfl (by kernel_rfl) (fun _ _ _ h => h) (Or.inr ⟨by rfl, by rfl⟩) hS ?_
                  simp only [List.setIfInBounds_toArray, List.set_cons_zero, List.set_cons_succ]
                  refine wpAnyH_takes (i := 22) (d := 75) (v := undef) rfl rfl (by kernel_rfl) (fun _ _ _ h => h) (Or.inr ⟨by rfl, by rfl⟩) hS ?_
                  simp only [List.setIfInBounds_toArray, List.set_cons_zero, List.set_cons_succ]
                  refine wpAnyH_takes (i := 23) (d := 76) (v := undef) rfl rfl (by kernel_rfl) (fun _ _ _ h => h) (Or.inr ⟨by rfl, by rfl⟩) hS ?_
                  simp only [List.setIfInBounds_toArray, List.set_cons_zero, List.set_cons_succ]
                  refine wpAnyH_takes (i := 24) (d := 77) (v := undef) rfl rfl (by kernel_rfl) (fun _ _ _ h => h) (Or.inr ⟨by rfl, by rfl⟩) hS ?_
                  simp only [List.setIfInBounds_toArray, List.set_cons_zero, List.set_cons_succ]
                  refine wpAnyH_takes (i := 25) (d := 78) (v := undef) rfl rfl (by kernel_rfl) (fun _ _ _ h => h) (Or.inr ⟨by rfl, by rfl⟩) hS ?_
                  simp only [List.setIfInBounds_toArray, List.set_cons_zero, List.set_cons_succ]
                  refine wpAnyH_takes (i := 26) (d := 79) (v := undef) rfl rfl (by kernel_rfl) (fun _ _ _ h => h) (Or.inr ⟨by rfl, by rfl⟩) hS ?_
                  simp only [List.setIfInBounds_toArray, List.set_cons_zero, List.set_cons_succ]
                  refine wpAnyH_takes (i := 27) (d := 80) (v := undef) rfl rfl (by kernel_rfl) (fun _ _ _ h => h) (Or.inr ⟨by rfl, by rfl⟩) hS ?_
                  simp only [List.setIfInBounds_toArray, List.set_cons_zero, List.set_cons_succ]
                  refine wpAnyH_takes (i := 28) (d := 81) (v := undef) rfl rfl (by kernel_rfl) (fun _ _ _ h => h) (Or.inr ⟨by rfl, by rfl⟩) hS ?_
                  simp only [List.setIfInBounds_toArray, List.set_cons_zero, List.set_cons_succ]
                  refine wpAnyH_takes (i := 29) (d := 82) (v := undef) rfl rfl (by kernel_rfl) (fun _ _ _ h => h) (Or.inr ⟨by rfl, by rfl⟩) hS ?_
                  simp only [List.setIfInBounds_toArray, List.set_cons_zero, List.set_cons_succ]
                  refine wpAnyH_takes (i := 30) (d := 83) (v := ?_) rfl rfl (by kernel_rfl) (fun _ _ _ h => h) (Or.inl ⟨by rfl, ?_⟩) hS ?_
                  rotate_left
                  · intro wq hq; (try dsimp only at hq); obtain ⟨hq1, hq2, hq3, hq4, hq5, hq6, hq7, hq8, hq9, hq10⟩ := hq; go_simp; try with_reducible rfl
                  simp only [List.setIfInBounds_toArray, List.set_cons_zero, List.set_cons_succ]
                  refine wpAnyH_done (by kernel_rfl) ?_ _
                  go_wp2
                  go_meet
                  exact ⟨ret_v (by rw [HOK0.out]; rw [q1b]; rfl), below_drewN0 w4 1⟩
                · have q1b : decide (a0 < b1) = false := decide_eq_false q1
                  by_cases q2 : b1 = a0
                  · have q2b : (b1 == a0) = true := by rw [beq_iff_eq]; exact q2
                    have HGI := Lib.hid (HGI0.out q2)
                    refine wp_region_H (fun z => z.cell? ⟨lb, lo + k * 6 + 1, none⟩ = some (.int .i64 b1) ∧ z.cell? ⟨lb, lo + (k + 1) * 6, none⟩ = some (.int .i64 a0) ∧ z.cell? ⟨xb, 0, none⟩ = some (.int .i64 y0) ∧ z.cell? ⟨xb, 1, none⟩ = some (.bool y1) ∧ z.cell? ⟨xb, 2, none⟩ = some (.int .i64 y2) ∧ z.cell? ⟨xb, 3, none⟩ = some (.int .i64 y3) ∧ z.cell? ⟨yb, 0, none⟩ = some (.int .i64 z0) ∧ z.cell? ⟨yb, 1, none⟩ = some (.bool z1) ∧ z.cell? ⟨yb, 2, none⟩ = some (.int .i64 z2) ∧ z.cell? ⟨yb, 3, none⟩ = some (.int .i64 z3)) 31 (by rfl) (by kernel_rfl) ?_
                    have hS : (fun z : World => z.cell? ⟨lb, lo + k * 6 + 1, none⟩ = some (.int .i64 b1) ∧ z.cell? ⟨lb, lo + (k + 1) * 6, none⟩ = some (.int .i64 a0) ∧ z.cell? ⟨xb, 0, none⟩ = some (.int .i64 y0) ∧ z.cell? ⟨xb, 1, none⟩ = some (.bool y1) ∧ z.cell? ⟨xb, 2, none⟩ = some (.int .i64 y2) ∧ z.cell? ⟨xb, 3, none⟩ = some (.int .i64 y3) ∧ z.cell? ⟨yb, 0, none⟩ = some (.int .i64 z0) ∧ z.cell? ⟨yb, 1, none⟩ = some (.bool z1) ∧ z.cell? ⟨yb, 2, none⟩ = some (.int .i64 z2) ∧ z.cell? ⟨yb, 3, none⟩ = some (.int .i64 z3)) w4.drew := HS.out w4.drew (below_drewN0 w4 1)
                    try simp only [Array.replicate, List.replicate, List.setIfInBounds_toArray]
                    refine wpAnyH_takes (i := 0) (d := 53) (v := ?_) rfl rfl (by kernel_rfl) (fun _ _ _ h => h) (Or.inl ⟨by rfl, ?_⟩) hS ?_
                    rotate_left
                    · intro wq hq; (try dsimp only at hq); obtain ⟨hq1, hq2, hq3, hq4, hq5, hq6, hq7, hq8, hq9, hq10⟩ := hq; go_simp; try with_reducible rfl
                    simp only [List.setIfInBounds_toArray, List.set_cons_zero, List.set_cons_succ]
                    refine wpAnyH_takes (i := 1) (d := 54) (v := ?_) rfl rfl (by kernel_rfl) (fun _ _ _ h => h) (Or.inl ⟨by rfl, ?_⟩) hS ?_
                    rotate_left
                    · intro wq hq; (try dsimp only at hq); obtain ⟨hq1, hq2, hq3, hq4, hq5, hq6, hq7, hq8, hq9, hq10⟩ := hq; go_simp; try with_reducible rfl
                    simp only [List.setIfInBounds_toArray, List.set_cons_zero, List.set_cons_succ]
                    refine wpAnyH_takes (i := 2) (d := 55) (v := ?_) rfl rfl (by kernel_rfl) (fun _ _ _ h => h) (Or.inl ⟨by rfl, ?_⟩) hS ?_
                    rotate_left
                    · intro wq hq; (try dsimp only at hq); obtain ⟨hq1, hq2, hq3, hq4, hq5, hq6, hq7, hq8, hq9, hq10⟩ := hq; go_simp; try with_reducible rfl
                    simp only [List.setIfInBounds_toArray, List.set_cons_zero, List.set_cons_succ]
                    refine wpAnyH_takes (i := 3) (d := 56) (v := ?_) rfl rfl (by kernel_rfl) (fun _ _ _ h => h) (Or.inl ⟨by rfl, ?_⟩) hS ?_
                    rotate_left
                    · intro wq hq; (try dsimp only at hq); obtain ⟨hq1, hq2, hq3, hq4, hq5, hq6, hq7, hq8, hq9, hq10⟩ := hq; go_simp; try with_reducible rfl
                    simp only [List.setIfInBounds_toArray, List.set_cons_zero, List.set_cons_succ]
                    refine wpAnyH_takes (i := 4) (d := 57) (v := ?_) rfl rfl (by kernel_rfl) (fun _ _ _ h => h) (Or.inl ⟨by rfl, ?_⟩) hS ?_
                    rotate_left
                    · intro wq hq; (try dsimp only at hq); obtain ⟨hq1, hq2, hq3, hq4, hq5, hq6, hq7, hq8, hq9, hq10⟩ := hq; go_simp; try with_reducible rfl
                    simp only [List.setIfInBounds_toArray, List.set_cons_zero, List.set_cons_succ]
                    refine wpAnyH_takes (i := 5) (d := 58) (v := ?_) rfl rfl (by kernel_rfl) (fun _ _ _ h => h) (Or.inl ⟨by rfl, ?_⟩) hS ?_
                    rotate_left
                    · intro wq hq; (try dsimp only at hq); obtain ⟨hq1, hq2, hq3, hq4, hq5, hq6, hq7, hq8, hq9, hq10⟩ := hq; go_simp; try with_reducible rfl
                    simp only [List.setIfInBounds_toArray, List.set_cons_zero, List.set_cons_succ]
                    refine wpAnyH_takes (i := 6) (d := 59) (v := ?_) rfl rfl (by kernel_rfl) (fun _ _ _ h => h) (Or.inl ⟨by rfl, ?_⟩) hS ?_
                    rotate_left
                    · intro wq hq; (try dsimp only at hq); obtain ⟨hq1, hq2, hq3, hq4, hq5, hq6, hq7, hq8, hq9, hq10⟩ := hq; go_simp; try with_reducible rfl
                    simp only [List.setIfInBounds_toArray, List.set_cons_zero, List.set_cons_succ]
                    refine wpAnyH_takes (i := 7) (d := 60) (v := ?_) rfl rfl (by kernel_rfl) (fun _ _ _ h => h) (Or.inl ⟨by rfl, ?_⟩) hS ?_
                    rotate_left
                    · intro wq hq; (try dsimp only at hq); obtain ⟨hq1, hq2, hq3, hq4, hq5, hq6, hq7, hq8, hq9, hq10⟩ := hq; go_simp; try with_reducible rfl
                    simp only [List.setIfInBounds_toArray, List.set_cons_zero, List.set_cons_succ]
                    refine wpAnyH_takes (i := 8) (d := 61) (v := ?_) rfl rfl (by kernel_rfl) (fun _ _ _ h => h) (Or.inl ⟨by rfl, ?_⟩) hS ?_
                    rotate_left
                    · intro wq hq; (try dsimp only at hq); obtain ⟨hq1, hq2, hq3, hq4, hq5, hq6, hq7, hq8, hq9, hq10⟩ := hq; go_simp; try with_reducible rfl
                    simp only [List.setIfInBounds_toArray, List.set_cons_zero, List.set_cons_succ]
                    refine wpAnyH_takes (i := 9) (d := 62) (v := ?_) rfl rfl (by kernel_rfl) (fun _ _ _ h => h) (Or.inl ⟨by rfl, ?_⟩) hS ?_
                    rotate_left
                    · intro wq hq; (try dsimp only at hq); obtain ⟨hq1, hq2, hq3, hq4, hq5, hq6, hq7, hq8, hq9, hq10⟩ := hq; go_simp; try with_reducible rfl
                    simp only [List.setIfInBounds_toArray, List.set_cons_zero, List.set_cons_succ]
                    refine wpAnyH_takes (i := 10) (d := 63) (v := ?_) rfl rfl (by kernel_rfl) (fun _ _ _ h => h) (Or.inl ⟨by rfl, ?_⟩) hS ?_
                    rotate_left
                    · intro wq hq; (try dsimp only at hq); obtain ⟨hq1, hq2, hq3, hq4, hq5, hq6, hq7, hq8, hq9, hq10⟩ := hq; go_simp; try with_reducible rfl
                    simp only [List.setIfInBounds_toArray, List.set_cons_zero, List.set_cons_succ]
                    refine wpAnyH_takes (i := 11) (d := 64) (v := ?_) rfl rfl (by kernel_rfl) (fun _ _ _ h => h) (Or.inl ⟨by rfl, ?_⟩) hS ?_
                    rotate_left
                    · intro wq hq; (try dsimp only at hq); obtain ⟨hq1, hq2, hq3, hq4, hq5, hq6, hq7, hq8, hq9, hq10⟩ := hq; go_simp; try with_reducible rfl
                    simp only [List.setIfInBounds_toArray, List.set_cons_zero, List.set_cons_succ]
                    refine wpAnyH_takes (i := 12) (d := 65) (v := ?_) rfl rfl (by kernel_rfl) (fun _ _ _ h => h) (Or.inl ⟨by rfl, ?_⟩) hS ?_
                    rotate_left
                    · intro wq hq; (try dsimp only at hq); obtain ⟨hq1, hq2, hq3, hq4, hq5, hq6, hq7, hq8, hq9, hq10⟩ := hq; go_simp; try with_reducible rfl
                    simp only [List.setIfInBounds_toArray, List.set_cons_zero, List.set_cons_succ]
                    refine wpAnyH_takes (i := 13) (d := 66) (v := ?_) rfl rfl (by kernel_rfl) (fun _ _ _ h => h) (Or.inl ⟨by rfl, ?_⟩) hS ?_
                    rotate_left
                    · intro wq hq; (try dsimp only at hq); obtain ⟨hq1, hq2, hq3, hq4, hq5, hq6, hq7, hq8, hq9, hq10⟩ := hq; go_simp; try with_reducible rfl
                    simp only [List.setIfInBounds_toArray, List.set_cons_zero, List.set_cons_succ]
                    refine wpAnyH_takes (i := 14) (d := 67) (v := ?_) rfl rfl (by kernel_rfl) (fun _ _ _ h => h) (Or.inl ⟨by rfl, ?_⟩) hS ?_
                    rotate_left
                    · intro wq hq; (try dsimp only at hq); obtain ⟨hq1, hq2, hq3, hq4, hq5, hq6, hq7, hq8, hq9, hq10⟩ := hq; go_simp; try with_reducible rfl
                    simp only [List.setIfInBounds_toArray, List.set_cons_zero, List.set_cons_succ]
                    refine wpAnyH_takes (i := 15) (d := 68) (v := ?_) rfl rfl (by kernel_rfl) (fun _ _ _ h => h) (Or.inl ⟨by rfl, ?_⟩) hS ?_
                    rotate_left
                    · intro wq hq; (try dsimp only at hq); obtain ⟨hq1, hq2, hq3, hq4, hq5, hq6, hq7, hq8, hq9, hq10⟩ := hq; go_simp; try with_reducible rfl
                    simp only [List.setIfInBounds_toArray, List.set_cons_zero, List.set_cons_succ]
                    refine wpAnyH_takes (i := 16) (d := 69) (v := ?_) rfl rfl (by kernel_rfl) (fun _ _ _ h => h) (Or.inl ⟨by rfl, ?_⟩) hS ?_
                    rotate_left
                    · intro wq hq; (try dsimp only at hq); obtain ⟨hq1, hq2, hq3, hq4, hq5, hq6, hq7, hq8, hq9, hq10⟩ := hq; go_simp; try with_reducible rfl
                    simp only [List.setIfInBounds_toArray, List.set_cons_zero, List.set_cons_succ]
                    refine wpAnyH_takes (i := 17) (d := 70) (v := ?_) rfl rfl (by kernel_rfl) (fun _ _ _ h => h) (Or.inl ⟨by rfl, ?_⟩) hS ?_
                    rotate_left
                    · intro wq hq; (try dsimp only at hq); obtain ⟨hq1, hq2, hq3, hq4, hq5, hq6, hq7, hq8, hq9, hq10⟩ := hq; go_simp; try with_reducible rfl
                    simp only [List.setIfInBounds_toArray, List.set_cons_zero, List.set_cons_succ]
                    refine wpAnyH_takes (i := 18) (d := 71) (v := ?_) rfl rfl (by kernel_rfl) (fun _ _ _ h => h) (Or.inl ⟨by rfl, ?_⟩) hS ?_
                    rotate_left
                    · intro wq hq; (try dsimp only at hq); obtain ⟨hq1, hq2, hq3, hq4, hq5, hq6, hq7, hq8, hq9, hq10⟩ := hq; go_simp; try with_reducible rfl
                    simp only [List.setIfInBounds_toArray, List.set_cons_zero, List.set_cons_succ]
                    refine wpAnyH_takes (i := 19) (d := 72) (v := ?_) rfl rfl (by kernel_rfl) (fun _ _ _ h => h) (Or.inl ⟨by rfl, ?_⟩) hS ?_
                    rotate_left
                    · intro wq hq; (try dsimp only at hq); obtain ⟨hq1, hq2, hq3, hq4, hq5, hq6, hq7, hq8, hq9, hq10⟩ := hq; go_simp; try with_reducible rfl
                    simp only [List.setIfInBounds_toArray, List.set_cons_zero, List.set_cons_succ]
                    refine wpAnyH_takes (i := 20) (d := 73) (v := ?_) rfl rfl (by kernel_rfl) (fun _ _ _ h => h) (Or.inl ⟨by rfl, ?_⟩) hS ?_
                    rotate_left
                    · intro wq hq; (try dsimp only at hq); obtain ⟨hq1, hq2, hq3, hq4, hq5, hq6, hq7, hq8, hq9, hq10⟩ := hq; go_simp; try with_reducible rfl
                    simp only [List.setIfInBounds_toArray, List.set_cons_zero, List.set_cons_succ]
                    refine wpAnyH_takes (i := 21) (d := 74) (v := ?_) rfl rfl (by kernel_rfl) (fun _ _ _ h => h) (Or.inl ⟨by rfl, ?_⟩) hS ?_
                    rotate_left
                    · intro wq hq; (try dsimp only at hq); obtain ⟨hq1, hq2, hq3, hq4, hq5, hq6, hq7, hq8, hq9, hq10⟩ := hq; go_simp; try with_reducible rfl
                    simp only [List.setIfInBounds_toArray, List.set_cons_zero, List.set_cons_succ]
                    refine wpAnyH_takes (i := 22) (d := 75) (v := ?_) rfl rfl (by kernel_rfl) (fun _ _ _ h => h) (Or.inl ⟨by rfl, ?_⟩) hS ?_
                    rotate_left
                    · intro wq hq; (try dsimp only at hq); obtain ⟨hq1, hq2, hq3, hq4, hq5, hq6, hq7, hq8, hq9, hq10⟩ := hq; go_simp; try with_reducible rfl
                    simp only [List.setIfInBounds_toArray, List.set_cons_zero, List.set_cons_succ]
                    refine wpAnyH_takes (i := 23) (d := 76) (v := ?_) rfl rfl (by kernel_rfl) (fun _ _ _ h => h) (Or.inl ⟨by rfl, ?_⟩) hS ?_
                    rotate_left
                    · intro wq hq; (try dsimp only at hq); obtain ⟨hq1, hq2, hq3, hq4, hq5, hq6, hq7, hq8, hq9, hq10⟩ := hq; go_simp; try with_reducible rfl
                    simp only [List.setIfInBounds_toArray, List.set_cons_zero, List.set_cons_succ]
                    refine wpAnyH_takes (i := 24) (d := 77) (v := ?_) rfl rfl (by kernel_rfl) (fun _ _ _ h => h) (Or.inl ⟨by rfl, ?_⟩) hS ?_
                    rotate_left
                    · intro wq hq; (try dsimp only at hq); obtain ⟨hq1, hq2, hq3, hq4, hq5, hq6, hq7, hq8, hq9, hq10⟩ := hq; go_simp; try with_reducible rfl
                    simp only [List.setIfInBounds_toArray, List.set_cons_zero, List.set_cons_succ]
                    refine wpAnyH_takes (i := 25) (d := 78) (v := ?_) rfl rfl (by kernel_rfl) (fun _ _ _ h => h) (Or.inl ⟨by rfl, ?_⟩) hS ?_
                    rotate_left
                    · intro wq hq; (try dsimp only at hq); obtain ⟨hq1, hq2, hq3, hq4, hq5, hq6, hq7, hq8, hq9, hq10⟩ := hq; go_simp; try with_reducible rfl
                    simp only [List.setIfInBounds_toArray, List.set_cons_zero, List.set_cons_succ]
                    refine wpAnyH_takes (i := 26) (d := 79) (v := ?_) rfl rfl (by kernel_rfl) (fun _ _ _ h => h) (Or.inl ⟨by rfl, ?_⟩) hS ?_
                    rotate_left
                    · intro wq hq; (try dsimp only at hq); obtain ⟨hq1, hq2, hq3, hq4, hq5, hq6, hq7, hq8, hq9, hq10⟩ := hq; go_simp; try with_reducible rfl
                    simp only [List.setIfInBounds_toArray, List.set_cons_zero, List.set_cons_succ]
                    refine wpAnyH_takes (i := 27) (d := 80) (v := ?_) rfl rfl (by kernel_rfl) (fun _ _ _ h => h) (Or.inl ⟨by rfl, ?_⟩) hS ?_
                    rotate_left
                    · intro wq hq; (try dsimp only at hq); obtain ⟨hq1, hq2, hq3, hq4, hq5, hq6, hq7, hq8, hq9, hq10⟩ := hq; go_simp; try with_reducible rfl
                    simp only [List.setIfInBounds_toArray, List.set_cons_zero, List.set_cons_succ]
                    refine wpAnyH_one (i := 28) (by kernel_rfl) rfl (by rfl) (fun K hK => ?_)
                    simp only [List.getElem_toArray, List.getElem_cons_succ, List.getElem_cons_zero]
                    go_simp
                    refine (HAF.out _).mono ?_
                    rintro e wb ⟨rfl, hb⟩
                    have HQ := Lib.hid (below_thru (below_drewN0 w4 1) hb)
                    clear hb
                    refine hK.out _ _ (HS.out wb HQ.out) ?_
                    clear hK K hS
                    have hS := (HS.out wb HQ.out)
                    try simp only [Act.put, List.setIfInBounds_toArray, List.set_cons_zero, List.set_cons_succ]
                    refine wpAnyH_takes (i := 29) (d := 82) (v := ?_) rfl rfl (by kernel_rfl) (fun _ _ _ h => h) (Or.inl ⟨by rfl, ?_⟩) hS ?_
                    rotate_left
                    · intro wq hq; (try dsimp only at hq); obtain ⟨hq1, hq2, hq3, hq4, hq5, hq6, hq7, hq8, hq9, hq10⟩ := hq; go_simp; try with_reducible rfl
                    simp only [List.setIfInBounds_toArray, List.set_cons_zero, List.set_cons_succ]
                    refine wpAnyH_takes (i := 30) (d := 83) (v := ?_) rfl rfl (by kernel_rfl) (fun _ _ _ h => h) (Or.inl ⟨by rfl, ?_⟩) hS ?_
                    rotate_left
                    · intro wq hq; (try dsimp only at hq); obtain ⟨hq1, hq2, hq3, hq4, hq5, hq6, hq7, hq8, hq9, hq10⟩ := hq; go_simp; try with_reducible rfl
                    simp only [List.setIfInBounds_toArray, List.set_cons_zero, List.set_cons_succ]
                    refine wpAnyH_done (by kernel_rfl) ?_ _
                    go_wp2
                    go_meet
                    exact ⟨ret_v (by rw [HOK0.out]; rw [q1b, ← HGI.out]; simp), HQ.out⟩
                  · have q2b : (b1 == a0) = false := by rw [beq_eq_false_iff_ne]; exact q2
                    refine wp_region_H (fun z => z.cell? ⟨lb, lo + k * 6 + 1, none⟩ = some (.int .i64 b1) ∧ z.cell? ⟨lb, lo + (k + 1) * 6, none⟩ = some (.int .i64 a0) ∧ z.cell? ⟨xb, 0, none⟩ = some (.int .i64 y0) ∧ z.cell? ⟨xb, 1, none⟩ = some (.bool y1) ∧ z.cell? ⟨xb, 2, none⟩ = some (.int .i64 y2) ∧ z.cell? ⟨xb, 3, none⟩ = some (.int .i64 y3) ∧ z.cell? ⟨yb, 0, none⟩ = some (.int .i64 z0) ∧ z.cell? ⟨yb, 1, none⟩ = some (.bool z1) ∧ z.cell? ⟨yb, 2, none⟩ = some (.int .i64 z2) ∧ z.cell? ⟨yb, 3, none⟩ = some (.int .i64 z3)) 31 (by rfl) (by kernel_rfl) ?_
                    have hS : (fun z : World => z.cell? ⟨lb, lo + k * 6 + 1, none⟩ = some (.int .i64 b1) ∧ z.cell? ⟨lb, lo + (k + 1) * 6, none⟩ = some (.int .i64 a0) ∧ z.cell? ⟨xb, 0, none⟩ = some (.int .i64 y0) ∧ z.cell? ⟨xb, 1, none⟩ = some (.bool y1) ∧ z.cell? ⟨xb, 2, none⟩ = some (.int .i64 y2) ∧ z.cell? ⟨xb, 3, none⟩ = some (.int .i64 y3) ∧ z.cell? ⟨yb, 0, none⟩ = some (.int .i64 z0) ∧ z.cell? ⟨yb, 1, none⟩ = some (.bool z1) ∧ z.cell? ⟨yb, 2, none⟩ = some (.int .i64 z2) ∧ z.cell? ⟨yb, 3, none⟩ = some (.int .i64 z3)) w4.drew := HS.out w4.drew (below_drewN0 w4 1)
                    try simp only [Array.replicate, List.replicate, List.setIfInBounds_toArray]
                    refine wpAnyH_takes (i := 0) (d := 53) (v := ?_) rfl rfl (by kernel_rfl) (fun _ _ _ h => h) (Or.inl ⟨by rfl, ?_⟩) hS ?_
                    rotate_left
                    · intro wq hq; (try dsimp only at hq); obtain ⟨hq1, hq2, hq3, hq4, hq5, hq6, hq7, hq8, hq9, hq10⟩ := hq; go_simp; try with_reducible rfl
                    simp only [List.setIfInBounds_toArray, List.set_cons_zero, List.set_cons_succ]
                    refine wpAnyH_takes (i := 1) (d := 54) (v := ?_) rfl rfl (by kernel_rfl) (fun _ _ _ h => h) (Or.inl ⟨by rfl, ?_⟩) hS ?_
                    rotate_left
                    · intro wq hq; (try dsimp only at hq); obtain ⟨hq1, hq2, hq3, hq4, hq5, hq6, hq7, hq8, hq9, hq10⟩ := hq; go_simp; try with_reducible rfl
                    simp only [List.setIfInBounds_toArray, List.set_cons_zero, List.set_cons_succ]
                    refine wpAnyH_takes (i := 2) (d := 55) (v := ?_) rfl rfl (by kernel_rfl) (fun _ _ _ h => h) (Or.inl ⟨by rfl, ?_⟩) hS ?_
                    rotate_left
                    · intro wq hq; (try dsimp only at hq); obtain ⟨hq1, hq2, hq3, hq4, hq5, hq6, hq7, hq8, hq9, hq10⟩ := hq; go_simp; try with_reducible rfl
                    simp only [List.setIfInBounds_toArray, List.set_cons_zero, List.set_cons_succ]
                    refine wpAnyH_takes (i := 3) (d := 56) (v := ?_) rfl rfl (by kernel_rfl) (fun _ _ _ h => h) (Or.inl ⟨by rfl, ?_⟩) hS ?_
                    rotate_left
                    · intro wq hq; (try dsimp only at hq); obtain ⟨hq1, hq2, hq3, hq4, hq5, hq6, hq7, hq8, hq9, hq10⟩ := hq; go_simp; try with_reducible rfl
                    simp only [List.setIfInBounds_toArray, List.set_cons_zero, List.set_cons_succ]
                    refine wpAnyH_takes (i := 4) (d := 57) (v := ?_) rfl rfl (by kernel_rfl) (fun _ _ _ h => h) (Or.inl ⟨by rfl, ?_⟩) hS ?_
                    rotate_left
                    · intro wq hq; (try dsimp only at hq); obtain ⟨hq1, hq2, hq3, hq4, hq5, hq6, hq7, hq8, hq9, hq10⟩ := hq; go_simp; try with_reducible rfl
                    simp only [List.setIfInBounds_toArray, List.set_cons_zero, List.set_cons_succ]
                    refine wpAnyH_takes (i := 5) (d := 58) (v := ?_) rfl rfl (by kernel_rfl) (fun _ _ _ h => h) (Or.inl ⟨by rfl, ?_⟩) hS ?_
                    rotate_left
                    · intro wq hq; (try dsimp only at hq); obtain ⟨hq1, hq2, hq3, hq4, hq5, hq6, hq7, hq8, hq9, hq10⟩ := hq; go_simp; try with_reducible rfl
                    simp only [List.setIfInBounds_toArray, List.set_cons_zero, List.set_cons_succ]
                    refine wpAnyH_takes (i := 6) (d := 59) (v := ?_) rfl rfl (by kernel_rfl) (fun _ _ _ h => h) (Or.inl ⟨by rfl, ?_⟩) hS ?_
                    rotate_left
                    · intro wq hq; (try dsimp only at hq); obtain ⟨hq1, hq2, hq3, hq4, hq5, hq6, hq7, hq8, hq9, hq10⟩ := hq; go_simp; try with_reducible rfl
                    simp only [List.setIfInBounds_toArray, List.set_cons_zero, List.set_cons_succ]
                    refine wpAnyH_takes (i := 7) (d := 60) (v := ?_) rfl rfl (by kernel_rfl) (fun _ _ _ h => h) (Or.inl ⟨by rfl, ?_⟩) hS ?_
                    rotate_left
                    · intro wq hq; (try dsimp only at hq); obtain ⟨hq1, hq2, hq3, hq4, hq5, hq6, hq7, hq8, hq9, hq10⟩ := hq; go_simp; try with_reducible rfl
                    simp only [List.setIfInBounds_toArray, List.set_cons_zero, List.set_cons_succ]
                    refine wpAnyH_takes (i := 8) (d := 61) (v := ?_) rfl rfl (by kernel_rfl) (fun _ _ _ h => h) (Or.inl ⟨by rfl, ?_⟩) hS ?_
                    rotate_left
                    · intro wq hq; (try dsimp only at hq); obtain ⟨hq1, hq2, hq3, hq4, hq5, hq6, hq7, hq8, hq9, hq10⟩ := hq; go_simp; try with_reducible rfl
                    simp only [List.setIfInBounds_toArray, List.set_cons_zero, List.set_cons_succ]
                    refine wpAnyH_takes (i := 9) (d := 62) (v := ?_) rfl rfl (by kernel_rfl) (fun _ _ _ h => h) (Or.inl ⟨by rfl, ?_⟩) hS ?_
                    rotate_left
                    · intro wq hq; (try dsimp only at hq); obtain ⟨hq1, hq2, hq3, hq4, hq5, hq6, hq7, hq8, hq9, hq10⟩ := hq; go_simp; try with_reducible rfl
                    simp only [List.setIfInBounds_toArray, List.set_cons_zero, List.set_cons_succ]
                    refine wpAnyH_takes (i := 10) (d := 63) (v := ?_) rfl rfl (by kernel_rfl) (fun _ _ _ h => h) (Or.inl ⟨by rfl, ?_⟩) hS ?_
                    rotate_left
                    · intro wq hq; (try dsimp only at hq); obtain ⟨hq1, hq2, hq3, hq4, hq5, hq6, hq7, hq8, hq9, hq10⟩ := hq; go_simp; try with_reducible rfl
                    simp only [List.setIfInBounds_toArray, List.set_cons_zero, List.set_cons_succ]
                    refine wpAnyH_takes (i := 11) (d := 64) (v := ?_) rfl rfl (by kernel_rfl) (fun _ _ _ h => h) (Or.inl ⟨by rfl, ?_⟩) hS ?_
                    rotate_left
                    · intro wq hq; (try dsimp only at hq); obtain ⟨hq1, hq2, hq3, hq4, hq5, hq6, hq7, hq8, hq9, hq10⟩ := hq; go_simp; try with_reducible rfl
                    simp only [List.setIfInBounds_toArray, List.set_cons_zero, List.set_cons_succ]
                    refine wpAnyH_takes (i := 12) (d := 65) (v := ?_) rfl rfl (by kernel_rfl) (fun _ _ _ h => h) (Or.inl ⟨by rfl, ?_⟩) hS ?_
                    rotate_left
                    · intro wq hq; (try dsimp only at hq); obtain ⟨hq1, hq2, hq3, hq4, hq5, hq6, hq7, hq8, hq9, hq10⟩ := hq; go_simp; try with_reducible rfl
                    simp only [List.setIfInBounds_toArray, List.set_cons_zero, List.set_cons_succ]
                    refine wpAnyH_takes (i := 13) (d := 66) (v := ?_) rfl rfl (by kernel_rfl) (fun _ _ _ h => h) (Or.inl ⟨by rfl, ?_⟩) hS ?_
                    rotate_left
                    · intro wq hq; (try dsimp only at hq); obtain ⟨hq1, hq2, hq3, hq4, hq5, hq6, hq7, hq8, hq9, hq10⟩ := hq; go_simp; try with_reducible rfl
                    simp only [List.setIfInBounds_toArray, List.set_cons_zero, List.set_cons_succ]
                    refine wpAnyH_takes (i := 14) (d := 67) (v := ?_) rfl rfl (by kernel_rfl) (fun _ _ _ h => h) (Or.inl ⟨by rfl, ?_⟩) hS ?_
                    rotate_left
                    · intro wq hq; (try dsimp only at hq); obtain ⟨hq1, hq2, hq3, hq4, hq5, hq6, hq7, hq8, hq9, hq10⟩ := hq; go_simp; try with_reducible rfl
                    simp only [List.setIfInBounds_toArray, List.set_cons_zero, List.set_cons_succ]
                    refine wpAnyH_takes (i := 15) (d := 68) (v := ?_) rfl rfl (by kernel_rfl) (fun _ _ _ h => h) (Or.inl ⟨by rfl, ?_⟩) hS ?_
                    rotate_left
                    · intro wq hq; (try dsimp only at hq); obtain ⟨hq1, hq2, hq3, hq4, hq5, hq6, hq7, hq8, hq9, hq10⟩ := hq; go_simp; try with_reducible rfl
                    simp only [List.setIfInBounds_toArray, List.set_cons_zero, List.set_cons_succ]
                    refine wpAnyH_takes (i := 16) (d := 69) (v := ?_) rfl rfl (by kernel_rfl) (fun _ _ _ h => h) (Or.inl ⟨by rfl, ?_⟩) hS ?_
                    rotate_left
                    · intro wq hq; (try dsimp only at hq); obtain ⟨hq1, hq2, hq3, hq4, hq5, hq6, hq7, hq8, hq9, hq10⟩ := hq; go_simp; try with_reducible rfl
                    simp only [List.setIfInBounds_toArray, List.set_cons_zero, List.set_cons_succ]
                    refine wpAnyH_takes (i := 17) (d := 70) (v := ?_) rfl rfl (by kernel_rfl) (fun _ _ _ h => h) (Or.inl ⟨by rfl, ?_⟩) hS ?_
                    rotate_left
                    · intro wq hq; (try dsimp only at hq); obtain ⟨hq1, hq2, hq3, hq4, hq5, hq6, hq7, hq8, hq9, hq10⟩ := hq; go_simp; try with_reducible rfl
                    simp only [List.setIfInBounds_toArray, List.set_cons_zero, List.set_cons_succ]
                    refine wpAnyH_takes (i := 18) (d := 71) (v := ?_) rfl rfl (by kernel_rfl) (fun _ _ _ h => h) (Or.inl ⟨by rfl, ?_⟩) hS ?_
                    rotate_left
                    · intro wq hq; (try dsimp only at hq); obtain ⟨hq1, hq2, hq3, hq4, hq5, hq6, hq7, hq8, hq9, hq10⟩ := hq; go_simp; try with_reducible rfl
                    simp only [List.setIfInBounds_toArray, List.set_cons_zero, List.set_cons_succ]
                    refine wpAnyH_takes (i := 19) (d := 72) (v := ?_) rfl rfl (by kernel_rfl) (fun _ _ _ h => h) (Or.inl ⟨by rfl, ?_⟩) hS ?_
                    rotate_left
                    · intro wq hq; (try dsimp only at hq); obtain ⟨hq1, hq2, hq3, hq4, hq5, hq6, hq7, hq8, hq9, hq10⟩ := hq; go_simp; try with_reducible rfl
                    simp only [List.setIfInBounds_toArray, List.set_cons_zero, List.set_cons_succ]
                    refine wpAnyH_takes (i := 20) (d := 73) (v := ?_) rfl rfl (by kernel_rfl) (fun _ _ _ h => h) (Or.inl ⟨by rfl, ?_⟩) hS ?_
                    rotate_left
                    · intro wq hq; (try dsimp only at hq); obtain ⟨hq1, hq2, hq3, hq4, hq5, hq6, hq7, hq8, hq9, hq10⟩ := hq; go_simp; try with_reducible rfl
                    simp only [List.setIfInBounds_toArray, List.set_cons_zero, List.set_cons_succ]
                    refine wpAnyH_takes (i := 21) (d := 74) (v := ?_) rfl rfl (by kernel_rfl) (fun _ _ _ h => h) (Or.inl ⟨by rfl, ?_⟩) hS ?_
                    rotate_left
                    · intro wq hq; (try dsimp only at hq); obtain ⟨hq1, hq2, hq3, hq4, hq5, hq6, hq7, hq8, hq9, hq10⟩ := hq; go_simp; try with_reducible rfl
                    simp only [List.setIfInBounds_toArray, List.set_cons_zero, List.set_cons_succ]
                    refine wpAnyH_takes (i := 22) (d := 75) (v := ?_) rfl rfl (by kernel_rfl) (fun _ _ _ h => h) (Or.inl ⟨by rfl, ?_⟩) hS ?_
                    rotate_left
                    · intro wq hq; (try dsimp only at hq); obtain ⟨hq1, hq2, hq3, hq4, hq5, hq6, hq7, hq8, hq9, hq10⟩ := hq; go_simp; try with_reducible rfl
                    simp only [List.setIfInBounds_toArray, List.set_cons_zero, List.set_cons_succ]
                    refine wpAnyH_takes (i := 23) (d := 76) (v := ?_) rfl rfl (by kernel_rfl) (fun _ _ _ h => h) (Or.inl ⟨by rfl, ?_⟩) hS ?_
                    rotate_left
                    · intro wq hq; (try dsimp only at hq); obtain ⟨hq1, hq2, hq3, hq4, hq5, hq6, hq7, hq8, hq9, hq10⟩ := hq; go_simp; try with_reducible rfl
                    simp only [List.setIfInBounds_toArray, List.set_cons_zero, List.set_cons_succ]
                    refine wpAnyH_takes (i := 24) (d := 77) (v := ?_) rfl rfl (by kernel_rfl) (fun _ _ _ h => h) (Or.inl ⟨by rfl, ?_⟩) hS ?_
                    rotate_left
                    · intro wq hq; (try dsimp only at hq); obtain ⟨hq1, hq2, hq3, hq4, hq5, hq6, hq7, hq8, hq9, hq10⟩ := hq; go_simp; try with_reducible rfl
                    simp only [List.setIfInBounds_toArray, List.set_cons_zero, List.set_cons_succ]
                    refine wpAnyH_takes (i := 25) (d := 78) (v := ?_) rfl rfl (by kernel_rfl) (fun _ _ _ h => h) (Or.inl ⟨by rfl, ?_⟩) hS ?_
                    rotate_left
                    · intro wq hq; (try dsimp only at hq); obtain ⟨hq1, hq2, hq3, hq4, hq5, hq6, hq7, hq8, hq9, hq10⟩ := hq; go_simp; try with_reducible rfl
                    simp only [List.setIfInBounds_toArray, List.set_cons_zero, List.set_cons_succ]
                    refine wpAnyH_takes (i := 26) (d := 79) (v := undef) rfl rfl (by kernel_rfl) (fun _ _ _ h => h) (Or.inr ⟨by rfl, by rfl⟩) hS ?_
                    simp only [List.setIfInBounds_toArray, List.set_cons_zero, List.set_cons_succ]
                    refine wpAnyH_takes (i := 27) (d := 80) (v := undef) rfl rfl (by kernel_rfl) (fun _ _ _ h => h) (Or.inr ⟨by rfl, by rfl⟩) hS ?_
                    simp only [List.setIfInBounds_toArray, List.set_cons_zero, List.set_cons_succ]
                    refine wpAnyH_takes (i := 28) (d := 81) (v := undef) rfl rfl (by kernel_rfl) (fun _ _ _ h => h) (Or.inr ⟨by rfl, by rfl⟩) hS ?_
                    simp only [List.setIfInBounds_toArray, List.set_cons_zero, List.set_cons_succ]
                    refine wpAnyH_takes (i := 29) (d := 82) (v := ?_) rfl rfl (by kernel_rfl) (fun _ _ _ h => h) (Or.inl ⟨by rfl, ?_⟩) hS ?_
                    rotate_left
                    · intro wq hq; (try dsimp only at hq); obtain ⟨hq1, hq2, hq3, hq4, hq5, hq6, hq7, hq8, hq9, hq10⟩ := hq; go_simp; try with_reducible rfl
                    simp only [List.setIfInBounds_toArray, List.set_cons_zero, List.set_cons_succ]
                    refine wpAnyH_takes (i := 30) (d := 83) (v := ?_) rfl rfl (by kernel_rfl) (fun _ _ _ h => h) (Or.inl ⟨by rfl, ?_⟩) hS ?_
                    rotate_left
                    · intro wq hq; (try dsimp only at hq); obtain ⟨hq1, hq2, hq3, hq4, hq5, hq6, hq7, hq8, hq9, hq10⟩ := hq; go_simp; try with_reducible rfl
                    simp only [List.setIfInBounds_toArray, List.set_cons_zero, List.set_cons_succ]
                    refine wpAnyH_done (by kernel_rfl) ?_ _
                    go_wp2
                    go_meet
                    exact ⟨ret_v (by rw [HOK0.out]; rw [q1b, HNG.out q2]; rfl), below_drewN0 w4 1⟩
-- ENDMARK
              case rest =>
                obtain ⟨rfl, hb5⟩ := hcut
                have HL5 := Lib.hid (below_thru (below_thru (below_thru HL1.out HB3.out) HB4.out) hb5)
                cases hok : okAt zs (k + 1) with
                | false =>
                  have HBAD := Lib.hid (HBD.out hok)
                  clear hok
                  go_wp2
                  go_ret
                  exact ⟨ret_goes (by rw [HBAD.out]), HL5.out⟩
                | true =>
                  have HGOOD := Lib.hid (HGD.out hok)
                  clear hok
                  go_wp2
                  go_roundw
                  case rel => exact ⟨k + 1 + 1, by omega, by go_num, HGOOD.out, HL5.out⟩
                  case measure => simp [intOf]; omega
    · obtain rfl : i = len := by omega
      have HE := Lib.hid (rightB_all hzl hall)
      go_wp2
      go_ret
      exact ⟨ret_goes (by rw [HE.out]), hlow⟩
end Go.Proofs.Ytohidmkfpaiklaa
