/- The reference of layer 16: Node, of a slot's words. -/
import Derived.Test.YtldccemgfjmcdaaRef16A
namespace Go.Proofs.Ytldccemgfjmcdaa
open Go.RowKit
set_option linter.unusedSimpArgs false
set_option linter.unusedVariables false

theorem take_next {x : List Int} {c j : Nat} (h : c + j < x.length) : (x.drop c).take j ++ [x.getD (c + j) 0] = (x.drop c).take (j + 1) := by
  rw [List.take_succ_eq_append_getElem (by simp; omega)]
  simp [List.getD_eq_getElem?_getD, List.getElem?_eq_getElem h]
def RefNodePost (w : World) (x : List Int) (e : Ending) (w' : World) : Prop :=
  Below w.heap.size w w' ∧ ∃ d0 d1 d2 d3 d4, e = .returned (.tuple #[.agg #[d0, d1, d2, d3, d4], .bool (nodeP x).1.isSome, .int .i64 (nodeP x).2]) ∧ NodeIs w' (nodeP x).1 d0 d1 d2 d3 d4
/-- .. and its rows are new. -/
def NodeWas (w w' : World) (n : Option NodeV) (d0 d1 d2 d3 d4 : Value) : Prop :=
  (n = none ∧ d0 = .bool false ∧ d1 = .int .i64 0 ∧ d2 = .slice none 0 0 ∧ d3 = .slice none 0 0 ∧ d4 = .slice none 0 0) ∨
  ∃ m g1 g2 g3 c1 c2 c3, n = some m ∧ d0 = .bool m.inner ∧ d1 = .int .i64 m.lo ∧ d2 = .slice (some ⟨g1, 0, none⟩) m.ends.length c1 ∧ d3 = .slice (some ⟨g2, 0, none⟩) m.slots.length c2 ∧ d4 = .slice (some ⟨g3, 0, none⟩) m.gaps.length c3 ∧ NodeNew w w' [] m g1 g2 g3 c1 c2 c3
theorem NodeWas.is {w w' : World} {n : Option NodeV} {d0 d1 d2 d3 d4 : Value} (h : NodeWas w w' n d0 d1 d2 d3 d4) : NodeIs w' n d0 d1 d2 d3 d4 := by
  rcases h with h | ⟨m, g1, g2, g3, c1, c2, c3, e0, e1, e2, e3, e4, e5, hn⟩
  · exact .inl h
  · exact .inr ⟨m, g1, g2, g3, c1, c2, c3, e0, e1, e2, e3, e4, e5, hn.r1, hn.r2, hn.r3, hn.wf, hn.ok⟩
def RefNodeNew (w : World) (x : List Int) (e : Ending) (w' : World) : Prop :=
  Below w.heap.size w w' ∧ ∃ d0 d1 d2 d3 d4, e = .returned (.tuple #[.agg #[d0, d1, d2, d3, d4], .bool (nodeP x).1.isSome, .int .i64 (nodeP x).2]) ∧ NodeWas w w' (nodeP x).1 d0 d1 d2 d3 d4
def NAt16 (w wr : World) (rb nb : Nat) (inn : Bool) (lo : Int) (x : List Int) (j1 j2 j3 : Nat) : Prop :=
  Below w.heap.size w wr ∧ Blk wr rb 50 #[.bool false, .int .i64 0, .slice none 0 0, .slice none 0 0, .slice none 0 0] ∧ ∃ A1 c1 A2 c2 A3 c3, RowsAt wr w.heap.size nb 50 [.bool inn, .int .i64 lo] [⟨A1, c1, (x.drop 2).take j1⟩, ⟨A2, c2, (x.drop 10).take j2⟩, ⟨A3, c3, (x.drop 18).take j3⟩] []
theorem RefNodeNew.no {w w' : World} {x : List Int} (hb : Below w.heap.size w w') {n : Nat} (h : nodeP x = (none, n)) {k : Int} (hk : k = n) : RefNodeNew w x (.returned (.tuple #[.agg #[.bool false, .int .i64 0, .slice none 0 0, .slice none 0 0, .slice none 0 0], .bool false, .int .i64 k])) w' := by
  refine ⟨hb, _, _, _, _, _, ?_, .inl ⟨by rw [h], rfl, rfl, rfl, rfl, rfl⟩⟩
  rw [h, hk]
  rfl
set_option maxRecDepth 100000 in
set_option maxHeartbeats 8000000 in
theorem ref16_nodeN (a : Option Addr) (cap : Nat) (x : List Int) (w : World) (h : Ints w a 28 cap x) :
    Calls Try.prog 30 #[.slice a 28 cap] w (RefNodeNew w x) := by
  have hle := h.le
  have hm := h.hm
  unfold maxLen at hm
  have HLEN := Lib.hid h.hl
  have hxl := h.hl
  have HWF := Lib.hid h.wf
  obtain ⟨xlo, xhi⟩ := bounds_i64 (h.wf_at (i := 0) (by decide))
  obtain ⟨b, o, rfl, hlt, hc⟩ := ints_all h (by decide)
  have HC := Lib.hid hc
  have HWL := Lib.hid (show WfI (x.getD 1 0) from h.wf_at (i := 1) (by decide))
  have HB := Lib.hid (Below.refl w.heap.size w)
  have q0 := hc w HB.out 0 (by decide)
  simp only [Nat.add_zero] at q0
  clear h hc hlt
  by_cases hgood : 17 ≤ x.getD 0 0 ∧ x.getD 0 0 ≤ 130 ∧ (x.getD 0 0 % 16 = 1 ∨ x.getD 0 0 % 16 = 2)
  · have HY := Lib.hid (headOf_yes hgood)
    obtain ⟨g1, g2, g3⟩ := hgood
    have HNP := Lib.hid (show nodeP x = (nodeAns (x.getD 0 0 % 16 == 2) (x.getD 1 0) ((x.drop 2).take (x.getD 0 0 / 16).toNat, (x.drop 10).take (x.getD 0 0 / 16).toNat, (x.drop 18).take (x.getD 0 0 / 16).toNat), 2 + 3 * (x.getD 0 0 / 16).toNat) by
      unfold nodeP
      rw [HY.out]
      simp only
      rw [if_neg (by omega)])
    clear HY
    obtain ⟨x0, hx0⟩ : ∃ y, x.getD 0 0 = y := ⟨_, rfl⟩
    rw [hx0] at q0 g1 g2 g3 HNP xlo xhi
    have HX0 := Lib.hid hx0
    clear hx0
    obtain ⟨K, hK⟩ : ∃ K : Nat, x0 / 16 = (K : Int) := ⟨(x0 / 16).toNat, by omega⟩
    have k1 : 1 ≤ K ∧ K ≤ 8 := by omega
    obtain ⟨k1, k8⟩ := k1
    have t0 : ¬ x0 < 0 := by omega
    have t1 : ¬ x0 % 16 < 1 := by omega
    have t2 : ¬ 2 < x0 % 16 := by omega
    have t3 : ¬ (K : Int) < 1 := by omega
    have t4 : ¬ (8 : Int) < (K : Int) := by omega
    rw [hK, Int.toNat_natCast] at HNP
    obtain ⟨inn, hinn⟩ : ∃ inn, (x0 % 16 == 2) = inn := ⟨_, rfl⟩
    obtain ⟨lo, hlo⟩ : ∃ lo, x.getD 1 0 = lo := ⟨_, rfl⟩
    rw [hinn, hlo] at HNP
    rw [hlo] at HWL
    have HLO := Lib.hid hlo
    have HK := Lib.hid hK
    have HI := Lib.hid hinn
    clear hK hinn hlo g3
    go_enter Try.func30, Try.ntmps30
    replace HB := Lib.hid (below_thru HB.out (below_alloc0 w (.cells #[.bool false, .int .i64 0, .slice none 0 0, .slice none 0 0, .slice none 0 0] 50)))
    have HRB := Lib.hid (Blk.new w 50 #[.bool false, .int .i64 0, .slice none 0 0, .slice none 0 0, .slice none 0 0])
    go_upto_region 1 with fail
    have HZ := Lib.hid (World.size_alloc w (.cells #[.bool false, .int .i64 0, .slice none 0 0, .slice none 0 0, .slice none 0 0] 50))
    obtain ⟨rb, hrb⟩ : ∃ x, w.heap.size = x := ⟨_, rfl⟩
    simp only [hrb] at HRB HZ ⊢
    replace hrb := Lib.hid hrb
    generalize w.alloc (.cells #[.bool false, .int .i64 0, .slice none 0 0, .slice none 0 0, .slice none 0 0] 50) = w1 at *
    clear q0
    have q0 := HC.out w1 HB.out 0 (by decide)
    rw [HX0.out] at q0
    simp only [Nat.add_zero] at q0
    have q1 := HC.out w1 HB.out 1 (by decide)
    rw [HLO.out] at q1
    go_upto_region 2 with fail
    rw [HK.out]
    go_upto_region 4 with fail
    have n0 := World.new_ne w1 _ q0
    have n1 := World.new_ne w1 _ q1
    go_region_held3 (fun x => x.cell? ⟨b, o, none⟩ = some (.int .i64 x0) ∧ x.cell? ⟨b, o + 1, none⟩ = some (.int .i64 lo)) (go_keep) (first | fail)
    clear n0 n1 q0 q1
    rw [show x0.tmod 16 = x0 % 16 from Int.tmod_eq_emod_of_nonneg (by omega), HI.out]
    replace HB := Lib.hid (below_thru HB.out (below_alloc0 w1 (.cells #[.bool inn, .int .i64 lo, .slice none 0 0, .slice none 0 0, .slice none 0 0] 50)))
    replace HRB := Lib.hid (HRB.out.thru (below_alloc0 w1 (.cells #[.bool inn, .int .i64 lo, .slice none 0 0, .slice none 0 0, .slice none 0 0] 50)))
    have HNW := Lib.hid (Blk.new w1 50 #[.bool inn, .int .i64 lo, .slice none 0 0, .slice none 0 0, .slice none 0 0])
    rw [HZ.out] at HNW
    try simp only [HZ.out]
    replace HZ := Lib.hid (show (w1.alloc (.cells #[.bool inn, .int .i64 lo, .slice none 0 0, .slice none 0 0, .slice none 0 0] 50)).heap.size = rb + 1 + 1 by rw [World.size_alloc, HZ.out])
    generalize w1.alloc (.cells #[.bool inn, .int .i64 lo, .slice none 0 0, .slice none 0 0, .slice none 0 0] 50) = w2 at *
    replace HB := Lib.hid (below_thru HB.out (show Below w2.heap.size w2 w2.drew from below_drewN0 w2 1))
    replace HRB := Lib.hid (HRB.out.thru (show Below w2.heap.size w2 w2.drew from below_drewN0 w2 1))
    replace HNW := Lib.hid (HNW.out.thru (show Below w2.heap.size w2 w2.drew from below_drewN0 w2 1))
    generalize w2.drew = w3 at *
    obtain ⟨nb, hnb⟩ : ∃ nb, rb + 1 = nb := ⟨_, rfl⟩
    simp only [hnb] at HNW ⊢
    have HNE := Lib.hid (show rb ≠ nb by omega)
    have HNB := Lib.hid (show w.heap.size ≤ nb by rw [hrb.out]; omega)
    have HRN := Lib.hid (show w.heap.size ≤ rb by rw [hrb.out]; exact Nat.le_refl _)
    have H0 := Lib.hid (show NAt16 w w3 rb nb inn lo x 0 0 0 from ⟨HB.out, HRB.out, none, 0, none, 0, none, 0,
      ⟨HNW.out, by simp [RowV3.val, i64s, World.ownsRow_nil], by intro i l y z hy hz hil d hd; have hy2 := List.mem_of_getElem? hy; simp at hy2; rcases hy2 with rfl | rfl | rfl <;> simp [blockOf] at hd, by simp, by simp, by decide⟩⟩)
    clear HB HRB HNW hnb hrb HX0 HI HZ t1 t2
    go_wp2
    go_loopw [7] (fun v wr => ∃ j : Nat, j ≤ K ∧ v = .int .i64 j ∧ NAt16 w wr rb nb inn lo x j j j) (fun v _ => K - (intOf v).toNat)
    case atStart => exact ⟨0, Nat.zero_le _, rfl, H0.out⟩
    case round =>
      clear H0
      obtain ⟨j, hj, rfl, hat⟩ := hrel
      by_cases hlt : j < K
      · obtain ⟨hb, hrb, A1, c1, A2, c2, A3, c3, hrw⟩ := hat
        have HB := Lib.hid hb
        have HRB := Lib.hid hrb
        have HRW := Lib.hid hrw
        clear hb hrb hrw
        go_upto_region 8 with fail
        go_cut [] (fun wc => NAt16 w wc rb nb inn lo x (j + 1) j j)
        case first =>
          have c0 : wr.drew.cell? ⟨nb, 2, none⟩ = some (.slice A1 ((x.drop 2).take j).length c1) := (HRW.out.upd ((Upd.refl [] wr).drewN 1) (by simp) (by simp)).field (k := 0) rfl
          have c0a : (wr.alloc (.cells #[.int .i64 (x.getD (2 + j) 0)] 2)).drew.cell? ⟨nb, 2, none⟩ = some (.slice A1 ((x.drop 2).take j).length c1) := ((HRW.out.upd ((Upd.refl [] wr).drewN 1) (by simp) (by simp)).thru (below_alloc0 _ _)).field (k := 0) rfl
          have q0 : wr.drew.cell? ⟨b, o + (2 + j), none⟩ = some (.int .i64 (x.getD (2 + j) 0)) := HC.out wr.drew (below_drewN HB.out 1) (2 + j) (by omega)
          have hw1 : IntKind.i64.wrap (2 + (j : Int)) = (2 : Int) + (j : Int) := IntWalk.i64_in _ (by omega)
          have HQ := Lib.hid hw1
          have HV := Lib.hid (show ((x.drop 2).take j) ++ [x.getD (2 + j) 0] = (x.drop 2).take (j + 1) from take_next (by omega))
          have HLE := Lib.hid (show ((x.drop 2).take j).length ≤ 8 by simp; omega)
          have hle8 := HLE.out
          have ht1 : (2 + (j : Int)).toNat = 2 + j := by omega
          have ht2 : (0 : Int) ≤ 2 + (j : Int) := by omega
          have ht3 : (2 : Int) + (j : Int) < 28 := by omega
          obtain ⟨i0, hi, hz0, hz1, hz2⟩ := info_parts info_i64
          obtain ⟨v, hv⟩ : ∃ v, x.getD (2 + j) 0 = v := ⟨_, rfl⟩
          rw [hv] at c0a q0 HV
          obtain ⟨xs, hxs⟩ : ∃ xs, ((x.drop 2).take j) = xs := ⟨_, rfl⟩
          rw [hxs] at c0 c0a HV HLE hle8
          simp only [hxs] at HRW
          have HXS := Lib.hid hxs
          clear hv hxs
          go_region_law
            (first
              | (clear hw1; refine step_append_lies _ (by rfl) _ _ _ (by rfl) w.heap.size 2 i0 _ 1 8 Try.underlying31 hi hz0 hz1 hz2 rfl (by omega) (.slice A1 xs.length c1) xs.length (i64s xs) (by rfl) (((HRW.out.own ⟨A1, c1, xs⟩ (by simp)).alloc _).drew)
                  ⟨wr.heap.size, 0, none⟩ 1 1 [.int .i64 v] (by rfl) (by rfl) (World.news_of_block (cs := #[.int .i64 v]) (t := 2) (fr := (0, 0)) (heap_alloc_new wr _)) (by simp [Value.oneCell'])
                  (by omega) (by unfold maxLen; omega) (by omega) (by have := HB.out.size; simp; omega) (wr.heap.size + 1) (by simp) ?_; intro g cap' w4 hown' hgrow hat hlt'; obtain ⟨-, -, c8, f8⟩ := (HRW.out.upd ((Upd.refl [] wr).drewN 1) (by simp) (by simp)).append (k := 0) (r := ⟨A1, c1, xs⟩) rfl _ hown' hgrow hat (by simp); replace c8 : w4.cell? ⟨nb, 2, none⟩ = some (.slice A1 xs.length c1) := c8; replace f8 : w4.frozen? ⟨nb, 2, none⟩ = false := f8)
              | fail)
          all_goals
            obtain ⟨hr5, hu5, -, -⟩ := (HRW.out.upd ((Upd.refl [] wr).drewN 1) (by simp) (by simp)).append (k := 0) (r := ⟨A1, c1, xs⟩) rfl _ hown' hgrow hat (by simp)
            have hrbn : rb ∉ nb :: blockOf A1 := by
              simp only [List.mem_cons, not_or]
              exact ⟨by have := HNE.out; omega, blk_notin (HRW.out.own ⟨A1, c1, xs⟩ (by simp)) HRB.out (by decide)⟩
            have HFIN := Lib.hid (show NAt16 w (w4.setCell ⟨nb, 2, none⟩ (.slice (some ⟨g, 0, none⟩) (xs.length + 1) cap')) rb nb inn lo x (j + 1) j j from by
              refine ⟨below_upd (below_drewN HB.out 1) hu5 (Nat.le_refl _) ?_, (HRB.out.drew).upd hu5 hrbn, some ⟨g, 0, none⟩, cap', A2, c2, A3, c3, ?_⟩
              · intro y hy
                simp only [List.mem_cons] at hy
                rcases hy with rfl | hy
                · exact HNB.out
                · cases hA : A1 with
                  | none => rw [hA] at hy; simp [blockOf] at hy
                  | some q =>
                    rw [hA] at hy
                    simp [blockOf] at hy
                    subst hy
                    have := HRW.out.own ⟨A1, c1, xs⟩ (by simp)
                    rw [hA] at this
                    exact (this.lt q.block rfl).1
              · have e := HV.out
                simp only [e] at hr5
                skip
                exact hr5)
            clear hr5 hu5 hrbn hown' hgrow hat hlt' c8 f8 c0 c0a q0 HQ HV HLE hle8 ht1 ht2 ht3 HRW HRB HB HXS
            go_wp2_with fail
            go_meet
            exact HFIN.out
        case rest =>
        clear HB HRB HRW
        obtain ⟨hb, hrb, A1, c1, A2, c2, A3, c3, hrw⟩ := hcut
        have HB := Lib.hid hb
        have HRB := Lib.hid hrb
        have HRW := Lib.hid hrw
        clear hb hrb hrw
        go_upto_region 9 with fail
        go_cut [] (fun wc => NAt16 w wc rb nb inn lo x (j + 1) (j + 1) j)
        case first =>
          have c0 : wc.drew.cell? ⟨nb, 3, none⟩ = some (.slice A2 ((x.drop 10).take j).length c2) := (HRW.out.upd ((Upd.refl [] wc).drewN 1) (by simp) (by simp)).field (k := 1) rfl
          have c0a : (wc.alloc (.cells #[.int .i64 (x.getD (10 + j) 0)] 2)).drew.cell? ⟨nb, 3, none⟩ = some (.slice A2 ((x.drop 10).take j).length c2) := ((HRW.out.upd ((Upd.refl [] wc).drewN 1) (by simp) (by simp)).thru (below_alloc0 _ _)).field (k := 1) rfl
          have q0 : wc.drew.cell? ⟨b, o + (10 + j), none⟩ = some (.int .i64 (x.getD (10 + j) 0)) := HC.out wc.drew (below_drewN HB.out 1) (10 + j) (by omega)
          have hw1 : IntKind.i64.wrap (10 + (j : Int)) = (10 : Int) + (j : Int) := IntWalk.i64_in _ (by omega)
          have HQ := Lib.hid hw1
          have HV := Lib.hid (show ((x.drop 10).take j) ++ [x.getD (10 + j) 0] = (x.drop 10).take (j + 1) from take_next (by omega))
          have HLE := Lib.hid (show ((x.drop 10).take j).length ≤ 8 by simp; omega)
          have hle8 := HLE.out
          have ht1 : (10 + (j : Int)).toNat = 10 + j := by omega
          have ht2 : (0 : Int) ≤ 10 + (j : Int) := by omega
          have ht3 : (10 : Int) + (j : Int) < 28 := by omega
          obtain ⟨i0, hi, hz0, hz1, hz2⟩ := info_parts info_i64
          obtain ⟨v, hv⟩ : ∃ v, x.getD (10 + j) 0 = v := ⟨_, rfl⟩
          rw [hv] at c0a q0 HV
          obtain ⟨xs, hxs⟩ : ∃ xs, ((x.drop 10).take j) = xs := ⟨_, rfl⟩
          rw [hxs] at c0 c0a HV HLE hle8
          simp only [hxs] at HRW
          have HXS := Lib.hid hxs
          clear hv hxs
          go_region_law
            (first
              | (clear hw1; refine step_append_lies _ (by rfl) _ _ _ (by rfl) w.heap.size 2 i0 _ 1 8 Try.underlying31 hi hz0 hz1 hz2 rfl (by omega) (.slice A2 xs.length c2) xs.length (i64s xs) (by rfl) (((HRW.out.own ⟨A2, c2, xs⟩ (by simp)).alloc _).drew)
                  ⟨wc.heap.size, 0, none⟩ 1 1 [.int .i64 v] (by rfl) (by rfl) (World.news_of_block (cs := #[.int .i64 v]) (t := 2) (fr := (0, 0)) (heap_alloc_new wc _)) (by simp [Value.oneCell'])
                  (by omega) (by unfold maxLen; omega) (by omega) (by have := HB.out.size; simp; omega) (wc.heap.size + 1) (by simp) ?_; intro g cap' w4 hown' hgrow hat hlt'; obtain ⟨-, -, c8, f8⟩ := (HRW.out.upd ((Upd.refl [] wc).drewN 1) (by simp) (by simp)).append (k := 1) (r := ⟨A2, c2, xs⟩) rfl _ hown' hgrow hat (by simp); replace c8 : w4.cell? ⟨nb, 3, none⟩ = some (.slice A2 xs.length c2) := c8; replace f8 : w4.frozen? ⟨nb, 3, none⟩ = false := f8)
              | fail)
          all_goals
            obtain ⟨hr5, hu5, -, -⟩ := (HRW.out.upd ((Upd.refl [] wc).drewN 1) (by simp) (by simp)).append (k := 1) (r := ⟨A2, c2, xs⟩) rfl _ hown' hgrow hat (by simp)
            have hrbn : rb ∉ nb :: blockOf A2 := by
              simp only [List.mem_cons, not_or]
              exact ⟨by have := HNE.out; omega, blk_notin (HRW.out.own ⟨A2, c2, xs⟩ (by simp)) HRB.out (by decide)⟩
            have HFIN := Lib.hid (show NAt16 w (w4.setCell ⟨nb, 3, none⟩ (.slice (some ⟨g, 0, none⟩) (xs.length + 1) cap')) rb nb inn lo x (j + 1) (j + 1) j from by
              refine ⟨below_upd (below_drewN HB.out 1) hu5 (Nat.le_refl _) ?_, (HRB.out.drew).upd hu5 hrbn, A1, c1, some ⟨g, 0, none⟩, cap', A3, c3, ?_⟩
              · intro y hy
                simp only [List.mem_cons] at hy
                rcases hy with rfl | hy
                · exact HNB.out
                · cases hA : A2 with
                  | none => rw [hA] at hy; simp [blockOf] at hy
                  | some q =>
                    rw [hA] at hy
                    simp [blockOf] at hy
                    subst hy
                    have := HRW.out.own ⟨A2, c2, xs⟩ (by simp)
                    rw [hA] at this
                    exact (this.lt q.block rfl).1
              · have e := HV.out
                simp only [e] at hr5
                skip
                exact hr5)
            clear hr5 hu5 hrbn hown' hgrow hat hlt' c8 f8 c0 c0a q0 HQ HV HLE hle8 ht1 ht2 ht3 HRW HRB HB HXS
            go_wp2_with fail
            go_meet
            exact HFIN.out
        case rest =>
        clear HB HRB HRW
        obtain ⟨hb, hrb, A1, c1, A2, c2, A3, c3, hrw⟩ := hcut
        have HB := Lib.hid hb
        have HRB := Lib.hid hrb
        have HRW := Lib.hid hrw
        clear hb hrb hrw
        go_upto_region 10 with fail
        have c0 : wc.drew.cell? ⟨nb, 4, none⟩ = some (.slice A3 ((x.drop 18).take j).length c3) := (HRW.out.upd ((Upd.refl [] wc).drewN 1) (by simp) (by simp)).field (k := 2) rfl
        have c0a : (wc.alloc (.cells #[.int .i64 (x.getD (18 + j) 0)] 2)).drew.cell? ⟨nb, 4, none⟩ = some (.slice A3 ((x.drop 18).take j).length c3) := ((HRW.out.upd ((Upd.refl [] wc).drewN 1) (by simp) (by simp)).thru (below_alloc0 _ _)).field (k := 2) rfl
        have q0 : wc.drew.cell? ⟨b, o + (18 + j), none⟩ = some (.int .i64 (x.getD (18 + j) 0)) := HC.out wc.drew (below_drewN HB.out 1) (18 + j) (by omega)
        have hw1 : IntKind.i64.wrap (18 + (j : Int)) = (18 : Int) + (j : Int) := IntWalk.i64_in _ (by omega)
        have HQ := Lib.hid hw1
        have HV := Lib.hid (show ((x.drop 18).take j) ++ [x.getD (18 + j) 0] = (x.drop 18).take (j + 1) from take_next (by omega))
        have HLE := Lib.hid (show ((x.drop 18).take j).length ≤ 8 by simp; omega)
        have hle8 := HLE.out
        have ht1 : (18 + (j : Int)).toNat = 18 + j := by omega
        have ht2 : (0 : Int) ≤ 18 + (j : Int) := by omega
        have ht3 : (18 : Int) + (j : Int) < 28 := by omega
        obtain ⟨i0, hi, hz0, hz1, hz2⟩ := info_parts info_i64
        obtain ⟨v, hv⟩ : ∃ v, x.getD (18 + j) 0 = v := ⟨_, rfl⟩
        rw [hv] at c0a q0 HV
        obtain ⟨xs, hxs⟩ : ∃ xs, ((x.drop 18).take j) = xs := ⟨_, rfl⟩
        rw [hxs] at c0 c0a HV HLE hle8
        simp only [hxs] at HRW
        have HXS := Lib.hid hxs
        clear hv hxs
        go_region_law
          (first
            | (clear hw1; refine step_append_lies _ (by rfl) _ _ _ (by rfl) w.heap.size 2 i0 _ 1 8 Try.underlying31 hi hz0 hz1 hz2 rfl (by omega) (.slice A3 xs.length c3) xs.length (i64s xs) (by rfl) (((HRW.out.own ⟨A3, c3, xs⟩ (by simp)).alloc _).drew)
                ⟨wc.heap.size, 0, none⟩ 1 1 [.int .i64 v] (by rfl) (by rfl) (World.news_of_block (cs := #[.int .i64 v]) (t := 2) (fr := (0, 0)) (heap_alloc_new wc _)) (by simp [Value.oneCell'])
                (by omega) (by unfold maxLen; omega) (by omega) (by have := HB.out.size; simp; omega) (wc.heap.size + 1) (by simp) ?_; intro g cap' w4 hown' hgrow hat hlt'; obtain ⟨-, -, c8, f8⟩ := (HRW.out.upd ((Upd.refl [] wc).drewN 1) (by simp) (by simp)).append (k := 2) (r := ⟨A3, c3, xs⟩) rfl _ hown' hgrow hat (by simp); replace c8 : w4.cell? ⟨nb, 4, none⟩ = some (.slice A3 xs.length c3) := c8; replace f8 : w4.frozen? ⟨nb, 4, none⟩ = false := f8)
            | fail)
        all_goals
          obtain ⟨hr5, hu5, -, -⟩ := (HRW.out.upd ((Upd.refl [] wc).drewN 1) (by simp) (by simp)).append (k := 2) (r := ⟨A3, c3, xs⟩) rfl _ hown' hgrow hat (by simp)
          have hrbn : rb ∉ nb :: blockOf A3 := by
            simp only [List.mem_cons, not_or]
            exact ⟨by have := HNE.out; omega, blk_notin (HRW.out.own ⟨A3, c3, xs⟩ (by simp)) HRB.out (by decide)⟩
          have HFIN := Lib.hid (show NAt16 w (w4.setCell ⟨nb, 4, none⟩ (.slice (some ⟨g, 0, none⟩) (xs.length + 1) cap')) rb nb inn lo x (j + 1) (j + 1) (j + 1) from by
            refine ⟨below_upd (below_drewN HB.out 1) hu5 (Nat.le_refl _) ?_, (HRB.out.drew).upd hu5 hrbn, A1, c1, A2, c2, some ⟨g, 0, none⟩, cap', ?_⟩
            · intro y hy
              simp only [List.mem_cons] at hy
              rcases hy with rfl | hy
              · exact HNB.out
              · cases hA : A3 with
                | none => rw [hA] at hy; simp [blockOf] at hy
                | some q =>
                  rw [hA] at hy
                  simp [blockOf] at hy
                  subst hy
                  have := HRW.out.own ⟨A3, c3, xs⟩ (by simp)
                  rw [hA] at this
                  exact (this.lt q.block rfl).1
            · have e := HV.out
              simp only [e] at hr5
              skip
              exact hr5)
          clear hr5 hu5 hrbn hown' hgrow hat hlt' c8 f8 c0 c0a q0 HQ HV HLE hle8 ht1 ht2 ht3 HRW HRB HB HXS
          go_wp2
          go_roundw
          case rel => exact ⟨j + 1, by omega, by go_num, HFIN.out⟩
          case measure => simp [intOf]; omega
      · obtain rfl : j = K := by omega
        obtain ⟨hb, hrb, A1, c1, A2, c2, A3, c3, hrw⟩ := hat
        have HB := Lib.hid hb
        have HRB := Lib.hid hrb
        have HRW := Lib.hid hrw
        clear hb hrb hrw
        have l1 : ((x.drop 2).take j).length = j := by simp; omega
        have l2 : ((x.drop 10).take j).length = j := by simp; omega
        have l3 : ((x.drop 18).take j).length = j := by simp; omega
        have HNN := Lib.hid (show Blk wr nb 50 #[.bool inn, .int .i64 lo, .slice A1 ((x.drop 2).take j).length c1, .slice A2 ((x.drop 10).take j).length c2, .slice A3 ((x.drop 18).take j).length c3] from HRW.out.blk)
        have hwx : ∀ c, ∀ y ∈ (x.drop c).take j, WfI y := fun c y hy => HWF.out y (List.mem_of_mem_drop (List.mem_of_mem_take hy))
        have HNR := Lib.hid (show NodeR wr ⟨inn, lo, (x.drop 2).take j, (x.drop 10).take j, (x.drop 18).take j⟩ A1 A2 A3 c1 c2 c3 from
          ⟨HWL.out, own_ints (HRW.out.own ⟨A1, c1, (x.drop 2).take j⟩ (by simp)) (hwx 2), own_ints (HRW.out.own ⟨A2, c2, (x.drop 10).take j⟩ (by simp)) (hwx 10), own_ints (HRW.out.own ⟨A3, c3, (x.drop 18).take j⟩ (by simp)) (hwx 18)⟩)
        have HWX := Lib.hid hwx
        have HFO := ref15_formed ⟨inn, lo, (x.drop 2).take j, (x.drop 10).take j, (x.drop 18).take j⟩ A1 A2 A3 c1 c2 c3 wr HNR.out
        simp only [nodeCells] at HFO
        obtain ⟨es, hes⟩ : ∃ es, (x.drop 2).take j = es := ⟨_, rfl⟩
        obtain ⟨hs, hhs⟩ : ∃ hs, (x.drop 10).take j = hs := ⟨_, rfl⟩
        obtain ⟨gs, hgs⟩ : ∃ gs, (x.drop 18).take j = gs := ⟨_, rfl⟩
        have w1' := hwx 2
        have w2' := hwx 10
        have w3' := hwx 18
        rw [hes] at l1 w1' HNN HFO HRW HNP
        rw [hhs] at l2 w2' HNN HFO HRW HNP
        rw [hgs] at l3 w3' HNN HFO HRW HNP
        have W1 := Lib.hid w1'
        have W2 := Lib.hid w2'
        have W3 := Lib.hid w3'
        have L1 := Lib.hid l1
        clear w1' w2' w3' l1 l2 l3 hwx hes hhs hgs HWX HNR
        cases hf : NodeV.formedB ⟨inn, lo, es, hs, gs⟩ with
        | false =>
          rw [hf] at HFO
          have HFO' := Lib.hid HFO
          have HNO := Lib.hid (show nodeP x = (none, 2 + 3 * j) by rw [HNP.out]; unfold nodeAns; simp only; rw [if_neg (by rw [hf]; simp)])
          clear hf HFO
          obtain ⟨k0, k1, k2, k3, k4⟩ := HNN.out.at5
          go_wp2_with fail
          refine (HFO'.out).mono ?_
          rintro e w5 ⟨rfl, hb⟩
          clear k0 k1 k2 k3 k4
          replace HB := Lib.hid (below_thru HB.out hb)
          replace HRB := Lib.hid (HRB.out.thru hb)
          replace HNN := Lib.hid (HNN.out.thru hb)
          replace HRW := Lib.hid (HRW.out.thru hb)
          clear hb
          obtain ⟨k0, k1, k2, k3, k4⟩ := HNN.out.at5
          clear k0 k1 k2 k3 k4
          obtain ⟨m0, m1, m2, m3, m4⟩ := HRB.out.at5
          obtain ⟨f0, f1, f2, f3, f4⟩ := HRB.out.fr5
          go_wp2
          have hz := put5 HRB.out (.bool false) (.int .i64 0) (.slice none 0 0) (.slice none 0 0) (.slice none 0 0)
          have HBF := Lib.hid (put5_below HB.out HRN.out (.bool false) (.int .i64 0) (.slice none 0 0) (.slice none 0 0) (.slice none 0 0))
          generalize (((((w5.setCell ⟨rb, 0, none⟩ (.bool false)).setCell ⟨rb, 1, none⟩ (.int .i64 0)).setCell ⟨rb, 2, none⟩ (.slice none 0 0)).setCell ⟨rb, 3, none⟩ (.slice none 0 0)).setCell ⟨rb, 4, none⟩ (.slice none 0 0)) = wz at *
          obtain ⟨z0, z1, z2, z3, z4⟩ := hz.at5
          exact bodyPost_ret (v := .tuple #[.agg #[.bool false, .int .i64 0, .slice none 0 0, .slice none 0 0, .slice none 0 0], .bool false, .int .i64 (2 + 3 * (j : Int))]) (by simp [results, Try.results30, go_sem, z0, z1, z2, z3, z4]) rfl (RefNodeNew.no HBF.out HNO.out (by omega))
        | true =>
          rw [hf] at HFO
          have HFO' := Lib.hid HFO
          have HFT := Lib.hid hf
          have HYES := Lib.hid (show nodeP x = (some ⟨inn, lo, es, hs, gs⟩, 2 + 3 * j) by rw [HNP.out]; unfold nodeAns; simp only; rw [if_pos hf])
          clear hf HFO
          obtain ⟨k0, k1, k2, k3, k4⟩ := HNN.out.at5
          go_wp2_with fail
          refine (HFO'.out).mono ?_
          rintro e w5 ⟨rfl, hb⟩
          clear k0 k1 k2 k3 k4
          replace HB := Lib.hid (below_thru HB.out hb)
          replace HRB := Lib.hid (HRB.out.thru hb)
          replace HNN := Lib.hid (HNN.out.thru hb)
          replace HRW := Lib.hid (HRW.out.thru hb)
          clear hb
          obtain ⟨k0, k1, k2, k3, k4⟩ := HNN.out.at5
          obtain ⟨m0, m1, m2, m3, m4⟩ := HRB.out.at5
          obtain ⟨f0, f1, f2, f3, f4⟩ := HRB.out.fr5
          go_wp2
          have hz := put5 HRB.out (.bool inn) (.int .i64 lo) (.slice A1 es.length c1) (.slice A2 hs.length c2) (.slice A3 gs.length c3)
          have HBF := Lib.hid (put5_below HB.out HRN.out (.bool inn) (.int .i64 lo) (.slice A1 es.length c1) (.slice A2 hs.length c2) (.slice A3 gs.length c3))
          obtain ⟨g1', g2', g3', e1, e2, e3, hnew⟩ := NodeNew.of (r1 := ⟨A1, c1, es⟩) (r2 := ⟨A2, c2, hs⟩) (r3 := ⟨A3, c3, gs⟩) HRW.out HWL.out (by
            intro r hr y hy
            simp only [List.mem_cons, List.not_mem_nil, or_false] at hr
            rcases hr with rfl | rfl | rfl
            · exact W1.out y hy
            · exact W2.out y hy
            · exact W3.out y hy) HFT.out HRB.out (upd_put5 w5 rb (.bool inn) (.int .i64 lo) (.slice A1 es.length c1) (.slice A2 hs.length c2) (.slice A3 gs.length c3))
          have HNEW := Lib.hid hnew
          simp only at e1 e2 e3
          have E1 := Lib.hid e1
          have E2 := Lib.hid e2
          have E3 := Lib.hid e3
          clear hnew e1 e2 e3
          generalize (((((w5.setCell ⟨rb, 0, none⟩ (.bool inn)).setCell ⟨rb, 1, none⟩ (.int .i64 lo)).setCell ⟨rb, 2, none⟩ (.slice A1 es.length c1)).setCell ⟨rb, 3, none⟩ (.slice A2 hs.length c2)).setCell ⟨rb, 4, none⟩ (.slice A3 gs.length c3)) = wz at *
          obtain ⟨z0, z1, z2, z3, z4⟩ := hz.at5
          refine bodyPost_ret (v := .tuple #[.agg #[.bool inn, .int .i64 lo, .slice A1 es.length c1, .slice A2 hs.length c2, .slice A3 gs.length c3], .bool true, .int .i64 (2 + 3 * (j : Int))]) (by simp [results, Try.results30, go_sem, z0, z1, z2, z3, z4]) rfl ⟨HBF.out, _, _, _, _, _, by rw [HYES.out]; rfl, ?_⟩
          rw [HYES.out, E1.out, E2.out, E3.out]
          exact .inr ⟨_, _, _, _, _, _, _, rfl, rfl, rfl, rfl, rfl, rfl, HNEW.out⟩
  · have HNO := Lib.hid (show nodeP x = (none, 1) by unfold nodeP; rw [headOf_no hgood]; rfl)
    have HC1 := Lib.hid HC.out
    obtain ⟨x0, hx0⟩ : ∃ y, x.getD 0 0 = y := ⟨_, rfl⟩
    rw [hx0] at q0 xlo xhi hgood
    have HX0 := Lib.hid hx0
    clear hx0
    rcases Int.lt_or_le x0 0 with h0 | h0
    · clear hgood
      go_enter Try.func30, Try.ntmps30
      replace HB := Lib.hid (below_thru HB.out (below_alloc0 w (.cells #[.bool false, .int .i64 0, .slice none 0 0, .slice none 0 0, .slice none 0 0] 50)))
      have HRB := Lib.hid (Blk.new w 50 #[.bool false, .int .i64 0, .slice none 0 0, .slice none 0 0, .slice none 0 0])
      go_upto_region 1 with fail
      have HZ := Lib.hid (World.size_alloc w (.cells #[.bool false, .int .i64 0, .slice none 0 0, .slice none 0 0, .slice none 0 0] 50))
      obtain ⟨rb, hrb⟩ : ∃ x, w.heap.size = x := ⟨_, rfl⟩
      simp only [hrb] at HRB HZ ⊢
      replace hrb := Lib.hid hrb
      generalize w.alloc (.cells #[.bool false, .int .i64 0, .slice none 0 0, .slice none 0 0, .slice none 0 0] 50) = w1 at *
      clear q0
      have q0 := HC.out w1 HB.out 0 (by decide)
      rw [HX0.out] at q0
      simp only [Nat.add_zero] at q0
      obtain ⟨m0, m1, m2, m3, m4⟩ := HRB.out.at5
      obtain ⟨f0, f1, f2, f3, f4⟩ := HRB.out.fr5
      go_wp2
      have hz := put5 HRB.out (.bool false) (.int .i64 0) (.slice none 0 0) (.slice none 0 0) (.slice none 0 0)
      have HBF := Lib.hid (put5_below HB.out (show w.heap.size ≤ rb by rw [hrb.out]; exact Nat.le_refl _) (.bool false) (.int .i64 0) (.slice none 0 0) (.slice none 0 0) (.slice none 0 0))
      generalize (((((w1.setCell ⟨rb, 0, none⟩ (.bool false)).setCell ⟨rb, 1, none⟩ (.int .i64 0)).setCell ⟨rb, 2, none⟩ (.slice none 0 0)).setCell ⟨rb, 3, none⟩ (.slice none 0 0)).setCell ⟨rb, 4, none⟩ (.slice none 0 0)) = wz at *
      obtain ⟨z0, z1, z2, z3, z4⟩ := hz.at5
      exact bodyPost_ret (v := .tuple #[.agg #[.bool false, .int .i64 0, .slice none 0 0, .slice none 0 0, .slice none 0 0], .bool false, .int .i64 1]) (by simp [results, Try.results30, go_sem, z0, z1, z2, z3, z4]) rfl (RefNodeNew.no HBF.out HNO.out rfl)
    · have t0 : ¬ x0 < 0 := by omega
      by_cases t1 : x0 % 16 < 1
      · clear hgood
        go_enter Try.func30, Try.ntmps30
        replace HB := Lib.hid (below_thru HB.out (below_alloc0 w (.cells #[.bool false, .int .i64 0, .slice none 0 0, .slice none 0 0, .slice none 0 0] 50)))
        have HRB := Lib.hid (Blk.new w 50 #[.bool false, .int .i64 0, .slice none 0 0, .slice none 0 0, .slice none 0 0])
        go_upto_region 1 with fail
        have HZ := Lib.hid (World.size_alloc w (.cells #[.bool false, .int .i64 0, .slice none 0 0, .slice none 0 0, .slice none 0 0] 50))
        obtain ⟨rb, hrb⟩ : ∃ x, w.heap.size = x := ⟨_, rfl⟩
        simp only [hrb] at HRB HZ ⊢
        replace hrb := Lib.hid hrb
        generalize w.alloc (.cells #[.bool false, .int .i64 0, .slice none 0 0, .slice none 0 0, .slice none 0 0] 50) = w1 at *
        clear q0
        have q0 := HC.out w1 HB.out 0 (by decide)
        rw [HX0.out] at q0
        simp only [Nat.add_zero] at q0
        obtain ⟨m0, m1, m2, m3, m4⟩ := HRB.out.at5
        obtain ⟨f0, f1, f2, f3, f4⟩ := HRB.out.fr5
        go_wp2
        have hz := put5 HRB.out (.bool false) (.int .i64 0) (.slice none 0 0) (.slice none 0 0) (.slice none 0 0)
        have HBF := Lib.hid (put5_below HB.out (show w.heap.size ≤ rb by rw [hrb.out]; exact Nat.le_refl _) (.bool false) (.int .i64 0) (.slice none 0 0) (.slice none 0 0) (.slice none 0 0))
        generalize (((((w1.setCell ⟨rb, 0, none⟩ (.bool false)).setCell ⟨rb, 1, none⟩ (.int .i64 0)).setCell ⟨rb, 2, none⟩ (.slice none 0 0)).setCell ⟨rb, 3, none⟩ (.slice none 0 0)).setCell ⟨rb, 4, none⟩ (.slice none 0 0)) = wz at *
        obtain ⟨z0, z1, z2, z3, z4⟩ := hz.at5
        exact bodyPost_ret (v := .tuple #[.agg #[.bool false, .int .i64 0, .slice none 0 0, .slice none 0 0, .slice none 0 0], .bool false, .int .i64 1]) (by simp [results, Try.results30, go_sem, z0, z1, z2, z3, z4]) rfl (RefNodeNew.no HBF.out HNO.out rfl)
      · by_cases t2 : 2 < x0 % 16
        · clear hgood
          go_enter Try.func30, Try.ntmps30
          replace HB := Lib.hid (below_thru HB.out (below_alloc0 w (.cells #[.bool false, .int .i64 0, .slice none 0 0, .slice none 0 0, .slice none 0 0] 50)))
          have HRB := Lib.hid (Blk.new w 50 #[.bool false, .int .i64 0, .slice none 0 0, .slice none 0 0, .slice none 0 0])
          go_upto_region 1 with fail
          have HZ := Lib.hid (World.size_alloc w (.cells #[.bool false, .int .i64 0, .slice none 0 0, .slice none 0 0, .slice none 0 0] 50))
          obtain ⟨rb, hrb⟩ : ∃ x, w.heap.size = x := ⟨_, rfl⟩
          simp only [hrb] at HRB HZ ⊢
          replace hrb := Lib.hid hrb
          generalize w.alloc (.cells #[.bool false, .int .i64 0, .slice none 0 0, .slice none 0 0, .slice none 0 0] 50) = w1 at *
          clear q0
          have q0 := HC.out w1 HB.out 0 (by decide)
          rw [HX0.out] at q0
          simp only [Nat.add_zero] at q0
          obtain ⟨m0, m1, m2, m3, m4⟩ := HRB.out.at5
          obtain ⟨f0, f1, f2, f3, f4⟩ := HRB.out.fr5
          go_wp2
          have hz := put5 HRB.out (.bool false) (.int .i64 0) (.slice none 0 0) (.slice none 0 0) (.slice none 0 0)
          have HBF := Lib.hid (put5_below HB.out (show w.heap.size ≤ rb by rw [hrb.out]; exact Nat.le_refl _) (.bool false) (.int .i64 0) (.slice none 0 0) (.slice none 0 0) (.slice none 0 0))
          generalize (((((w1.setCell ⟨rb, 0, none⟩ (.bool false)).setCell ⟨rb, 1, none⟩ (.int .i64 0)).setCell ⟨rb, 2, none⟩ (.slice none 0 0)).setCell ⟨rb, 3, none⟩ (.slice none 0 0)).setCell ⟨rb, 4, none⟩ (.slice none 0 0)) = wz at *
          obtain ⟨z0, z1, z2, z3, z4⟩ := hz.at5
          exact bodyPost_ret (v := .tuple #[.agg #[.bool false, .int .i64 0, .slice none 0 0, .slice none 0 0, .slice none 0 0], .bool false, .int .i64 1]) (by simp [results, Try.results30, go_sem, z0, z1, z2, z3, z4]) rfl (RefNodeNew.no HBF.out HNO.out rfl)
        · by_cases t3 : x0 / 16 < 1
          · clear hgood
            go_enter Try.func30, Try.ntmps30
            replace HB := Lib.hid (below_thru HB.out (below_alloc0 w (.cells #[.bool false, .int .i64 0, .slice none 0 0, .slice none 0 0, .slice none 0 0] 50)))
            have HRB := Lib.hid (Blk.new w 50 #[.bool false, .int .i64 0, .slice none 0 0, .slice none 0 0, .slice none 0 0])
            go_upto_region 1 with fail
            have HZ := Lib.hid (World.size_alloc w (.cells #[.bool false, .int .i64 0, .slice none 0 0, .slice none 0 0, .slice none 0 0] 50))
            obtain ⟨rb, hrb⟩ : ∃ x, w.heap.size = x := ⟨_, rfl⟩
            simp only [hrb] at HRB HZ ⊢
            replace hrb := Lib.hid hrb
            generalize w.alloc (.cells #[.bool false, .int .i64 0, .slice none 0 0, .slice none 0 0, .slice none 0 0] 50) = w1 at *
            clear q0
            have q0 := HC.out w1 HB.out 0 (by decide)
            rw [HX0.out] at q0
            simp only [Nat.add_zero] at q0
            obtain ⟨m0, m1, m2, m3, m4⟩ := HRB.out.at5
            obtain ⟨f0, f1, f2, f3, f4⟩ := HRB.out.fr5
            go_wp2
            have hz := put5 HRB.out (.bool false) (.int .i64 0) (.slice none 0 0) (.slice none 0 0) (.slice none 0 0)
            have HBF := Lib.hid (put5_below HB.out (show w.heap.size ≤ rb by rw [hrb.out]; exact Nat.le_refl _) (.bool false) (.int .i64 0) (.slice none 0 0) (.slice none 0 0) (.slice none 0 0))
            generalize (((((w1.setCell ⟨rb, 0, none⟩ (.bool false)).setCell ⟨rb, 1, none⟩ (.int .i64 0)).setCell ⟨rb, 2, none⟩ (.slice none 0 0)).setCell ⟨rb, 3, none⟩ (.slice none 0 0)).setCell ⟨rb, 4, none⟩ (.slice none 0 0)) = wz at *
            obtain ⟨z0, z1, z2, z3, z4⟩ := hz.at5
            exact bodyPost_ret (v := .tuple #[.agg #[.bool false, .int .i64 0, .slice none 0 0, .slice none 0 0, .slice none 0 0], .bool false, .int .i64 1]) (by simp [results, Try.results30, go_sem, z0, z1, z2, z3, z4]) rfl (RefNodeNew.no HBF.out HNO.out rfl)
          · have t4 : 8 < x0 / 16 := by omega
            clear hgood
            go_enter Try.func30, Try.ntmps30
            replace HB := Lib.hid (below_thru HB.out (below_alloc0 w (.cells #[.bool false, .int .i64 0, .slice none 0 0, .slice none 0 0, .slice none 0 0] 50)))
            have HRB := Lib.hid (Blk.new w 50 #[.bool false, .int .i64 0, .slice none 0 0, .slice none 0 0, .slice none 0 0])
            go_upto_region 1 with fail
            have HZ := Lib.hid (World.size_alloc w (.cells #[.bool false, .int .i64 0, .slice none 0 0, .slice none 0 0, .slice none 0 0] 50))
            obtain ⟨rb, hrb⟩ : ∃ x, w.heap.size = x := ⟨_, rfl⟩
            simp only [hrb] at HRB HZ ⊢
            replace hrb := Lib.hid hrb
            generalize w.alloc (.cells #[.bool false, .int .i64 0, .slice none 0 0, .slice none 0 0, .slice none 0 0] 50) = w1 at *
            clear q0
            have q0 := HC.out w1 HB.out 0 (by decide)
            rw [HX0.out] at q0
            simp only [Nat.add_zero] at q0
            obtain ⟨m0, m1, m2, m3, m4⟩ := HRB.out.at5
            obtain ⟨f0, f1, f2, f3, f4⟩ := HRB.out.fr5
            go_wp2
            have hz := put5 HRB.out (.bool false) (.int .i64 0) (.slice none 0 0) (.slice none 0 0) (.slice none 0 0)
            have HBF := Lib.hid (put5_below HB.out (show w.heap.size ≤ rb by rw [hrb.out]; exact Nat.le_refl _) (.bool false) (.int .i64 0) (.slice none 0 0) (.slice none 0 0) (.slice none 0 0))
            generalize (((((w1.setCell ⟨rb, 0, none⟩ (.bool false)).setCell ⟨rb, 1, none⟩ (.int .i64 0)).setCell ⟨rb, 2, none⟩ (.slice none 0 0)).setCell ⟨rb, 3, none⟩ (.slice none 0 0)).setCell ⟨rb, 4, none⟩ (.slice none 0 0)) = wz at *
            obtain ⟨z0, z1, z2, z3, z4⟩ := hz.at5
            exact bodyPost_ret (v := .tuple #[.agg #[.bool false, .int .i64 0, .slice none 0 0, .slice none 0 0, .slice none 0 0], .bool false, .int .i64 1]) (by simp [results, Try.results30, go_sem, z0, z1, z2, z3, z4]) rfl (RefNodeNew.no HBF.out HNO.out rfl)
theorem ref16_node (a : Option Addr) (cap : Nat) (x : List Int) (w : World) (h : Ints w a 28 cap x) :
    Calls Try.prog 30 #[.slice a 28 cap] w (RefNodePost w x) :=
  (ref16_nodeN a cap x w h).mono fun e w' ⟨hb, d0, d1, d2, d3, d4, he, hn⟩ => ⟨hb, d0, d1, d2, d3, d4, he, hn.is⟩
end Go.Proofs.Ytldccemgfjmcdaa
