/- RcuHolds, walked: while a reader reads, the epoch goes on at most once. -/
import Derived.Test.YtcphidmfdakbeaaBoard
namespace Go.Proofs.Ytcphidmfdakbeaa
open Go.RowKit

theorem rcu_epoch_of (b : List Int) : (Value.agg (nums .i64 b)) = .agg (nums .i64 b) := rfl

theorem w64 (x : Int) (h1 : 0 ≤ x) (h2 : x ≤ 1000000) : wrap64 x = x := by unfold wrap64; omega

/-- No reader reads. -/
def b0 : List Int := List.replicate 16 0
theorem okB_zero (e : Int) (i : Nat) : okB e b0 i := by
  left
  unfold b0
  rw [List.getD_eq_getElem?_getD, List.getElem?_replicate]
  split <;> rfl
theorem all_zero (e : Int) : allOk e b0 = true := (allOk_iff e b0).2 fun i _ => okB_zero e i
theorem tried_zero (e : Int) (h0 : 0 ≤ e) : ∀ n : Nat, e + n ≤ 1000 → triedR e b0 n = (n, e + n)
  | 0, _ => by simp [triedR]
  | n + 1, h => by
    have ih := tried_zero e h0 n (by omega)
    rw [triedR, ih]
    simp only [all_zero, if_true]
    rw [w64 _ (by omega) (by omega)]
    congr 1
    omega
theorem getD_set (x i : Nat) (v : Int) (hx : x < 16) : (b0.set x v).getD i 0 = if i = x then v else 0 := by
  rw [List.getD_eq_getElem?_getD]
  by_cases h : x = i
  · subst h
    rw [List.getElem?_set_self (by simpa [b0] using hx), if_pos rfl]
    rfl
  · rw [List.getElem?_set_ne h, if_neg (fun e => h e.symm)]
    unfold b0
    rw [List.getElem?_replicate]
    split <;> rfl
theorem tried_one (e : Int) (x : Nat) (hx : x < 16) (h0 : 0 ≤ e) (h1 : e ≤ 100) : ∀ n : Nat, triedR e (b0.set x (e + 1)) n = if n = 0 then (0, e) else (1, e + 1)
  | 0 => rfl
  | 1 => by
    have h : allOk e (b0.set x (e + 1)) = true := (allOk_iff _ _).2 fun i _ => by
      unfold okB
      rw [getD_set x i _ hx, w64 _ (by omega) (by omega)]
      split
      · exact .inr rfl
      · exact .inl rfl
    simp only [triedR, h, if_true]
    rw [w64 _ (by omega) (by omega)]
    rfl
  | n + 2 => by
    have ih := tried_one e x hx h0 h1 (n + 1)
    rw [triedR, ih]
    have h : allOk (e + 1) (b0.set x (e + 1)) = false := Bool.eq_false_iff.2 fun h => by
      have := (allOk_iff _ _).1 h x hx
      unfold okB at this
      rw [getD_set x x _ hx, if_pos rfl, w64 _ (by omega) (by omega)] at this
      omega
    simp [h]
theorem set_back (x : Nat) (v : Int) : (b0.set x v).set x 0 = b0 := by
  rw [List.set_set]
  apply List.ext_getElem?
  intro j
  by_cases h : x = j
  · subst h
    by_cases hx : x < 16
    · rw [List.getElem?_set_self (by simpa [b0] using hx)]
      unfold b0
      rw [List.getElem?_replicate, if_pos hx]
    · rw [List.getElem?_eq_none (by simp [b0]; omega), List.getElem?_eq_none (by simp [b0]; omega)]
  · rw [List.getElem?_set_ne h]

theorem enter_alone (e cnt : Int) (x : Nat) (hx : x < 16) : ∃ cnt', Res.alone 2 (callR 0 (x : Int)).next (RM e b0 cnt) = (.ret false, RM e (b0.set x (wrap64 (e + 1))) cnt') := by
  have hb : b0.length = 16 := rfl
  have e1 : callR 0 (x : Int) = .acc (dLoad 3) fun v => .acc (dStore (4 + (x : Int)) (wrap64 (v + 1))) fun _ => .ret false := by
    unfold callR enterR
    rw [if_pos rfl, if_pos ⟨by omega, by omega⟩]
    rfl
  rw [e1]
  refine ⟨wrap64 (wrap64 (cnt + 1) + 1), ?_⟩
  simp only [Res.alone, Res.next, Res.step, RM.load3 hb, if_true, RM.store4 hb x hx]
theorem leave_alone (e cnt v : Int) (x : Nat) (hx : x < 16) : ∃ cnt', Res.alone 1 (callR 1 (x : Int)).next (RM e (b0.set x v) cnt) = (.ret false, RM e b0 cnt') := by
  have hb : (b0.set x v).length = 16 := by simp [b0]
  have e1 : callR 1 (x : Int) = .acc (dStore (4 + (x : Int)) 0) fun _ => .ret false := by
    unfold callR leaveR
    rw [if_neg (by decide), if_pos rfl, if_pos ⟨by omega, by omega⟩]
    rfl
  rw [e1]
  refine ⟨wrap64 (cnt + 1), ?_⟩
  simp only [Res.alone, Res.next, Res.step, RM.store4 hb x hx, if_true, set_back]

set_option maxRecDepth 100000 in
theorem board_field (e : Int) (b : List Int) (hb : b.length = 16) (w : World) : (Instr.field 72 (.agg (nums .i64 (e :: b))) 0).run Try.prog w = .ok (.int .i64 e) w := by
  obtain ⟨c0, c1, c2, c3, c4, c5, c6, c7, c8, c9, c10, c11, c12, c13, c14, c15, rfl⟩ := list16 b hb
  rfl

theorem wf_small (x : Int) (h0 : 0 ≤ x) (h1 : x ≤ 1000000) : (Lit.int .i64 x).wf = true := by
  simp [Lit.wf, IntKind.min, IntKind.max, IntKind.signed, IntKind.bits]
  omega

theorem bare_next {kd : Int} {k : Nat} (hk01 : k = 0 ∨ k = 1) (hkd : kd.tmod 3 = k) (x : Int) (w0 : World) (m c t : Nat) (μ0 : MemS) (j : Nat) (time : Int) (w : World) (s : TrS) (F : List Nat)
    (h : Bare w m c t (callR k x) (Res.alone j (callR k x).next μ0).2 s F (Res.alone j (callR k x).next μ0).1) (hl : s.told.length ≤ j) (hj : j < 1000) (hF : ∀ b ∈ F, w0.heap.size ≤ b) (hmc : ∀ b ∈ [m, c], w0.heap.size ≤ b) (hw : Below w0.heap.size w0 w) :
    Calls Try.prog 19 #[.pointer (some ⟨t, 0, none⟩), .int .i64 time, .func (.func 36) #[.agg #[.int .u8 kd, .int .i64 x, .pointer none]] #[]] w fun e w' =>
      e = .returned (.bool (Res.alone (j + 1) (callR k x).next μ0).1.isRet) ∧ ∃ s' F', Bare w' m c t (callR k x) (Res.alone (j + 1) (callR k x).next μ0).2 s' F' (Res.alone (j + 1) (callR k x).next μ0).1 ∧ s'.told.length ≤ j + 1 ∧ (∀ b ∈ F', w0.heap.size ≤ b) ∧ Below w0.heap.size w0 w' := by
  refine (call01_step k hk01 kd x none m c t _ s F _ time w hkd h (by omega)).mono ?_
  rintro e w' ⟨he, s', F', hb, ht, -, hF', hu⟩
  have hsz := hw.size
  refine ⟨he, s', F', hb, ?_, fun b hb => (hF' b hb).elim (hF b) fun h => by omega, below_upd hw hu (Nat.le_refl _) ?_⟩
  · rw [ht, List.length_append]
    have := tells_le (Res.alone j (callR k x).next μ0).1 (Res.alone j (callR k x).next μ0).2
    omega
  · intro b hb
    simp only [List.mem_cons] at hb
    rcases hb with e | e | e
    · exact hmc b (by simp [e])
    · exact hmc b (by simp [e])
    · exact hF b e

set_option maxRecDepth 100000 in
set_option maxHeartbeats 2000000 in
theorem holds04 (rd ah be : Int) (w : World) (h1 : (Lit.int .u8 rd).wf = true) (h2 : (Lit.int .u8 ah).wf = true) (h3 : (Lit.int .u8 be).wf = true) :
    Calls Try.prog 10 #[.int .u8 rd, .int .u8 ah, .int .u8 be] w fun e w' => e = .returned (.bool true) ∧ Below w.heap.size w w' := by
  have HAW := Lib.hid awake04
  have md : ∀ (z : Int) (n : Nat), (Lit.int .u8 z).wf = true → 0 < n → n ≤ 20 → ∃ N : Nat, wrap64 (z.tmod n) = N ∧ N < n := by
    intro z n hz hn hn2
    have h0 := bounds_u8 hz
    have h4 := Int.emod_nonneg z (show (n : Int) ≠ 0 by omega)
    have h5 := Int.emod_lt_of_pos z (show (0 : Int) < n by omega)
    refine ⟨(z % n).toNat, ?_, by omega⟩
    rw [Int.tmod_eq_emod_of_nonneg h0.1, w64 _ h4 (by omega)]
    omega
  obtain ⟨X, hX, hX16⟩ := md rd 16 h1 (by omega) (by omega)
  obtain ⟨A, hA, hA20⟩ := md ah 20 h2 (by omega) (by omega)
  obtain ⟨Bn, hB, hB20⟩ := md be 20 h3 (by omega) (by omega)
  have HX := Lib.hid hX
  have HA := Lib.hid hA
  have HB := Lib.hid hB
  clear h1 h2 h3 hX hA hB md
  have ht1 := tried_zero 0 (by omega) A (by omega)
  have HT1 := Lib.hid ht1
  clear ht1
  have hA0 : (0 : Int) + A = A := by omega
  go_enter Try.func10, Try.ntmps10
  go_wp2_with fail
  refine (HAW.out _).mono ?_
  rintro e w0 ⟨rfl, hb0⟩
  go_wp2_with fail
  refine (cell_new 30 _).mono ?_
  rintro e w1 ⟨rfl, hm, hb1, -⟩
  have hB0 := hb0.size
  have hb := below_then hb0 hb1 (Nat.le_refl _)
  have hm : MemAt w1 (w0.heap.size + 1) w0.heap.size (RM 0 b0 0) := hm
  generalize hx1 : w0.heap.size + 1 = m at *
  generalize hc : w0.heap.size = c at *
  have hbm : ∀ b ∈ [m, c], w.heap.size ≤ b := by simp; omega
  clear hx1 hc hb0 hb1
  go_wp2_with fail
  have HA' : wrap64 (ah.tmod 20) = (A : Nat) := HA.out
  have HX' : wrap64 (rd.tmod 16) = (X : Nat) := HX.out
  rw [HX', HA']
  clear HA' HX'
  refine (rcu_tried A (by omega) m c 0 0 b0 rfl _ hm).mono ?_
  rw [HT1.out]
  rintro e w2 ⟨rfl, ⟨cnt1, hm2⟩, hu2⟩
  rw [hA0] at hm2
  have hw2 := below_upd hb hu2 (Nat.le_refl _) hbm
  clear hm hb hu2
  have hB2 := hw2.size
  go_wp2_with fail
  refine (t_new m c _ _ hm2).mono ?_
  rintro e w3 ⟨rfl, htm, hb3⟩
  have hw3 := below_then hw2 hb3 (Nat.le_refl _)
  generalize w2.heap.size = t at *
  obtain ⟨cnt2, h5⟩ := enter_alone A cnt1 X hX16
  have H5 := Lib.hid h5
  have hbare := Bare.first (r := callR 0 (X : Int)) htm (by
    unfold callR enterR
    rw [if_pos rfl, if_pos ⟨by omega, by omega⟩]
    rfl)
  clear h5 htm hm2 hw2 hb3
  go_wp2_with fail
  go_loopw [11] (fun i wr => ∃ (k : Nat) (s : TrS) (F : List Nat), k ≤ 2 ∧ i = .int .i64 k ∧ Bare wr m c t (callR 0 (X : Int)) (Res.alone k (callR 0 (X : Int)).next (RM A b0 cnt1)).2 s F (Res.alone k (callR 0 (X : Int)).next (RM A b0 cnt1)).1 ∧ s.told.length ≤ k ∧ (∀ b ∈ F, w.heap.size ≤ b) ∧ Below w.heap.size w wr) (fun i _ => 2 - (intOf i).toNat)
  case atStart => exact ⟨0, _, _, Nat.zero_le _, rfl, hbare, Nat.le_refl _, by simp; omega, hw3⟩
  case round =>
    clear hbare hw3
    obtain ⟨k, s, F, hk, rfl, hbare, hl, hF, hw⟩ := hrel
    by_cases hlt : k < 2
    · go_wp2_with fail
      refine (bare_next (kd := 0) (k := 0) (.inl rfl) (by decide) X w m c t _ k k _ s F hbare hl (by omega) hF hbm hw).mono ?_
      rintro e w4 ⟨rfl, s', F', hbare, hl, hF, hw⟩
      go_wp2
      go_roundw
      case rel => exact ⟨k + 1, s', F', by omega, by go_num, hbare, hl, hF, hw⟩
      case measure => simp [intOf]; omega
    · obtain rfl : k = 2 := by omega
      rw [H5.out] at hbare
      have hm := hbare.tm.mem
      rw [w64 ((A : Int) + 1) (by omega) (by omega)] at hm
      have ht2 := tried_one A X hX16 (by omega) (by omega) Bn
      have hlen : (b0.set X ((A : Int) + 1)).length = 16 := by simp [b0]
      have HT2 := Lib.hid ht2
      have HLEN := Lib.hid hlen
      clear hbare hl hF ht2 hlen
      go_wp2_with fail
      refine (rcu_board m c A cnt2 _ HLEN.out _ hm).mono ?_
      rintro e w5 ⟨rfl, hb5⟩
      have hw5 := below_then hw hb5 (Nat.le_refl _)
      have hm5 := hm.below hb5 hm.1.lt hm.2.1.lt
      have hf1 := board_field A _ HLEN.out
      clear hm hb5 hw
      go_wp2_with fail
      have HB' : wrap64 (be.tmod 20) = (Bn : Nat) := HB.out
      rw [HB']
      clear hf1 HB'
      refine (rcu_tried Bn (by omega) m c A cnt2 _ HLEN.out _ hm5).mono ?_
      rw [HT2.out]
      obtain ⟨G, E, hG, hG2, hE⟩ : ∃ (G : Nat) (E : Int), (if Bn = 0 then ((0 : Nat), (A : Int)) else (1, (A : Int) + 1)) = (G, E) ∧ G = min Bn 1 ∧ E = A + G := by
        by_cases h0 : Bn = 0
        · exact ⟨0, A, by rw [if_pos h0], by omega, by omega⟩
        · exact ⟨1, A + 1, by rw [if_neg h0], by omega, by omega⟩
      rw [hG]
      rintro e w6 ⟨rfl, ⟨cnt3, hm6⟩, hu6⟩
      have hw6 := below_upd hw5 hu6 (Nat.le_refl _) hbm
      simp only at hm6
      clear hm5 hw5 hu6 hG
      have q1 : ((A : Int) != wrap64 (ah.tmod 20)) = false := by
        have h : wrap64 (ah.tmod 20) = (A : Nat) := HA.out
        rw [h]
        simp
      have c3 : ¬ (A : Int) + 1 < E := by omega
      have hf2 := board_field E _ HLEN.out
      have wfA : (Lit.int .i64 (A : Int)).wf = true := wf_small _ (by omega) (by omega)
      have wfE : (Lit.int .i64 E).wf = true := wf_small _ (by omega) (by omega)
      have wfE2 : (Lit.int .i64 (E + 2)).wf = true := wf_small _ (by omega) (by omega)
      have d1 : decide ((A : Int) + 2 ≤ E) = false := by simp; omega
      have d2 : decide ((A : Int) + 2 ≤ E + 2) = true := by simp; omega
      have ht3 := tried_zero E (by omega) 2 (by omega)
      obtain ⟨cnt4, h6⟩ := leave_alone E cnt3 ((A : Int) + 1) X hX16
      have HL1 := Lib.hid h6
      have HG := Lib.hid hG2
      have HT3 := Lib.hid ht3
      have HD1 := Lib.hid d1
      have HD2 := Lib.hid d2
      have HE := Lib.hid hE
      have hE0 : (0 : Int) ≤ E := by omega
      have hE1 : E ≤ 100 := by omega
      have HWF := Lib.hid (And.intro wfA (And.intro wfE wfE2))
      clear h6 hG2 ht3 d1 d2 hE wfA wfE wfE2
      simp only
      have hcase : Bn ≤ 1 ∨ 1 < Bn := by omega
      rcases hcase with hbn | hbn
      · have hbe : wrap64 (be.tmod 20) = (Bn : Nat) := HB.out
        have c1 : wrap64 (be.tmod 20) ≤ 1 := by omega
        have c2 : ¬ 1 < wrap64 (be.tmod 20) := by omega
        have q2 : ((G : Int) != wrap64 (be.tmod 20)) = false := by rw [hbe]; have := HG.out; simp; omega
        clear hbe
        go_wp2_with fail
        refine (rcu_board m c E cnt3 _ HLEN.out _ hm6).mono ?_
        rintro e w7 ⟨rfl, hb7⟩
        have hw7 := below_then hw6 hb7 (Nat.le_refl _)
        have hm7 := hm6.below hb7 hm6.1.lt hm6.2.1.lt
        clear hm6 hb7 hw6
        go_wp2_with fail
        refine (rcu_board m c E cnt3 _ HLEN.out _ hm7).mono ?_
        rintro e w8 ⟨rfl, hb8⟩
        have hw8 := below_then hw7 hb8 (Nat.le_refl _)
        have hm8 := hm7.below hb8 hm7.1.lt hm7.2.1.lt
        clear hm7 hb8 hw7
        go_wp2_with fail
        refine (rcu_free A E _ HWF.out.1 HWF.out.2.1).mono ?_
        rw [HD1.out]
        rintro e w' ⟨rfl, rfl⟩
        have hB8 := hw8.size
        go_wp2_with fail
        refine (t_new m c _ _ hm8).mono ?_
        rintro e w9 ⟨rfl, htm, hb9⟩
        have hw9 := below_then hw8 hb9 (Nat.le_refl _)
        generalize w8.heap.size = t2 at *
        have hbare := Bare.first (r := callR 1 (X : Int)) htm (by
          unfold callR leaveR
          rw [if_neg (by decide), if_pos rfl, if_pos ⟨by omega, by omega⟩]
          rfl)
        clear htm hm8 hw8 hb9
        go_wp2_with fail
        refine (bare_next (kd := 1) (k := 1) (.inr rfl) (by decide) X w m c t2 (RM E (b0.set X ((A : Int) + 1)) cnt3) 0 0 _ TrS.new [t2] hbare (Nat.le_refl _) (by omega) (by simp; omega) hbm hw9).mono ?_
        rintro e w10 ⟨rfl, s', F', hbare, -, -, hw10⟩
        rw [HL1.out] at hbare
        have hm10 := hbare.tm.mem
        simp only at hm10
        clear hbare hw9
        go_wp2_with fail
        refine (rcu_tried 2 (by omega) m c E cnt4 b0 rfl _ hm10).mono ?_
        rw [HT3.out]
        rintro e w11 ⟨rfl, ⟨cnt5, hm11⟩, hu11⟩
        have hw11 := below_upd hw10 hu11 (Nat.le_refl _) hbm
        have hm12 : MemAt w11 m c (RM (E + 2) b0 cnt5) := hm11
        have hf3 := board_field (E + 2) b0 rfl
        clear hm10 hm11 hu11 hw10 hf2
        go_wp2_with fail
        refine (rcu_board m c (E + 2) cnt5 b0 rfl _ hm12).mono ?_
        rintro e w12 ⟨rfl, hb12⟩
        have hw12 := below_then hw11 hb12 (Nat.le_refl _)
        clear hm12 hb12 hw11
        go_wp2_with fail
        refine (rcu_free A (E + 2) _ HWF.out.1 HWF.out.2.2).mono ?_
        rw [HD2.out]
        rintro e w' ⟨rfl, rfl⟩
        go_wp2
        go_ret
        exact ⟨rfl, hw12⟩
      · have hbe : wrap64 (be.tmod 20) = (Bn : Nat) := HB.out
        have c1 : ¬ wrap64 (be.tmod 20) ≤ 1 := by omega
        have c2 : 1 < wrap64 (be.tmod 20) := by omega
        have q2 : ((G : Int) != 1) = false := by have := HG.out; simp; omega
        clear hbe
        go_wp2_with fail
        refine (rcu_board m c E cnt3 _ HLEN.out _ hm6).mono ?_
        rintro e w7 ⟨rfl, hb7⟩
        have hw7 := below_then hw6 hb7 (Nat.le_refl _)
        have hm7 := hm6.below hb7 hm6.1.lt hm6.2.1.lt
        clear hm6 hb7 hw6
        go_wp2_with fail
        refine (rcu_board m c E cnt3 _ HLEN.out _ hm7).mono ?_
        rintro e w8 ⟨rfl, hb8⟩
        have hw8 := below_then hw7 hb8 (Nat.le_refl _)
        have hm8 := hm7.below hb8 hm7.1.lt hm7.2.1.lt
        clear hm7 hb8 hw7
        go_wp2_with fail
        refine (rcu_free A E _ HWF.out.1 HWF.out.2.1).mono ?_
        rw [HD1.out]
        rintro e w' ⟨rfl, rfl⟩
        have hB8 := hw8.size
        go_wp2_with fail
        refine (t_new m c _ _ hm8).mono ?_
        rintro e w9 ⟨rfl, htm, hb9⟩
        have hw9 := below_then hw8 hb9 (Nat.le_refl _)
        generalize w8.heap.size = t2 at *
        have hbare := Bare.first (r := callR 1 (X : Int)) htm (by
          unfold callR leaveR
          rw [if_neg (by decide), if_pos rfl, if_pos ⟨by omega, by omega⟩]
          rfl)
        clear htm hm8 hw8 hb9
        go_wp2_with fail
        refine (bare_next (kd := 1) (k := 1) (.inr rfl) (by decide) X w m c t2 (RM E (b0.set X ((A : Int) + 1)) cnt3) 0 0 _ TrS.new [t2] hbare (Nat.le_refl _) (by omega) (by simp; omega) hbm hw9).mono ?_
        rintro e w10 ⟨rfl, s', F', hbare, -, -, hw10⟩
        rw [HL1.out] at hbare
        have hm10 := hbare.tm.mem
        simp only at hm10
        clear hbare hw9
        go_wp2_with fail
        refine (rcu_tried 2 (by omega) m c E cnt4 b0 rfl _ hm10).mono ?_
        rw [HT3.out]
        rintro e w11 ⟨rfl, ⟨cnt5, hm11⟩, hu11⟩
        have hw11 := below_upd hw10 hu11 (Nat.le_refl _) hbm
        have hm12 : MemAt w11 m c (RM (E + 2) b0 cnt5) := hm11
        have hf3 := board_field (E + 2) b0 rfl
        clear hm10 hm11 hu11 hw10 hf2
        go_wp2_with fail
        refine (rcu_board m c (E + 2) cnt5 b0 rfl _ hm12).mono ?_
        rintro e w12 ⟨rfl, hb12⟩
        have hw12 := below_then hw11 hb12 (Nat.le_refl _)
        clear hm12 hb12 hw11
        go_wp2_with fail
        refine (rcu_free A (E + 2) _ HWF.out.1 HWF.out.2.2).mono ?_
        rw [HD2.out]
        rintro e w' ⟨rfl, rfl⟩
        go_wp2
        go_ret
        exact ⟨rfl, hw12⟩
end Go.Proofs.Ytcphidmfdakbeaa
