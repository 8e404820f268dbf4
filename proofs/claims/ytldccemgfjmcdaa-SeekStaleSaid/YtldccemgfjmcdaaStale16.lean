/- SeekStale, walked. -/
import Derived.Test.YtldccemgfjmcdaaLooks16
namespace Go.Proofs.Ytldccemgfjmcdaa
open Go.RowKit
set_option linter.unusedSimpArgs false
set_option linter.unusedVariables false

theorem right_two (h : Int) : (slotAr 2 2).right h = (h == 65537 || h == 65538) := by
  have hs := slotOf_lo h
  have hat : ∀ k : Nat, k < 2 → (slotAr 2 2).at_ ((k : Int) + 1) = (1, true) := by
    intro k hk
    rw [ArS.at_succ]
    match k, hk with
    | 0, _ => rfl
    | 1, _ => rfl
  by_cases h1 : slotOf h = 1
  · have e : (slotAr 2 2).right h = (hand 1 1 == h) := by
      unfold ArS.right ArS.handle
      rw [h1, show (slotAr 2 2).at_ 1 = (1, true) from hat 0 (by omega)]
      rfl
    rw [e, hand_one (by omega) (by omega)]
    have : h ≠ 65538 := by rintro rfl; simp [slotOf] at h1
    rw [Bool.eq_iff_iff]
    simp only [Bool.or_eq_true, beq_iff_eq]
    omega
  · by_cases h2 : slotOf h = 2
    · have e : (slotAr 2 2).right h = (hand 1 2 == h) := by
        unfold ArS.right ArS.handle
        rw [h2, show (slotAr 2 2).at_ 2 = (1, true) from hat 1 (by omega)]
        rfl
      rw [e, hand_one (by omega) (by omega)]
      have : h ≠ 65537 := by rintro rfl; simp [slotOf] at h2
      rw [Bool.eq_iff_iff]
      simp only [Bool.or_eq_true, beq_iff_eq]
      omega
    · have e : (slotAr 2 2).right h = false := by
        have hn : (slotAr 2 2).has (slotOf h) = false := by
          have hl : (slotAr 2 2).slots.length = 2 := rfl
          simp only [ArS.has, hl, Bool.and_eq_false_iff, decide_eq_false_iff_not]
          omega
        unfold ArS.right
        rw [hn]
        rfl
      rw [e]
      symm
      simp only [Bool.or_eq_false_iff, beq_eq_false_iff_ne]
      constructor
      · rintro rfl; simp [slotOf] at h1
      · rintro rfl; simp [slotOf] at h2
def staleMem : MemS := ((slotMem (flat28 [zeros 28, zeros 28]) 56).store 3 7).2
def staleLand : LandS := ⟨staleMem, slotAr 2 2⟩
set_option maxRecDepth 100000 in
theorem staleMem_count : staleMem.count = 57 := by decide +kernel
set_option maxRecDepth 100000 in
theorem staleMem_wf : WfM staleMem := by
  intro x hx
  have : x = 0 ∨ x = 7 := by
    have h : ∀ x ∈ staleMem.cells, x = 0 ∨ x = 7 := by decide
    exact h x hx
  rcases this with rfl | rfl <;> rfl
/-- Two rows of noughts, laid side by side. -/
theorem slots_two (W : World) (p q : Nat) (hp : p = W.heap.size ∨ p = W.heap.size + 1) (hq : q = W.heap.size ∨ q = W.heap.size + 1) :
    Calls Try.prog 18 #[.slice (some ⟨W.heap.size + 1 + 1, 0, none⟩) 2 2]
      (((W.alloc (.cells (madeCells #[.int .i64 0] 28) 2)).alloc (.cells (madeCells #[.int .i64 0] 28) 2)).alloc (.cells #[.slice (some ⟨p, 0, none⟩) 28 28, .slice (some ⟨q, 0, none⟩) 28 28] 31))
      fun e w' => e = .returned (.tuple #[.pointer (some ⟨W.heap.size + 4, 0, none⟩), .pointer (some ⟨W.heap.size + 6, 0, none⟩)]) ∧ Below W.heap.size W w' ∧
        LandAt w' (W.heap.size + 4) (W.heap.size + 3) (W.heap.size + 6) (W.heap.size + 5) (land16 [zeros 28, zeros 28]) := by
  have hz : ∀ x ∈ zeros 28, WfI x := zeros_wf 28
  have hb3 : Below W.heap.size W (((W.alloc (.cells (madeCells #[.int .i64 0] 28) 2)).alloc (.cells (madeCells #[.int .i64 0] 28) 2)).alloc (.cells #[.slice (some ⟨p, 0, none⟩) 28 28, .slice (some ⟨q, 0, none⟩) 28 28] 31)) :=
    (((Below.refl _ _).alloc (Nat.le_refl _) _).alloc (by simp) _).alloc (by simp; omega) _
  have hsz : (((W.alloc (.cells (madeCells #[.int .i64 0] 28) 2)).alloc (.cells (madeCells #[.int .i64 0] 28) 2)).alloc (.cells #[.slice (some ⟨p, 0, none⟩) 28 28, .slice (some ⟨q, 0, none⟩) 28 28] 31)).heap.size = W.heap.size + 3 := by simp
  have hblk : Blk (((W.alloc (.cells (madeCells #[.int .i64 0] 28) 2)).alloc (.cells (madeCells #[.int .i64 0] 28) 2)).alloc (.cells #[.slice (some ⟨p, 0, none⟩) 28 28, .slice (some ⟨q, 0, none⟩) 28 28] 31)) (W.heap.size + 2) 31 #[.slice (some ⟨p, 0, none⟩) 28 28, .slice (some ⟨q, 0, none⟩) 28 28] := by
    have := Blk.new ((W.alloc (.cells (madeCells #[.int .i64 0] 28) 2)).alloc (.cells (madeCells #[.int .i64 0] 28) 2)) 31 #[.slice (some ⟨p, 0, none⟩) 28 28, .slice (some ⟨q, 0, none⟩) 28 28]
    simpa using this
  have hrow : ∀ g, (g = W.heap.size ∨ g = W.heap.size + 1) → Ints (((W.alloc (.cells (madeCells #[.int .i64 0] 28) 2)).alloc (.cells (madeCells #[.int .i64 0] 28) 2)).alloc (.cells #[.slice (some ⟨p, 0, none⟩) 28 28, .slice (some ⟨q, 0, none⟩) 28 28] 31)) (some ⟨g, 0, none⟩) 28 28 (zeros 28) := by
    intro g hg
    have hb : Blk (((W.alloc (.cells (madeCells #[.int .i64 0] 28) 2)).alloc (.cells (madeCells #[.int .i64 0] 28) 2)).alloc (.cells #[.slice (some ⟨p, 0, none⟩) 28 28, .slice (some ⟨q, 0, none⟩) 28 28] 31)) g 2 (madeCells #[.int .i64 0] 28) := by
      rcases hg with rfl | rfl
      · exact ((Blk.new W _ _).alloc _).alloc _
      · have := (Blk.new (W.alloc (.cells (madeCells #[.int .i64 0] 28) 2)) 2 (madeCells #[.int .i64 0] 28)).alloc (.cells #[.slice (some ⟨p, 0, none⟩) 28 28, .slice (some ⟨q, 0, none⟩) 28 28] 31)
        simpa using this
    have hb2 : Blk (((W.alloc (.cells (madeCells #[.int .i64 0] 28) 2)).alloc (.cells (madeCells #[.int .i64 0] 28) 2)).alloc (.cells #[.slice (some ⟨p, 0, none⟩) 28 28, .slice (some ⟨q, 0, none⟩) 28 28] 31)) g 2 (nums .i64 (zeros 28)) := by
      unfold zeros
      rw [← nums_zeros]
      exact hb
    have h1 := Row.made hb2 (by rw [nums_size]; simp [zeros, maxLen])
    rw [nums_size] at h1
    exact ArgInts.ofRow h1 hz
  generalize (((W.alloc (.cells (madeCells #[.int .i64 0] 28) 2)).alloc (.cells (madeCells #[.int .i64 0] 28) 2)).alloc (.cells #[.slice (some ⟨p, 0, none⟩) 28 28, .slice (some ⟨q, 0, none⟩) 28 28] 31)) = W3 at *
  have hrl : RowsL W3 (some ⟨W.heap.size + 2, 0, none⟩) 2 2 [⟨some ⟨p, 0, none⟩, 28, 28, zeros 28⟩, ⟨some ⟨q, 0, none⟩, 28, 28, zeros 28⟩] := by
    refine ⟨⟨rfl, Nat.le_refl _, by unfold maxLen; omega, by simp, .inr ⟨W.heap.size + 2, 0, rfl, hblk.lt, fun i x hx j u hu => ?_⟩⟩, ?_⟩
    · match i, hx with
      | 0, hx =>
        simp at hx
        subst hx
        match j, hu with
        | 0, hu =>
          simp [RowV.cells] at hu
          subst hu
          exact hblk.at_ rfl
        | j + 1, hu => simp [RowV.cells] at hu
      | 1, hx =>
        simp at hx
        subst hx
        match j, hu with
        | 0, hu =>
          simp [RowV.cells] at hu
          subst hu
          exact hblk.at_ rfl
        | j + 1, hu => simp [RowV.cells] at hu
      | i + 2, hx => simp at hx
    · intro r hr
      simp only [List.mem_cons, List.not_mem_nil, or_false] at hr
      rcases hr with rfl | rfl
      · exact hrow p hp
      · exact hrow q hq
  refine (slots16' (some ⟨W.heap.size + 2, 0, none⟩) 2 2 _ W3 hrl (by simp) (by omega)).mono ?_
  rintro e w' ⟨rfl, hb, hl⟩
  rw [hsz] at hl ⊢
  exact ⟨rfl, below_thru hb3 (by rw [hsz]; rw [hsz] at hb; exact hb), hl⟩
def TwoPost (w : World) (v5 v6 : Value) (wc : World) : Prop := ∃ m c a b, w.heap.size ≤ m ∧ w.heap.size ≤ c ∧ w.heap.size ≤ a ∧ w.heap.size ≤ b ∧ v5 = .pointer (some ⟨m, 0, none⟩) ∧ v6 = .pointer (some ⟨a, 0, none⟩) ∧ Below w.heap.size w wc ∧ LandAt wc m c a b (land16 [zeros 28, zeros 28])
set_option maxRecDepth 100000 in
set_option maxHeartbeats 4000000 in
theorem stale16 (hd word : Int) (w : World) (hwh : (Lit.int .i64 hd).wf = true) (hww : (Lit.int .i64 word).wf = true) :
    Calls Try.prog 9 #[.int .i64 hd, .int .i64 word] w fun e w' => e = .returned (.bool true) ∧ Below w.heap.size w w' := by
  have hmk : ∀ w, (Instr.makeSlice 31 (.int .i64 28) (.int .i64 28)).run Try.prog w = .ok (.slice (some ⟨w.heap.size, 0, none⟩) 28 28) (w.alloc (.cells (madeCells #[.int .i64 0] 28) 2)) :=
    run_make_row' (P := Try.prog) 31 2 (.int .i64 0) 8 Try.underlying31 info_i64 rfl .i64 .i64 28 (by omega) (by omega)
  have HA := Lib.hid awake16
  have HB := Lib.hid (Below.refl w.heap.size w)
  have HWH := Lib.hid hwh
  clear hwh hww
  go_enter Try.func9, Try.ntmps9
  go_wp2_with fail
  refine (HA.out _).mono ?_
  rintro e w1 ⟨rfl, hb⟩
  replace HB := Lib.hid (below_thru HB.out hb)
  clear hb
  go_upto_region 3 with fail
  go_cut [5, 6] (TwoPost w)
  case first =>
    clear hmk
    have hmk : ∀ w, (Instr.makeSlice 31 (.int .i64 28) (.int .i64 28)).run Try.prog w = .ok (.slice (some ⟨w.heap.size, 0, none⟩) 28 28) (w.alloc (.cells (madeCells #[.int .i64 0] 28) 2)) :=
      run_make_row' (P := Try.prog) 31 2 (.int .i64 0) 8 Try.underlying31 info_i64 rfl .i64 .i64 28 (by omega) (by omega)
    go_region_held3 (fun _ => True) (exact trivial) (first | ((go_at_call 18); refine (slots_two w1.drew _ _ (by simp) (by simp)).mono ?_; rintro e w2 ⟨rfl, hb, hl⟩))
    all_goals
      have HB2 := Lib.hid (below_thru (below_drewN HB.out 1) hb)
      have HL2 := Lib.hid hl
      have hsz : w.heap.size ≤ w1.drew.heap.size := HB.out.size
      have hsz1 := HB.out.size
      clear hb hl hmk
      go_wp2_with fail
      go_meet
      exact ⟨_, _, _, _, by omega, by omega, by omega, by omega, rfl, rfl, HB2.out, HL2.out⟩
  case rest =>
    obtain ⟨m, c, a, b, n1, n2, n3, n4, rfl, rfl, hb, hl⟩ := hcut
    clear HB hmk
    have HB := Lib.hid hb
    have HL := Lib.hid hl
    have HNEW := Lib.hid (show ∀ x ∈ [m, c, a, b], w.heap.size ≤ x by simp; omega)
    have HST := Lib.hid (cell_store m c (land16 [zeros 28, zeros 28]).mu 3 7 wc hl.mem)
    clear hb hl n1 n2 n3 n4
    go_wp2_with fail
    refine HST.out.mono ?_
    rintro e w3 ⟨rfl, hm3, hu3⟩
    have HB3 := Lib.hid (below_upd HB.out hu3 (Nat.le_refl _) (fun x hx => HNEW.out x (by simp at hx; simp; omega)))
    obtain ⟨p1, p2, p3, p4⟩ := HL.out.apart
    have HL3 := Lib.hid (show LandAt w3 m c a b staleLand from ⟨hm3, HL.out.ar.upd hu3 (by simp; omega) (by simp; omega), staleMem_wf⟩)
    have hR := Tells.map (Tells.read staleLand hd word) (fun v => (⟨v, false, false, zeroArea, none⟩ : ResV))
    have hcl : (bif staleLand.there hd word then (1 : Nat) else 0) ≤ 1 := by cases staleLand.there hd word <;> simp
    have HAT := Lib.hid (all_tells hd word 3 (look3R hd word) (free3 _ _) (runs3 hd word (by have := (WfI.bounds HWH.out).2; omega)) m c a b staleLand none w3 HL3.out hR (by decide) (by show (0 : Int) ≤ staleMem.count; rw [staleMem_count]; omega) (by show staleMem.count + _ ≤ _; rw [staleMem_count]; omega))
    clear hm3 hu3 p1 p2 p3 p4 HL HB HST hR hcl HL3
    go_wp2_with fail
    refine HAT.out.mono ?_
    rintro e w4 ⟨cs, σ2, rfl, ⟨d0, d1, d2, d3, d4, rfl, hnd⟩, hla, hsame, -, hstale, hu⟩
    rcases hnd with ⟨-, rfl, rfl, rfl, rfl, rfl⟩ | ⟨_, _, _, _, _, _, _, hm', -⟩
    rotate_left
    · cases hm'
    have HB4 := Lib.hid (below_upd HB3.out hu (Nat.le_refl _) HNEW.out)
    have HL4 := Lib.hid hla
    have hst2 : σ2.ar.stale = !(hd == 65537 || hd == 65538) := by
      rw [hstale, show staleLand.ar = slotAr 2 2 from rfl, right_two]
      simp [slotAr]
    have HST2 := Lib.hid hst2
    have HWD := Lib.hid (hsame.word (hd := hd) (wd := word))
    obtain ⟨V, hV⟩ : ∃ V, staleLand.word hd word = V := ⟨_, rfl⟩
    rw [hV] at HWD ⊢
    clear hV hla hsame hstale hst2 hu HAT HB3
    simp only [zeroArea]
    replace HB4 := Lib.hid (below_thru HB4.out (below_alloc0 w4 (.cells #[.int .i64 V, .bool false, .bool false, .int .i64 0, .int .i64 0, .int .i64 0, .bool false, .int .i64 0, .int .i64 0, .bool false, .int .i64 0, .slice none 0 0, .slice none 0 0, .slice none 0 0] 59)))
    replace HL4 := Lib.hid (HL4.out.thru (below_alloc0 w4 (.cells #[.int .i64 V, .bool false, .bool false, .int .i64 0, .int .i64 0, .int .i64 0, .bool false, .int .i64 0, .int .i64 0, .bool false, .int .i64 0, .slice none 0 0, .slice none 0 0, .slice none 0 0] 59)))
    have HRB := Lib.hid (Blk.new w4 59 #[.int .i64 V, .bool false, .bool false, .int .i64 0, .int .i64 0, .int .i64 0, .bool false, .int .i64 0, .int .i64 0, .bool false, .int .i64 0, .slice none 0 0, .slice none 0 0, .slice none 0 0])
    go_upto_region 6 with fail
    have HZ := Lib.hid (World.size_alloc w4 (.cells #[.int .i64 V, .bool false, .bool false, .int .i64 0, .int .i64 0, .int .i64 0, .bool false, .int .i64 0, .int .i64 0, .bool false, .int .i64 0, .slice none 0 0, .slice none 0 0, .slice none 0 0] 59))
    obtain ⟨rb, hrb⟩ : ∃ x, w4.heap.size = x := ⟨_, rfl⟩
    simp only [hrb] at HRB HZ ⊢
    replace hrb := Lib.hid hrb
    generalize w4.alloc (.cells #[.int .i64 V, .bool false, .bool false, .int .i64 0, .int .i64 0, .int .i64 0, .bool false, .int .i64 0, .int .i64 0, .bool false, .int .i64 0, .slice none 0 0, .slice none 0 0, .slice none 0 0] 59) = w5 at *
    obtain ⟨m0, m1, m2, m3, m4, m5, m6, m7, m8, m9, m10, m11, m12, m13⟩ := HRB.out.at14
    by_cases hright : hd = 65537 ∨ hd = 65538
    · have hr : (hd == 65537 || hd == 65538) = true := by simpa using hright
      have HS5 := HL4.out.stale_ok
      rw [HST2.out, hr] at HS5
      have HS5' := Lib.hid HS5
      clear HS5
      by_cases hword : 0 ≤ word ∧ word < 28
      · obtain ⟨h1, h2⟩ := hword
        have HCE := Lib.hid (arena_cell a b σ2.ar hd word w5 HL4.out.ar (by have := (WfI.bounds HWH.out).2; omega))
        have HLO := cell_load m c σ2.mu (σ2.ar.cell hd word) w5 HL4.out.mem
        have hval : (σ2.mu.load (σ2.ar.cell hd word)).1 = V := HWD.out
        rw [hval] at HLO
        have HLO' := Lib.hid HLO
        clear HLO hval
        rcases hright with rfl | rfl
        · go_wp2_with fail
          refine HCE.out.mono ?_
          rintro e w6 ⟨rfl, rfl⟩
          go_wp2_with fail
          refine HLO'.out.mono ?_
          rintro e w6 ⟨rfl, hm6, hu6⟩
          have hne : rb ≠ m := HRB.out.ne_ HL4.out.mem.1 (by decide)
          have HRB6 := Lib.hid (HRB.out.upd hu6 (by simpa using hne))
          have HB6 := Lib.hid (below_upd HB4.out hu6 (Nat.le_refl _) (fun x hx => HNEW.out x (by simp at hx; simp [hx])))
          obtain ⟨p1, p2, p3, p4⟩ := HL4.out.apart
          have HA6 := HL4.out.ar.upd hu6 (by simp; omega) (by simp; omega)
          have HS6 := arena_stale a b _ w6 HA6
          rw [HST2.out, hr] at HS6
          have HS6' := Lib.hid HS6
          clear hm6 hu6 hne p1 p2 p3 p4 HA6 HS6
          clear m0 m1 m2 m3 m4 m5 m6 m7 m8 m9 m10 m11 m12 m13
          obtain ⟨m0, m1, m2, m3, m4, m5, m6, m7, m8, m9, m10, m11, m12, m13⟩ := HRB6.out.at14
          go_wp2_with fail
          refine HS6'.out.mono ?_
          rintro e w7 ⟨rfl, rfl⟩
          go_wp2
          go_ret
          exact ⟨rfl, HB6.out⟩
        · go_wp2_with fail
          refine HCE.out.mono ?_
          rintro e w6 ⟨rfl, rfl⟩
          go_wp2_with fail
          refine HLO'.out.mono ?_
          rintro e w6 ⟨rfl, hm6, hu6⟩
          have hne : rb ≠ m := HRB.out.ne_ HL4.out.mem.1 (by decide)
          have HRB6 := Lib.hid (HRB.out.upd hu6 (by simpa using hne))
          have HB6 := Lib.hid (below_upd HB4.out hu6 (Nat.le_refl _) (fun x hx => HNEW.out x (by simp at hx; simp [hx])))
          obtain ⟨p1, p2, p3, p4⟩ := HL4.out.apart
          have HA6 := HL4.out.ar.upd hu6 (by simp; omega) (by simp; omega)
          have HS6 := arena_stale a b _ w6 HA6
          rw [HST2.out, hr] at HS6
          have HS6' := Lib.hid HS6
          clear hm6 hu6 hne p1 p2 p3 p4 HA6 HS6
          clear m0 m1 m2 m3 m4 m5 m6 m7 m8 m9 m10 m11 m12 m13
          obtain ⟨m0, m1, m2, m3, m4, m5, m6, m7, m8, m9, m10, m11, m12, m13⟩ := HRB6.out.at14
          go_wp2_with fail
          refine HS6'.out.mono ?_
          rintro e w7 ⟨rfl, rfl⟩
          go_wp2
          go_ret
          exact ⟨rfl, HB6.out⟩
      · have hw : word < 0 ∨ 28 ≤ word := by omega
        rcases hright with rfl | rfl
        · rcases hw with h1 | h1
          · have h2 : ¬ 0 ≤ word := by omega
            clear hword h1
            go_wp2_with fail
            refine HS5'.out.mono ?_
            rintro e w6 ⟨rfl, rfl⟩
            go_wp2
            go_ret
            exact ⟨rfl, HB4.out⟩
          · have h2 : 0 ≤ word := by omega
            have h3 : ¬ word < 28 := by omega
            clear hword h1
            go_wp2_with fail
            refine HS5'.out.mono ?_
            rintro e w6 ⟨rfl, rfl⟩
            go_wp2
            go_ret
            exact ⟨rfl, HB4.out⟩
        · rcases hw with h1 | h1
          · have h2 : ¬ 0 ≤ word := by omega
            clear hword h1
            go_wp2_with fail
            refine HS5'.out.mono ?_
            rintro e w6 ⟨rfl, rfl⟩
            go_wp2
            go_ret
            exact ⟨rfl, HB4.out⟩
          · have h2 : 0 ≤ word := by omega
            have h3 : ¬ word < 28 := by omega
            clear hword h1
            go_wp2_with fail
            refine HS5'.out.mono ?_
            rintro e w6 ⟨rfl, rfl⟩
            go_wp2
            go_ret
            exact ⟨rfl, HB4.out⟩
    · have h1 : (hd == 65537) = false := beq_eq_false_iff_ne.2 (fun e => hright (.inl e))
      have h2 : (hd == 65538) = false := beq_eq_false_iff_ne.2 (fun e => hright (.inr e))
      have HS5 := HL4.out.stale_ok
      rw [HST2.out, h1, h2] at HS5
      have HS5' := Lib.hid HS5
      clear HS5 hright
      go_wp2_with fail
      refine HS5'.out.mono ?_
      rintro e w6 ⟨rfl, rfl⟩
      go_wp2
      go_ret
      exact ⟨rfl, HB4.out⟩
end Go.Proofs.Ytldccemgfjmcdaa
