/- The reference of layer 16: Look, Area, Node, of a slot's words; the law's words. -/
import Derived.Test.YtldccemgfjmcdaaReads
import Derived.BigQuiet
import Derived.Deep.QuietTactic
namespace Go.Proofs.Ytldccemgfjmcdaa
open Go.RowKit
set_option linter.unusedSimpArgs false
set_option linter.unusedVariables false

def LookPost (w : World) (q : Int × Bool × Bool × Nat) (e : Ending) (w' : World) : Prop :=
  e = .returned (.tuple #[.int .i64 q.1, .bool q.2.1, .bool q.2.2.1, .int .i64 q.2.2.2]) ∧ ∃ k, w' = w.drewN k
theorem lookP_no {x : List Int} {addr : Int} (h : headOf (x.getD 0 0) = (false, 0)) : lookP x addr = (0, false, false, 1) := by unfold lookP; simp only [h]; rfl
set_option maxRecDepth 100000 in
set_option maxHeartbeats 2000000 in
theorem ref16_look (a : Option Addr) (cap : Nat) (x : List Int) (addr : Int) (w : World) (h : Ints w a 28 cap x) :
    Calls Try.prog 35 #[.slice a 28 cap, .int .i64 addr] w (LookPost w (lookP x addr)) := by
  obtain ⟨b, o, rfl, hbl, q0⟩ := h.at_ (j := 0) (by decide)
  simp only [Nat.add_zero] at q0
  have hle := h.le
  have hm := h.hm
  unfold maxLen at hm
  have HH := Lib.hid h
  obtain ⟨xlo, xhi⟩ := bounds_i64 (h.wf_at (i := 0) (by decide))
  by_cases hgood : 17 ≤ x.getD 0 0 ∧ x.getD 0 0 ≤ 130 ∧ (x.getD 0 0 % 16 = 1 ∨ x.getD 0 0 % 16 = 2)
  · have HY := Lib.hid (headOf_yes hgood)
    obtain ⟨g1, g2, g3⟩ := hgood
    have HX := Lib.hid (show lookP x addr = ((lookGo x addr (x.getD 0 0 % 16 == 2) 0 (x.getD 0 0 / 16).toNat).1, (lookGo x addr (x.getD 0 0 % 16 == 2) 0 (x.getD 0 0 / 16).toNat).2.1, (lookGo x addr (x.getD 0 0 % 16 == 2) 0 (x.getD 0 0 / 16).toNat).2.2.1, (lookGo x addr (x.getD 0 0 % 16 == 2) 0 (x.getD 0 0 / 16).toNat).2.2.2 + 1) by
      unfold lookP
      rw [HY.out])
    clear h HY
    generalize x.getD 0 0 = x0 at *
    obtain ⟨K, hK⟩ : ∃ K : Nat, x0 / 16 = (K : Int) := ⟨(x0 / 16).toNat, by omega⟩
    have k1 : 1 ≤ K ∧ K ≤ 8 := by omega
    obtain ⟨k1, k8⟩ := k1
    have t0 : ¬ x0 < 0 := by omega
    have t1 : ¬ x0 % 16 < 1 := by omega
    have t2 : ¬ 2 < x0 % 16 := by omega
    have t3 : ¬ (K : Int) < 1 := by omega
    have t4 : ¬ (8 : Int) < (K : Int) := by omega
    rw [hK, Int.toNat_natCast] at HX
    obtain ⟨inn, hinn⟩ : ∃ inn, (x0 % 16 == 2) = inn := ⟨_, rfl⟩
    rw [hinn] at HX
    have HK := Lib.hid hK
    have HI := Lib.hid hinn
    clear hK hinn g3
    go_enter Try.func35, Try.ntmps35
    go_upto_region 2 with fail
    rw [HK.out]
    go_wp2
    go_loop [9] (fun v => ∃ i : Nat, i ≤ K ∧ v = .int .i64 i ∧ lookP x addr = ((lookGo x addr inn i (K - i)).1, (lookGo x addr inn i (K - i)).2.1, (lookGo x addr inn i (K - i)).2.2.1, (lookGo x addr inn i (K - i)).2.2.2 + 1 + i)) (fun v => K - (intOf v).toNat)
    case atStart => exact ⟨0, Nat.zero_le _, rfl, HX.out⟩
    case round =>
      clear HX
      obtain ⟨i, hi, rfl, hx⟩ := hrel
      have HX := Lib.hid hx
      clear hx
      by_cases hlt : i < K
      · have c1 := HH.out.at_ (j := 2 + i) (by omega)
        obtain ⟨b1, o1, e1, -, c1⟩ := c1
        injection e1 with e1
        injection e1 with e1 e2
        subst e1 e2
        have c2 := HH.out.at_ (j := 10 + i) (by omega)
        obtain ⟨b1, o1, e1, -, c2⟩ := c2
        injection e1 with e1
        injection e1 with e1 e2
        subst e1 e2
        have HE := Lib.hid (show lookGo x addr inn i (K - i) = _ by rw [show K - i = (K - (i + 1)) + 1 by omega, lookGo])
        by_cases hle2 : x.getD (2 + i) 0 ≤ addr
        · have ht : ¬ addr < x.getD (2 + i) 0 := by omega
          have HX2 := HX.out
          rw [HE.out, if_pos hle2] at HX2
          have HX3 := Lib.hid HX2
          clear HX2 hle2 c2
          generalize x.getD (2 + i) 0 = y at *
          go_wp2
          go_round
          case rel => exact ⟨i + 1, by omega, by go_num, by rw [HX3.out]; simp only [Prod.mk.injEq, true_and]; omega⟩
          case measure => simp [intOf]; omega
        · have ht : addr < x.getD (2 + i) 0 := by omega
          have HX2 := HX.out
          rw [HE.out, if_neg hle2] at HX2
          have HX3 := Lib.hid HX2
          clear HX2 hle2
          generalize x.getD (2 + i) 0 = y at *
          generalize x.getD (10 + i) 0 = z at *
          have hq1 : IntKind.i64.wrap (10 + (i : Int)) = 10 + (i : Int) := IntWalk.i64_in _ (by omega)
          have hq2 : IntKind.i64.wrap (3 + (i : Int)) = 3 + (i : Int) := IntWalk.i64_in _ (by omega)
          have hq3 : (10 + (i : Int)).toNat = 10 + i := by omega
          have hq4 : (0 : Int) ≤ 10 + (i : Int) := by omega
          have hq5 : (10 : Int) + (i : Int) < 28 := by omega
          go_upto_region 8 with fail
          go_quiet (fail)
          clear hq1 hq2 hq3 hq4 hq5
          go_wp2
          refine bodyPost_ret (v := .tuple #[.int .i64 z, .bool (x0 % 16 == 2), .bool true, .int .i64 (3 + (i : Int))]) (by simp [results, Try.results35, go_sem]) rfl ⟨?_, _, rfl⟩
          rw [HX3.out, HI.out]
          simp only [Ending.returned.injEq, Value.tuple.injEq, Array.mk.injEq, List.cons.injEq, Value.int.injEq, true_and, and_true]
          omega
      · obtain rfl : i = K := by omega
        go_wp2
        refine bodyPost_ret (v := .tuple #[.int .i64 0, .bool false, .bool false, .int .i64 (1 + (i : Int))]) (by simp [results, Try.results35, go_sem]) rfl ⟨?_, 0, rfl⟩
        rw [HX.out, Nat.sub_self]
        simp only [lookGo, Ending.returned.injEq, Value.tuple.injEq, Array.mk.injEq, List.cons.injEq, Value.int.injEq, true_and, and_true]
        omega
  · have HX := Lib.hid (lookP_no (addr := addr) (headOf_no hgood))
    have HE := Lib.hid (show LookPost w (lookP x addr) (.returned (.tuple #[.int .i64 0, .bool false, .bool false, .int .i64 1])) w by rw [HX.out]; exact ⟨rfl, 0, rfl⟩)
    clear h HX
    generalize x.getD 0 0 = x0 at *
    rcases Int.lt_or_le x0 0 with h0 | h0
    · clear hgood
      go_enter Try.func35, Try.ntmps35
      go_wp2
      exact bodyPost_ret (v := .tuple #[.int .i64 0, .bool false, .bool false, .int .i64 1]) (by simp [results, Try.results35, go_sem]) rfl HE.out
    · have t0 : ¬ x0 < 0 := by omega
      by_cases t1 : x0 % 16 < 1
      · clear hgood
        go_enter Try.func35, Try.ntmps35
        go_wp2
        exact bodyPost_ret (v := .tuple #[.int .i64 0, .bool false, .bool false, .int .i64 1]) (by simp [results, Try.results35, go_sem]) rfl HE.out
      · by_cases t2 : 2 < x0 % 16
        · clear hgood
          go_enter Try.func35, Try.ntmps35
          go_wp2
          exact bodyPost_ret (v := .tuple #[.int .i64 0, .bool false, .bool false, .int .i64 1]) (by simp [results, Try.results35, go_sem]) rfl HE.out
        · by_cases t3 : x0 / 16 < 1
          · clear hgood
            go_enter Try.func35, Try.ntmps35
            go_wp2
            exact bodyPost_ret (v := .tuple #[.int .i64 0, .bool false, .bool false, .int .i64 1]) (by simp [results, Try.results35, go_sem]) rfl HE.out
          · have t4 : 8 < x0 / 16 := by omega
            clear hgood
            go_enter Try.func35, Try.ntmps35
            go_wp2
            exact bodyPost_ret (v := .tuple #[.int .i64 0, .bool false, .bool false, .int .i64 1]) (by simp [results, Try.results35, go_sem]) rfl HE.out

set_option maxRecDepth 100000 in
set_option maxHeartbeats 1000000 in
theorem words16 (a : Option Addr) (len cap : Nat) (zs : List Int) (w : World) (h : Ints w a len cap zs) :
    Calls Try.prog 27 #[.slice a len cap] w fun e w' => e = .returned (.slice (some ⟨w.heap.size, 0, none⟩) 28 28) ∧ Row w' 2 1 w.heap.size 28 28 (i64s (pad28 zs)) ∧ Below w.heap.size w w' := by
  have hmk : ∀ w, (Instr.makeSlice 31 (.int .i64 28) (.int .i64 28)).run Try.prog w = .ok (.slice (some ⟨w.heap.size, 0, none⟩) 28 28) (w.alloc (.cells (madeCells #[.int .i64 0] 28) 2)) :=
    run_make_row' (P := Try.prog) 31 2 (.int .i64 0) 8 Try.underlying31 info_i64 rfl .i64 .i64 28 (by omega) (by omega)
  have HL := Lib.hid h
  have hle := h.le
  have hm := h.hm
  have HZ := Lib.hid h.hl
  unfold maxLen at hm
  have HB := Lib.hid (below_alloc0 w (.cells (madeCells #[.int .i64 0] 28) 2))
  have HN := Lib.hid (show Blk (w.alloc (.cells (madeCells #[.int .i64 0] 28) 2)) w.heap.size 2 (nums .i64 (zs.take 0 ++ zeros (28 - 0))) by
    have := Blk.new w 2 (madeCells #[.int .i64 0] 28)
    rw [nums_zeros] at this
    rw [nums_zeros]
    exact this)
  clear h
  go_enter Try.func27, Try.ntmps27
  go_upto_region 2 with fail
  clear hmk
  generalize w.alloc (.cells (madeCells #[.int .i64 0] 28) 2) = w1 at *
  obtain ⟨g, hg⟩ : ∃ g, w.heap.size = g := ⟨_, rfl⟩
  have HG := Lib.hid hg
  rw [hg] at HB HN ⊢
  clear hg
  go_wp2
  go_loopw [4] (fun v wr => ∃ k : Nat, k ≤ 28 ∧ k ≤ len ∧ v = .int .i64 k ∧ Below g w wr ∧ Blk wr g 2 (nums .i64 (zs.take k ++ zeros (28 - k)))) (fun v _ => 28 - (intOf v).toNat)
  case atStart => exact ⟨0, by omega, by omega, rfl, HB.out, HN.out⟩
  case round =>
    clear HB HN
    obtain ⟨k, hk, hkl, rfl, hb, hn⟩ := hrel
    have HB := Lib.hid hb
    have HN := Lib.hid hn
    have HEND := Lib.hid (show (k = 28 ∨ k = len) → Row wr 2 1 g 28 28 (i64s (pad28 zs)) from fun hor => by
      have hz := HZ.out
      have h1 := Row.made hn (by rw [nums_size]; simp [zeros, maxLen]; omega)
      rw [nums_size] at h1
      have hl : (zs.take k ++ zeros (28 - k)).length = 28 := by simp [zeros]; omega
      rw [hl] at h1
      have e : zs.take k ++ zeros (28 - k) = pad28 zs := by
        unfold pad28
        rcases hor with rfl | rfl
        · rw [show 28 - zs.length = 0 by omega]
        · rw [← hz, List.take_of_length_le (Nat.le_refl _), List.take_of_length_le (by omega)]
      rw [e] at h1
      exact h1)
    clear hb hn
    by_cases h28 : k < 28
    · by_cases hlt : k < len
      · obtain ⟨b, o, rfl, hbl, hc⟩ := (HL.out.below HB.out (by rw [HG.out]; exact Nat.le_refl _)).at_ hlt
        have hl2 : (zs.take k).length = k := by have := HZ.out; simp; omega
        have hcell := HN.out.at_ (i := k) (nums_get .i64 _ k (by have := HZ.out; simp [zeros]; omega))
        have hfree := HN.out.free k
        have hput := HN.out.put k (.int .i64 (zs.getD k 0))
        have e : (nums .i64 (zs.take k ++ zeros (28 - k))).setIfInBounds k (.int .i64 (zs.getD k 0)) = nums .i64 (zs.take (k + 1) ++ zeros (28 - (k + 1))) := by
          rw [nums_set, List.set_append_right _ _ (by omega), hl2, Nat.sub_self, show 28 - k = (28 - (k + 1)) + 1 by omega]
          simp only [zeros, List.replicate_succ, List.set_cons_zero]
          have hkz : k < zs.length := by have := HZ.out; omega
          rw [List.take_succ_eq_append_getElem hkz, List.append_assoc]
          simp [List.getD, hkz]
        rw [e] at hput
        have HP := Lib.hid hput
        have HB2 := Lib.hid (HB.out.setCell (p := ⟨g, k, none⟩) (Nat.le_refl _) (.int .i64 (zs.getD k 0)))
        clear e hput hl2 HEND HN HB
        generalize zs.getD k 0 = y at *
        go_wp2
        go_roundw
        case rel => exact ⟨k + 1, by omega, by omega, by go_num, HB2.out, HP.out⟩
        case measure => simp [intOf]; omega
      · obtain rfl : k = len := by omega
        have HE := Lib.hid (HEND.out (.inr rfl))
        clear HEND
        go_wp2
        go_ret
        exact ⟨by rw [HG.out]; rfl, by rw [HG.out]; exact HE.out, by rw [HG.out]; exact HB.out⟩
    · obtain rfl : k = 28 := by omega
      have HE := Lib.hid (HEND.out (.inl rfl))
      clear HEND
      go_wp2
      go_ret
      exact ⟨by rw [HG.out]; rfl, by rw [HG.out]; exact HE.out, by rw [HG.out]; exact HB.out⟩
end Go.Proofs.Ytldccemgfjmcdaa
