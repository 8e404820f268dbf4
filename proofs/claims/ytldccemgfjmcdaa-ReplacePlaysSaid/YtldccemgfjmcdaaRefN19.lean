/- The reference of layer 19: New. -/
import Derived.Test.YtldccemgfjmcdaaRef19
namespace Go.Proofs.Ytldccemgfjmcdaa
open Go.RowKit
set_option linter.unusedSimpArgs false
set_option linter.unusedVariables false

theorem info_bool' : (Try.prog.info? 4).map (fun i => (i.zero, i.size, i.bytes)) = some (some (.bool false), 1, 1) := by kernel_rfl
/-- Behind i rounds. -/
def LS.made (i : Nat) : LS := ⟨(List.range (i - 1)).map (· + 2), List.replicate i 0, List.replicate i false, [], 0, 0, 0⟩
theorem made_free (i : Nat) (h : 1 ≤ i) : frees (LS.made i).free ++ [.int .i64 ((i : Int) + 1)] = frees (LS.made (i + 1)).free := by
  obtain ⟨q, rfl⟩ : ∃ q, i = q + 1 := ⟨i - 1, by omega⟩
  simp only [LS.made, frees, Nat.add_sub_cancel, List.range_succ, List.map_append, List.map_cons, List.map_nil, List.append_cancel_left_eq, List.cons.injEq, and_true]
  congr 1
theorem made_new {N : Nat} (h : 1 ≤ N) : LS.new N = { LS.made N with gen := (LS.made N).gen.set 0 1, live := (LS.made N).live.set 0 true } := by
  obtain ⟨q, rfl⟩ : ∃ q, N = q + 1 := ⟨N - 1, by omega⟩
  simp [LS.new, LS.made, List.replicate_succ]
theorem made_g0 {i : Nat} (h : 1 ≤ i) : (i64s (LS.made i).gen)[0]? = some (.int .i64 0) := by
  obtain ⟨q, rfl⟩ : ∃ q, i = q + 1 := ⟨i - 1, by omega⟩
  simp [LS.made, i64s, List.replicate_succ]
theorem made_l0 {i : Nat} (h : 1 ≤ i) : ((LS.made i).live.map Value.bool)[0]? = some (.bool false) := by
  obtain ⟨q, rfl⟩ : ∃ q, i = q + 1 := ⟨i - 1, by omega⟩
  simp [LS.made, List.replicate_succ]
def RefNew (w : World) (N : Nat) (X : List Nat) (e : Ending) (w' : World) : Prop := ∃ rb, e = .returned (.pointer (some ⟨rb, 0, none⟩)) ∧ Ref19 w' w.heap.size rb (LS.new N) X ∧ Off w.heap.size X w w'
theorem capL_eq {n : Int} {N : Nat} (h : capL n = N) : (N : Int) = if n < 1 then 1 else if 1000 < n then 1000 else n := by
  unfold capL at h
  split at h
  · simp_all; omega
  · split at h <;> simp_all <;> omega
set_option maxRecDepth 100000 in
set_option maxHeartbeats 4000000 in
theorem ref19_new (n : Int) (X : List Nat) (w : World) (hX : ∀ b ∈ X, b < w.heap.size) :
    Calls Try.prog 43 #[.int .i64 n] w (RefNew w (capL n) X) := by
  have HX0 := Lib.hid hX
  obtain ⟨N, hN⟩ : ∃ N, capL n = N := ⟨_, rfl⟩
  have hNb := capL_lo n
  rw [hN] at hNb ⊢
  have HN := Lib.hid (capL_eq hN)
  have HB := Lib.hid (Below.refl w.heap.size w)
  clear hX hN
  go_enter Try.func43, Try.ntmps43
  replace HB := Lib.hid (below_thru HB.out (below_alloc0 w (.cells #[.slice none 0 0, .slice none 0 0, .slice none 0 0, .slice none 0 0, .int .i64 0, .int .i64 0, .int .i64 0] 104)))
  have HRB := Lib.hid (Blk.new w 104 #[.slice none 0 0, .slice none 0 0, .slice none 0 0, .slice none 0 0, .int .i64 0, .int .i64 0, .int .i64 0])
  go_upto_region 2 with fail
  have HZ := Lib.hid (World.size_alloc w (.cells #[.slice none 0 0, .slice none 0 0, .slice none 0 0, .slice none 0 0, .int .i64 0, .int .i64 0, .int .i64 0] 104))
  obtain ⟨rb, hrb⟩ : ∃ x, w.heap.size = x := ⟨_, rfl⟩
  simp only [hrb] at HRB HZ ⊢
  replace hrb := Lib.hid hrb
  generalize w.alloc (.cells #[.slice none 0 0, .slice none 0 0, .slice none 0 0, .slice none 0 0, .int .i64 0, .int .i64 0, .int .i64 0] 104) = w1 at *
  have HG0 := Lib.hid (show Ref19 w1 w.heap.size rb (LS.made 0) X from ⟨none, 0, none, 0, none, 0, none, 0, HRB.out, by
    intro r hr
    simp [refRows] at hr
    rcases hr with rfl | rfl | rfl | rfl <;> exact World.ownsRow_nil _ _ _ _, by
    intro k l r q hr hq hkl b hb
    have hr2 := List.mem_of_getElem? hr
    simp [refRows] at hr2
    rcases hr2 with rfl | rfl | rfl | rfl <;> simp [blockOf] at hb, by
    intro r hr b hb
    simp [refRows] at hr
    rcases hr with rfl | rfl | rfl | rfl <;> simp [blockOf] at hb, fun hin => by have := HX0.out _ hin; have := hrb.out; omega, by
    intro r hr
    simp [refRows] at hr
    rcases hr with rfl | rfl | rfl | rfl <;> decide, by have := hrb.out; omega⟩)
  have HO0 := Lib.hid (show Off w.heap.size X w w1 from Off.of_below HB.out)
  clear HB HRB HZ hrb
  go_cut [0] (fun v wc => v = .int .i64 (N : Int) ∧ w1 = wc)
  case first =>
    go_wp2
    all_goals go_meet
    all_goals exact ⟨congrArg (Value.int .i64) (by have := HN.out; simp_all <;> omega), rfl⟩
  case rest =>
    obtain ⟨rfl, rfl⟩ := hcut
    clear HN
    go_wp2_with fail
    go_loopw [4] (fun v wr => ∃ i : Nat, i ≤ N ∧ v = .int .i64 ((i : Int) + 1) ∧ Ref19 wr w.heap.size rb (LS.made i) X ∧ Off w.heap.size X w wr) (fun v _ => N + 1 - (intOf v).toNat)
    case atStart => exact ⟨0, by omega, rfl, HG0.out, HO0.out⟩
    case round =>
      clear HG0 HO0
      obtain ⟨i, hi, rfl, ⟨A1, c1, A2, c2, A3, c3, A4, c4, hg⟩, ho⟩ := hrel
      have HG := Lib.hid hg
      have HO := Lib.hid ho
      have l1 : (LS.made i).gen.length ≤ i := by simp [LS.made]
      have l2 : (LS.made i).live.length ≤ i := by simp [LS.made]
      have l3 : (LS.made i).free.length ≤ i := by simp [LS.made]
      clear hg ho
      by_cases hlt : i < N
      · have v1f := HG.out.field (k := 1) rfl
        simp only [FRow.val] at v1f
        have HOWN := Lib.hid (HG.out.own ⟨2, 1, A2, c2, (LS.made i).gen.length, (i64s (LS.made i).gen)⟩ (by simp [refRows]))
        obtain ⟨i0, hi0, hz0, hz1, hz2⟩ := info_parts info_i64
        have HLOW := Lib.hid (show w.heap.size ≤ wr.heap.size from Nat.le_trans HG.out.lo (Nat.le_of_lt HG.out.blk.lt))
        go_upto_region 7 with (at_builtin; refine wpList_append_lies (P := Try.prog) _ rfl (.tmp 19) (.tmp 20) 31 rfl w.heap.size 2 i0 _ 1 8 (by kernel_rfl) hi0 hz0 hz1 hz2 rfl (by decide) (.slice A2 (LS.made i).gen.length c2) (LS.made i).gen.length (i64s (LS.made i).gen) rfl (HOWN.out.alloc _) ⟨wr.heap.size, 0, none⟩ 1 1 [(.int .i64 0)] rfl rfl (World.news_of_block (cs := #[(.int .i64 0)]) (t := 2) (fr := (0, 0)) (heap_alloc_new wr _)) (by simp [Value.oneCell']) (by omega) (by unfold maxLen; omega) (by omega) (by simp; have := HLOW.out; omega) (wr.heap.size + 1) (by simp) ?_; intro g1 cap1 w4 hown hgrow hat hlt'; obtain ⟨hg5, ho5, c8, f8⟩ := HG.out.append (k := 1) (m := 1) (r := ⟨2, 1, A2, c2, (LS.made i).gen.length, (i64s (LS.made i).gen)⟩) rfl hown hgrow hat (fun b hb => Nat.lt_of_lt_of_le (HX0.out b hb) HO.out.size); simp only [FRow.val] at c8)
        have HG2 := Lib.hid hg5
        have HO2 := Lib.hid (HO.out.trans ho5)
        clear hg5 ho5 c8 f8 hown hgrow hat hlt' HOWN HLOW v1f HG HO i0 hi0 hz0 hz1 hz2
        generalize w4.setCell ⟨rb, 1, none⟩ (.slice (some ⟨g1, 0, none⟩) ((LS.made i).gen.length + 1) cap1) = v1 at *
        have HG := HG2
        have HO := HO2
        clear HG2 HO2
        have v2f := HG.out.field (k := 2) rfl
        simp only [FRow.val] at v2f
        have HOWN := Lib.hid (HG.out.own ⟨4, 1, A3, c3, (LS.made i).live.length, ((LS.made i).live.map Value.bool)⟩ (by simp [refRows]))
        obtain ⟨i0, hi0, hz0, hz1, hz2⟩ := info_parts info_bool'
        have HLOW := Lib.hid (show w.heap.size ≤ v1.heap.size from Nat.le_trans HG.out.lo (Nat.le_of_lt HG.out.blk.lt))
        go_upto_region 8 with (at_builtin; refine wpList_append_lies (P := Try.prog) _ rfl (.tmp 28) (.tmp 29) 101 rfl w.heap.size 4 i0 _ 1 1 (by kernel_rfl) hi0 hz0 hz1 hz2 rfl (by decide) (.slice A3 (LS.made i).live.length c3) (LS.made i).live.length ((LS.made i).live.map Value.bool) rfl (HOWN.out.alloc _) ⟨v1.heap.size, 0, none⟩ 1 1 [(.bool false)] rfl rfl (World.news_of_block (cs := #[(.bool false)]) (t := 4) (fr := (0, 0)) (heap_alloc_new v1 _)) (by simp [Value.oneCell']) (by omega) (by unfold maxLen; omega) (by omega) (by simp; have := HLOW.out; omega) (v1.heap.size + 1) (by simp) ?_; intro g2 cap2 w4 hown hgrow hat hlt'; obtain ⟨hg5, ho5, c8, f8⟩ := HG.out.append (k := 2) (m := 1) (r := ⟨4, 1, A3, c3, (LS.made i).live.length, ((LS.made i).live.map Value.bool)⟩) rfl hown hgrow hat (fun b hb => Nat.lt_of_lt_of_le (HX0.out b hb) HO.out.size); simp only [FRow.val] at c8)
        have HG2 := Lib.hid hg5
        have HO2 := Lib.hid (HO.out.trans ho5)
        clear hg5 ho5 c8 f8 hown hgrow hat hlt' HOWN HLOW v2f HG HO i0 hi0 hz0 hz1 hz2
        generalize w4.setCell ⟨rb, 2, none⟩ (.slice (some ⟨g2, 0, none⟩) ((LS.made i).live.length + 1) cap2) = v2 at *
        have HG := HG2
        have HO := HO2
        clear HG2 HO2
        by_cases h1 : 1 ≤ i
        · have h1i : (1 : Int) < (i : Int) + 1 := by omega
          go_upto_region 9 with fail
          have v3f := HG.out.field (k := 0) rfl
          simp only [FRow.val] at v3f
          have HOWN := Lib.hid (HG.out.own ⟨3, 1, A1, c1, (LS.made i).free.length, (frees (LS.made i).free)⟩ (by simp [refRows]))
          obtain ⟨i0, hi0, hz0, hz1, hz2⟩ := info_parts info_int
          have HLOW := Lib.hid (show w.heap.size ≤ v2.heap.size from Nat.le_trans HG.out.lo (Nat.le_of_lt HG.out.blk.lt))
          go_upto_region 5 with (at_builtin; refine wpList_append_lies (P := Try.prog) _ rfl (.tmp 39) (.tmp 41) 100 rfl w.heap.size 3 i0 _ 1 8 (by kernel_rfl) hi0 hz0 hz1 hz2 rfl (by decide) (.slice A1 (LS.made i).free.length c1) (LS.made i).free.length (frees (LS.made i).free) rfl (HOWN.out.alloc _) ⟨v2.heap.size, 0, none⟩ 1 1 [(.int .i64 ((i : Int) + 1))] rfl rfl (World.news_of_block (cs := #[(.int .i64 ((i : Int) + 1))]) (t := 3) (fr := (0, 0)) (heap_alloc_new v2 _)) (by simp [Value.oneCell']) (by omega) (by unfold maxLen; omega) (by omega) (by simp; have := HLOW.out; omega) (v2.heap.size + 1) (by simp) ?_; intro g0 cap0 w4 hown hgrow hat hlt'; obtain ⟨hg5, ho5, c8, f8⟩ := HG.out.append (k := 0) (m := 1) (r := ⟨3, 1, A1, c1, (LS.made i).free.length, (frees (LS.made i).free)⟩) rfl hown hgrow hat (fun b hb => Nat.lt_of_lt_of_le (HX0.out b hb) HO.out.size); simp only [FRow.val] at c8)
          have HG2 := Lib.hid hg5
          have HO2 := Lib.hid (HO.out.trans ho5)
          clear hg5 ho5 c8 f8 hown hgrow hat hlt' HOWN HLOW v3f HG HO i0 hi0 hz0 hz1 hz2
          generalize w4.setCell ⟨rb, 0, none⟩ (.slice (some ⟨g0, 0, none⟩) ((LS.made i).free.length + 1) cap0) = v3 at *
          have HG := HG2
          have HO := HO2
          clear HG2 HO2
          have HREL := Lib.hid (show Ref19 v3 w.heap.size rb (LS.made (i + 1)) X from by
            refine ⟨some ⟨g0, 0, none⟩, cap0, some ⟨g1, 0, none⟩, cap1, some ⟨g2, 0, none⟩, cap2, A4, c4, ?_⟩
            have := HG.out
            rw [made_free i h1] at this
            unfold refRows at this ⊢
            simp only [List.set_cons_zero, List.set_cons_succ] at this
            simpa [LS.made, i64s, List.replicate_succ', show i - 1 + 1 = i by omega] using this)
          go_wp2
          go_roundw
          case rel => exact ⟨i + 1, by omega, by go_num, HREL.out, HO.out⟩
          case measure => simp [intOf]; omega
        · have h1i : ¬ (1 : Int) < (i : Int) + 1 := by omega
          have HREL := Lib.hid (show Ref19 v2 w.heap.size rb (LS.made (i + 1)) X from by
            refine ⟨A1, c1, some ⟨g1, 0, none⟩, cap1, some ⟨g2, 0, none⟩, cap2, A4, c4, ?_⟩
            have := HG.out
            obtain rfl : i = 0 := by omega
            unfold refRows at this ⊢
            simp only [List.set_cons_zero, List.set_cons_succ] at this
            simpa [LS.made, i64s] using this)
          go_wp2
          go_roundw
          case rel => exact ⟨i + 1, by omega, by go_num, HREL.out, HO.out⟩
          case measure => simp [intOf]; omega
      · obtain rfl : i = N := by omega
        have f1 := HG.out.field (k := 1) rfl
        obtain ⟨g1, rfl, e1, z1⟩ := HG.out.elem (k := 1) (r := ⟨2, 1, A2, c2, (LS.made i).gen.length, i64s (LS.made i).gen⟩) rfl (j := 0) (u := .int .i64 0) (made_g0 hNb.1)
        have hl1 : (0 : Int) < (LS.made i).gen.length := by simp [LS.made]; omega
        have hl2 : (0 : Int) < (LS.made i).live.length := by simp [LS.made]; omega
        simp only [FRow.val] at f1
        obtain ⟨hg6, ho6⟩ := HG.out.putCell (k := 1) (r := ⟨2, 1, some ⟨g1, 0, none⟩, c2, (LS.made i).gen.length, i64s (LS.made i).gen⟩) rfl (j := 0) (u := .int .i64 0) (v := .int .i64 1) (made_g0 hNb.1) rfl
        go_upto_region 11 with fail
        have HG6 := Lib.hid hg6
        have HO6 := Lib.hid (HO.out.trans ho6)
        clear hg6 ho6 HG HO f1 e1 z1
        generalize wr.setCell ⟨g1, 0, none⟩ (.int .i64 1) = w6 at *
        have f2 := HG6.out.field (k := 2) rfl
        obtain ⟨g3, rfl, e3, z3⟩ := HG6.out.elem (k := 2) (r := ⟨4, 1, A3, c3, (LS.made i).live.length, (LS.made i).live.map Value.bool⟩) rfl (j := 0) (u := .bool false) (made_l0 hNb.1)
        simp only [FRow.val] at f2
        obtain ⟨hg7, ho7⟩ := HG6.out.putCell (k := 2) (r := ⟨4, 1, some ⟨g3, 0, none⟩, c3, (LS.made i).live.length, (LS.made i).live.map Value.bool⟩) rfl (j := 0) (u := .bool false) (v := .bool true) (made_l0 hNb.1) rfl
        have HR := Lib.hid (show RefNew w i X (.returned (.pointer (some ⟨rb, 0, none⟩))) (w6.setCell ⟨g3, 0, none⟩ (.bool true)) from by
          refine ⟨rb, rfl, ⟨A1, c1, some ⟨g1, 0, none⟩, c2, some ⟨g3, 0, none⟩, c3, A4, c4, ?_⟩, HO6.out.trans ho7⟩
          rw [made_new hNb.1]
          have := hg7
          unfold refRows at this ⊢
          simp only [List.set_cons_zero, List.set_cons_succ] at this
          simpa [i64s, List.map_set] using this)
        clear hg7 ho7 HG6 HO6
        go_wp2
        go_ret
        exact HR.out
end Go.Proofs.Ytldccemgfjmcdaa
