/- Layer 15: areas packed and unpacked, walked. -/
import Derived.Test.YtldccemgfjmcdaaArea2
import Derived.StillTailTactics
namespace Go.Proofs.Ytldccemgfjmcdaa
open Go.RowKit
set_option linter.unusedSimpArgs false
set_option linter.unusedVariables false

theorem slot_number (b : Bool) (w : World) : Calls Try.prog 108 #[.bool b] w fun e w' => e = .returned (.int .i64 (numB b)) ∧ w' = w := by
  cases b
  · go_enter Try.func108, Try.ntmps108
    go_wp2
    go_ret
    exact ⟨rfl, rfl⟩
  · go_enter Try.func108, Try.ntmps108
    go_wp2
    go_ret
    exact ⟨rfl, rfl⟩
set_option maxRecDepth 100000 in
theorem ref15_area (a : AreaV) (w : World) (ok : a.Ok) : Calls Try.prog 65 #[.agg (areaCells a)] w fun e w' => e = .returned (.bool a.formedB) ∧ Below w.heap.size w w' := by
  have HB := Lib.hid ((Below.refl w.heap.size w).alloc (Nat.le_refl _) (.cells (areaCells a) 57))
  have HN := Lib.hid (Blk.new w 57 (areaCells a))
  have HC := Lib.hid (ref06_formed a (w.alloc (.cells (areaCells a) 57)) ok)
  obtain ⟨R, hR⟩ : ∃ R, a.formedB = R := ⟨_, rfl⟩
  rw [hR] at HC ⊢
  clear hR ok
  obtain ⟨start, stop, prot, shared, back, off⟩ := a
  simp only [areaCells] at *
  have t0 := (HN.out).at_ (i := 0) rfl
  have t1 := (HN.out).at_ (i := 1) rfl
  have t2 := (HN.out).at_ (i := 2) rfl
  have t3 := (HN.out).at_ (i := 3) rfl
  have t4 := (HN.out).at_ (i := 4) rfl
  have t5 := (HN.out).at_ (i := 5) rfl
  simp only [List.getElem_toArray, List.getElem_cons_succ, List.getElem_cons_zero] at t0 t1 t2 t3 t4 t5
  go_enter Try.func65, Try.ntmps65
  go_upto_region 1 with fail
  go_wp2_with fail
  refine HC.out.mono ?_
  rintro e w2 ⟨rfl, hb2⟩
  have HB2 := Lib.hid (below_then HB.out hb2 (Nat.le_refl _))
  clear hb2
  go_wp2
  go_ret
  exact ⟨rfl, HB2.out⟩
theorem AreaV.pack_i64 {a : AreaV} (h : a.formedB = true) (dead : Bool) : ∀ x ∈ a.pack dead, (Lit.int .i64 x).wf = true := fun x hx => wf_of_bounds (a.pack_wf h dead x hx)
def PackAPost (w : World) (a : AreaV) (dead : Bool) (e : Ending) (w' : World) : Prop := Below w.heap.size w w' ∧
  ((a.formedB = false ∧ e = .returned (.slice none 0 0)) ∨ (a.formedB = true ∧ ∃ g cap, e = .returned (.slice (some ⟨g, 0, none⟩) 28 cap) ∧ w.heap.size ≤ g ∧ Row w' 2 1 g 28 cap (i64s (a.pack dead))))
set_option maxRecDepth 100000 in
set_option maxHeartbeats 1000000 in
theorem slot_packArea (a : AreaV) (dead : Bool) (w : World) (ok : a.Ok) : Calls Try.prog 105 #[.agg (areaCells a), .bool dead] w (PackAPost w a dead) := by
  have HB := Lib.hid ((Below.refl w.heap.size w).alloc (Nat.le_refl _) (.cells (areaCells a) 57))
  have HN := Lib.hid (Blk.new w 57 (areaCells a))
  have HC := Lib.hid (area_formed a (w.alloc (.cells (areaCells a) 57)) ok)
  have HF := Lib.hid (show a.pack dead = [3, numB dead, a.start, a.stop, a.prot, numB a.shared, a.back, a.off] ++ zeros 20 from rfl)
  cases hf : a.formedB with
  | false =>
    have HFF := Lib.hid hf
    rw [hf] at HC
    clear hf ok HF
    obtain ⟨start, stop, prot, shared, back, off⟩ := a
    simp only [areaCells] at *
    have t0 := (HN.out).at_ (i := 0) rfl
    have t1 := (HN.out).at_ (i := 1) rfl
    have t2 := (HN.out).at_ (i := 2) rfl
    have t3 := (HN.out).at_ (i := 3) rfl
    have t4 := (HN.out).at_ (i := 4) rfl
    have t5 := (HN.out).at_ (i := 5) rfl
    simp only [List.getElem_toArray, List.getElem_cons_succ, List.getElem_cons_zero] at t0 t1 t2 t3 t4 t5
    go_enter Try.func105, Try.ntmps105
    go_upto_region 1 with fail
    go_wp2_with fail
    refine HC.out.mono ?_
    rintro e w2 ⟨rfl, hb2⟩
    have HB2 := Lib.hid (below_then HB.out hb2 (Nat.le_refl _))
    clear hb2
    go_wp2
    go_ret
    exact ⟨HB2.out, .inl ⟨HFF.out, rfl⟩⟩
  | true =>
    have HFF := Lib.hid hf
    rw [hf] at HC
    clear hf ok
    obtain ⟨start, stop, prot, shared, back, off⟩ := a
    simp only [areaCells] at *
    have t0 := (HN.out).at_ (i := 0) rfl
    have t1 := (HN.out).at_ (i := 1) rfl
    have t2 := (HN.out).at_ (i := 2) rfl
    have t3 := (HN.out).at_ (i := 3) rfl
    have t4 := (HN.out).at_ (i := 4) rfl
    have t5 := (HN.out).at_ (i := 5) rfl
    simp only [List.getElem_toArray, List.getElem_cons_succ, List.getElem_cons_zero] at t0 t1 t2 t3 t4 t5
    go_enter Try.func105, Try.ntmps105
    go_upto_region 1 with fail
    go_wp2_with fail
    refine HC.out.mono ?_
    rintro e w2 ⟨rfl, hb2⟩
    have HB2 := Lib.hid (below_then HB.out hb2 (Nat.le_refl _))
    have HN2 := Lib.hid (HN.out.below hb2 HN.out.lt)
    clear t0 t1 t2 t3 t4 t5
    have t0 := (HN2.out).at_ (i := 0) rfl
    have t1 := (HN2.out).at_ (i := 1) rfl
    have t2 := (HN2.out).at_ (i := 2) rfl
    have t3 := (HN2.out).at_ (i := 3) rfl
    have t4 := (HN2.out).at_ (i := 4) rfl
    have t5 := (HN2.out).at_ (i := 5) rfl
    simp only [List.getElem_toArray, List.getElem_cons_succ, List.getElem_cons_zero] at t0 t1 t2 t3 t4 t5
    clear hb2
    go_upto_region 3 with fail
    refine wp_region_still_tail 15 (by kernel_rfl) (by kernel_rfl) ?_
    simp only [List.take_succ_cons, List.take_zero, List.drop_succ_cons, List.drop_zero]
    repeat (first | still_call (slot_number _ _) | still_step)
    try refine wpStill_nil ?_
    change wpList _ _ _ _ _ w2.drew
    have HB3 := Lib.hid (below_drewN HB2.out 1)
    change Hid (Below w.heap.size w w2.drew) at HB3
    clear t0 t1 t2 t3 t4 t5
    clear HN2 HN HC
    generalize w2.drew = w3 at *
    have hsz : w.heap.size ≤ w3.heap.size := HB3.out.size
    have hown := (Row.made (Blk.new w3 2 #[.int .i64 3, .int .i64 (numB dead), .int .i64 start, .int .i64 stop, .int .i64 prot, .int .i64 (numB shared), .int .i64 back, .int .i64 off]) (by unfold maxLen; simp)).toOwn hsz
    have HFI := Lib.hid (slot_filled w.heap.size w3.heap.size 8 8 20 28 [3, numB dead, start, stop, prot, numB shared, back, off] _ hown rfl (by omega) (by simp; omega))
    have HB4 := Lib.hid (HB3.out.alloc hsz (.cells #[.int .i64 3, .int .i64 (numB dead), .int .i64 start, .int .i64 stop, .int .i64 prot, .int .i64 (numB shared), .int .i64 back, .int .i64 off] 2))
    clear hown
    go_wp2_with fail
    refine HFI.out.mono ?_
    rintro e w5 ⟨g, cg, rfl, hown, hgrow, hat⟩
    have HB5 := Lib.hid (grown_below HB4.out hgrow (by simp; omega) hsz)
    have hgl : w.heap.size ≤ g := by
      rcases hat with h | h
      · omega
      · simp at h; omega
    obtain ⟨hr, -⟩ := Rows'.ofOwn hown
    rcases hr with ⟨h0, _⟩ | ⟨g', cap', h0, hrow⟩
    · cases h0
    injection h0 with q1 q2 q3
    injection q1 with q1
    injection q1 with q1
    subst q1 q3
    rw [← HF.out] at hrow
    have HRR := Lib.hid hrow
    clear hown hgrow hat hrow
    go_wp2
    go_ret
    exact ⟨HB5.out, .inr ⟨HFF.out, g, cg, rfl, hgl, HRR.out⟩⟩
end Go.Proofs.Ytldccemgfjmcdaa
