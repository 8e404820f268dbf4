/- The reference's PackArea, walked. -/
import Derived.Test.YtldccemgfjmcdaaArea3
namespace Go.Proofs.Ytldccemgfjmcdaa
open Go.RowKit
set_option linter.unusedSimpArgs false
set_option linter.unusedVariables false

theorem row28 {w : World} {rb : Nat} {xs : List Int} (h : Blk w rb 2 (nums .i64 xs)) (hl : xs.length = 28) : Row w 2 1 rb 28 28 (i64s xs) := by
  have hsz : (nums .i64 xs).size = 28 := by rw [nums_size, hl]
  have := Row.made h (by rw [hsz]; unfold maxLen; omega)
  rw [hsz] at this
  simpa [nums, i64s] using this
set_option maxRecDepth 100000 in
set_option maxHeartbeats 2000000 in
theorem ref15_packArea (a : AreaV) (dead : Bool) (w : World) (ok : a.Ok) :
    Calls Try.prog 63 #[.agg (areaCells a), .bool dead] w fun e w' =>
      ∃ g, e = .returned (.slice (some ⟨g, 0, none⟩) 28 28) ∧ w.heap.size ≤ g ∧ Row w' 2 1 g 28 28 (i64s (a.pack dead)) ∧ Below w.heap.size w w' := by
  have hmk : ∀ w, (Instr.makeSlice 31 (.int .i64 28) (.int .i64 28)).run Try.prog w = .ok (.slice (some ⟨w.heap.size, 0, none⟩) 28 28) (w.alloc (.cells (madeCells #[.int .i64 0] 28) 2)) :=
    run_make_row' (P := Try.prog) 31 2 (.int .i64 0) 8 Try.underlying31 info_i64 rfl .i64 .i64 28 (by omega) (by omega)
  have hz28 : madeCells #[.int .i64 0] 28 = nums .i64 (zeros 28) := nums_zeros .i64 28
  rw [hz28] at hmk
  obtain ⟨Z, hZ⟩ : ∃ Z, nums .i64 (zeros 28) = Z := ⟨_, rfl⟩
  rw [hZ] at hmk
  have HZ := Lib.hid hZ
  obtain ⟨start, stop, prot, shared, back, off⟩ := a
  have hb : ∀ o : Obj, Below w.heap.size w (w.alloc o) := fun o => (Below.refl _ _).alloc (Nat.le_refl _) _
  unfold areaCells
  clear hz28 hZ ok
  have hB0 := (Blk.new w 57 #[.int .i64 start, .int .i64 stop, .int .i64 prot, .bool shared, .int .i64 back, .int .i64 off]).alloc (.cells Z 2)
  have hR0 := Blk.new (w.alloc (.cells #[.int .i64 start, .int .i64 stop, .int .i64 prot, .bool shared, .int .i64 back, .int .i64 off] 57)) 2 Z
  have hw0 := (hb (.cells #[.int .i64 start, .int .i64 stop, .int .i64 prot, .bool shared, .int .i64 back, .int .i64 off] 57)).alloc (by simp) (.cells Z 2)
  simp only [World.size_alloc] at hR0
  go_enter Try.func63, Try.ntmps63
  go_upto_region 2 with fail
  generalize (w.alloc (.cells #[.int .i64 start, .int .i64 stop, .int .i64 prot, .bool shared, .int .i64 back, .int .i64 off] 57)).alloc (.cells Z 2) = w1 at *
  obtain ⟨nb, hnb⟩ : ∃ nb, w.heap.size = nb := ⟨_, rfl⟩
  rw [hnb] at hB0 hR0 hw0 ⊢
  have HNB := Lib.hid hnb
  have hrb : nb ≠ nb + 1 := by omega
  clear hnb
  generalize hrbe : nb + 1 = rb at *
  have hnr : nb ≤ rb := by omega
  clear hrbe hb
  rw [← HZ.out] at hR0
  have t0 := (hB0).at_ (i := 0) rfl
  have t1 := (hB0).at_ (i := 1) rfl
  have t2 := (hB0).at_ (i := 2) rfl
  have t3 := (hB0).at_ (i := 3) rfl
  have t4 := (hB0).at_ (i := 4) rfl
  have t5 := (hB0).at_ (i := 5) rfl
  simp only [List.getElem_toArray, List.getElem_cons_succ, List.getElem_cons_zero] at t0 t1 t2 t3 t4 t5
  have r0 := hR0.at_ (i := 0) (v := .int .i64 0) rfl
  have f0 := hR0.free 0
  have r1 := hR0.at_ (i := 1) (v := .int .i64 0) rfl
  have f1 := hR0.free 1
  have r2 := hR0.at_ (i := 2) (v := .int .i64 0) rfl
  have f2 := hR0.free 2
  have r3 := hR0.at_ (i := 3) (v := .int .i64 0) rfl
  have f3 := hR0.free 3
  have r4 := hR0.at_ (i := 4) (v := .int .i64 0) rfl
  have f4 := hR0.free 4
  have r5 := hR0.at_ (i := 5) (v := .int .i64 0) rfl
  have f5 := hR0.free 5
  have r6 := hR0.at_ (i := 6) (v := .int .i64 0) rfl
  have f6 := hR0.free 6
  have r7 := hR0.at_ (i := 7) (v := .int .i64 0) rfl
  have f7 := hR0.free 7
  cases dead
  · cases shared
    · have hfin := (((((hR0.put 0 (.int .i64 3)).put 2 (.int .i64 start)).put 3 (.int .i64 stop)).put 4 (.int .i64 prot)).put 6 (.int .i64 back)).put 7 (.int .i64 off)
      have HW := Lib.hid ((((((hw0.setCell (p := ⟨rb, 0, none⟩) hnr (.int .i64 3)).setCell (p := ⟨rb, 2, none⟩) hnr (.int .i64 start)).setCell (p := ⟨rb, 3, none⟩) hnr (.int .i64 stop)).setCell (p := ⟨rb, 4, none⟩) hnr (.int .i64 prot)).setCell (p := ⟨rb, 6, none⟩) hnr (.int .i64 back)).setCell (p := ⟨rb, 7, none⟩) hnr (.int .i64 off))
      rw [show (((((((nums .i64 (zeros 28)).setIfInBounds 0 (.int .i64 3)).setIfInBounds 2 (.int .i64 start)).setIfInBounds 3 (.int .i64 stop)).setIfInBounds 4 (.int .i64 prot)).setIfInBounds 6 (.int .i64 back)).setIfInBounds 7 (.int .i64 off)) = nums .i64 (AreaV.pack ⟨start, stop, prot, false, back, off⟩ false) from rfl] at hfin
      have HFN := Lib.hid hfin
      clear hfin hR0 hw0 hB0
      go_wp2
      go_ret
      exact ⟨rb, rfl, by rw [HNB.out]; exact hnr, row28 HFN.out (AreaV.pack_len _ _), by rw [HNB.out]; exact HW.out⟩
    · have hfin := ((((((hR0.put 0 (.int .i64 3)).put 2 (.int .i64 start)).put 3 (.int .i64 stop)).put 4 (.int .i64 prot)).put 5 (.int .i64 1)).put 6 (.int .i64 back)).put 7 (.int .i64 off)
      have HW := Lib.hid (((((((hw0.setCell (p := ⟨rb, 0, none⟩) hnr (.int .i64 3)).setCell (p := ⟨rb, 2, none⟩) hnr (.int .i64 start)).setCell (p := ⟨rb, 3, none⟩) hnr (.int .i64 stop)).setCell (p := ⟨rb, 4, none⟩) hnr (.int .i64 prot)).setCell (p := ⟨rb, 5, none⟩) hnr (.int .i64 1)).setCell (p := ⟨rb, 6, none⟩) hnr (.int .i64 back)).setCell (p := ⟨rb, 7, none⟩) hnr (.int .i64 off))
      rw [show ((((((((nums .i64 (zeros 28)).setIfInBounds 0 (.int .i64 3)).setIfInBounds 2 (.int .i64 start)).setIfInBounds 3 (.int .i64 stop)).setIfInBounds 4 (.int .i64 prot)).setIfInBounds 5 (.int .i64 1)).setIfInBounds 6 (.int .i64 back)).setIfInBounds 7 (.int .i64 off)) = nums .i64 (AreaV.pack ⟨start, stop, prot, true, back, off⟩ false) from rfl] at hfin
      have HFN := Lib.hid hfin
      clear hfin hR0 hw0 hB0
      go_wp2
      go_ret
      exact ⟨rb, rfl, by rw [HNB.out]; exact hnr, row28 HFN.out (AreaV.pack_len _ _), by rw [HNB.out]; exact HW.out⟩
  · cases shared
    · have hfin := ((((((hR0.put 0 (.int .i64 3)).put 1 (.int .i64 1)).put 2 (.int .i64 start)).put 3 (.int .i64 stop)).put 4 (.int .i64 prot)).put 6 (.int .i64 back)).put 7 (.int .i64 off)
      have HW := Lib.hid (((((((hw0.setCell (p := ⟨rb, 0, none⟩) hnr (.int .i64 3)).setCell (p := ⟨rb, 1, none⟩) hnr (.int .i64 1)).setCell (p := ⟨rb, 2, none⟩) hnr (.int .i64 start)).setCell (p := ⟨rb, 3, none⟩) hnr (.int .i64 stop)).setCell (p := ⟨rb, 4, none⟩) hnr (.int .i64 prot)).setCell (p := ⟨rb, 6, none⟩) hnr (.int .i64 back)).setCell (p := ⟨rb, 7, none⟩) hnr (.int .i64 off))
      rw [show ((((((((nums .i64 (zeros 28)).setIfInBounds 0 (.int .i64 3)).setIfInBounds 1 (.int .i64 1)).setIfInBounds 2 (.int .i64 start)).setIfInBounds 3 (.int .i64 stop)).setIfInBounds 4 (.int .i64 prot)).setIfInBounds 6 (.int .i64 back)).setIfInBounds 7 (.int .i64 off)) = nums .i64 (AreaV.pack ⟨start, stop, prot, false, back, off⟩ true) from rfl] at hfin
      have HFN := Lib.hid hfin
      clear hfin hR0 hw0 hB0
      go_wp2
      go_ret
      exact ⟨rb, rfl, by rw [HNB.out]; exact hnr, row28 HFN.out (AreaV.pack_len _ _), by rw [HNB.out]; exact HW.out⟩
    · have hfin := (((((((hR0.put 0 (.int .i64 3)).put 1 (.int .i64 1)).put 2 (.int .i64 start)).put 3 (.int .i64 stop)).put 4 (.int .i64 prot)).put 5 (.int .i64 1)).put 6 (.int .i64 back)).put 7 (.int .i64 off)
      have HW := Lib.hid ((((((((hw0.setCell (p := ⟨rb, 0, none⟩) hnr (.int .i64 3)).setCell (p := ⟨rb, 1, none⟩) hnr (.int .i64 1)).setCell (p := ⟨rb, 2, none⟩) hnr (.int .i64 start)).setCell (p := ⟨rb, 3, none⟩) hnr (.int .i64 stop)).setCell (p := ⟨rb, 4, none⟩) hnr (.int .i64 prot)).setCell (p := ⟨rb, 5, none⟩) hnr (.int .i64 1)).setCell (p := ⟨rb, 6, none⟩) hnr (.int .i64 back)).setCell (p := ⟨rb, 7, none⟩) hnr (.int .i64 off))
      rw [show (((((((((nums .i64 (zeros 28)).setIfInBounds 0 (.int .i64 3)).setIfInBounds 1 (.int .i64 1)).setIfInBounds 2 (.int .i64 start)).setIfInBounds 3 (.int .i64 stop)).setIfInBounds 4 (.int .i64 prot)).setIfInBounds 5 (.int .i64 1)).setIfInBounds 6 (.int .i64 back)).setIfInBounds 7 (.int .i64 off)) = nums .i64 (AreaV.pack ⟨start, stop, prot, true, back, off⟩ true) from rfl] at hfin
      have HFN := Lib.hid hfin
      clear hfin hR0 hw0 hB0
      go_wp2
      go_ret
      exact ⟨rb, rfl, by rw [HNB.out]; exact hnr, row28 HFN.out (AreaV.pack_len _ _), by rw [HNB.out]; exact HW.out⟩
end Go.Proofs.Ytldccemgfjmcdaa
