/- Layer 4's board, walked. -/
import Derived.Test.YtcphidmfdakbeaaTried
namespace Go.Proofs.Ytcphidmfdakbeaa
open Go.RowKit

theorem RM.look (e cnt : Int) (b : List Int) (hb : b.length = 16) : (RM e b cnt).look 3 17 = e :: b := by
  unfold MemS.look RM
  rw [show (3 : Int).toNat = 3 from rfl, show (17 : Int).toNat = 17 from rfl]
  simp only [List.drop_succ_cons, List.drop_zero, List.take_succ_cons]
  rw [List.take_append_of_le_length (by omega), List.take_of_length_le (by omega)]

/-- The first k of a row, and zeros. -/
def filled17 (X : List Int) (k : Nat) : List Int := X.take k ++ List.replicate (17 - k) 0
theorem filled17_zero (X : List Int) : filled17 X 0 = List.replicate 17 0 := rfl
theorem filled17_len (X : List Int) (hX : X.length = 17) (k : Nat) (hk : k ≤ 17) : (filled17 X k).length = 17 := by simp [filled17, hX]; omega
theorem filled17_step (X : List Int) (hX : X.length = 17) (k : Nat) (hk : k < 17) : (filled17 X k).set k (X.getD k 0) = filled17 X (k + 1) := by
  unfold filled17
  rw [List.set_append_right _ _ (by simp; omega)]
  rw [show k - (X.take k).length = 0 by simp; omega, show 17 - k = (16 - k) + 1 by omega, List.replicate_succ, List.set_cons_zero, List.take_add_one, List.append_assoc, show 17 - (k + 1) = 16 - k by omega]
  rw [List.getElem?_eq_getElem (by omega), List.getD_eq_getElem?_getD, List.getElem?_eq_getElem (by omega)]
  rfl
theorem filled17_all (X : List Int) (hX : X.length = 17) : filled17 X 17 = X := by
  unfold filled17
  rw [List.take_of_length_le (by omega)]
  simp

theorem set17 (x0 x1 x2 x3 x4 x5 x6 x7 x8 x9 x10 x11 x12 x13 x14 x15 x16 : Value) : ((((((((((((((((((#[Value.int .i64 0, Value.int .i64 0, Value.int .i64 0, Value.int .i64 0, Value.int .i64 0, Value.int .i64 0, Value.int .i64 0, Value.int .i64 0, Value.int .i64 0, Value.int .i64 0, Value.int .i64 0, Value.int .i64 0, Value.int .i64 0, Value.int .i64 0, Value.int .i64 0, Value.int .i64 0, Value.int .i64 0] : Array Value).setIfInBounds 0 x0).setIfInBounds 1 x1).setIfInBounds 2 x2).setIfInBounds 3 x3).setIfInBounds 4 x4).setIfInBounds 5 x5).setIfInBounds 6 x6).setIfInBounds 7 x7).setIfInBounds 8 x8).setIfInBounds 9 x9).setIfInBounds 10 x10).setIfInBounds 11 x11).setIfInBounds 12 x12).setIfInBounds 13 x13).setIfInBounds 14 x14).setIfInBounds 15 x15).setIfInBounds 16 x16) = #[x0, x1, x2, x3, x4, x5, x6, x7, x8, x9, x10, x11, x12, x13, x14, x15, x16] := by
  apply Array.ext'
  simp only [Array.toList_setIfInBounds]
  rfl

theorem list16 (b : List Int) (h : b.length = 16) : ∃ b0 b1 b2 b3 b4 b5 b6 b7 b8 b9 b10 b11 b12 b13 b14 b15, b = [b0, b1, b2, b3, b4, b5, b6, b7, b8, b9, b10, b11, b12, b13, b14, b15] := by
  match b, h with
  | [b0, b1, b2, b3, b4, b5, b6, b7, b8, b9, b10, b11, b12, b13, b14, b15], _ => exact ⟨_, _, _, _, _, _, _, _, _, _, _, _, _, _, _, _, rfl⟩

theorem board_res (rb : Nat) (e b0 b1 b2 b3 b4 b5 b6 b7 b8 b9 b10 b11 b12 b13 b14 b15 : Int) (x0 x1 x3 x4 x5 x6 x7 x8 x9 x10 x11 x12 x13 x14 x15 x16 x17 x18 x19 x20 x21 x22 x23 x24 x25 x26 x27 x28 : Value) (wf : World) (hRf : Blk wf rb 72 (nums .i64 [e, b0, b1, b2, b3, b4, b5, b6, b7, b8, b9, b10, b11, b12, b13, b14, b15])) :
    (results Try.f38 #[x0, x1, .pointer (some ⟨rb, 0, none⟩), x3, x4, x5, x6, x7, x8, x9, x10, x11, x12, x13, x14, x15, x16, x17, x18, x19, x20, x21, x22, x23, x24, x25, x26, x27, x28]).run Try.prog wf = .ok (.agg (nums .i64 [e, b0, b1, b2, b3, b4, b5, b6, b7, b8, b9, b10, b11, b12, b13, b14, b15])) wf := by
  have g0 := hRf.at_ (i := 0) (v := .int .i64 e) rfl
  have g1 := hRf.at_ (i := 1) (v := .int .i64 b0) rfl
  have g2 := hRf.at_ (i := 2) (v := .int .i64 b1) rfl
  have g3 := hRf.at_ (i := 3) (v := .int .i64 b2) rfl
  have g4 := hRf.at_ (i := 4) (v := .int .i64 b3) rfl
  have g5 := hRf.at_ (i := 5) (v := .int .i64 b4) rfl
  have g6 := hRf.at_ (i := 6) (v := .int .i64 b5) rfl
  have g7 := hRf.at_ (i := 7) (v := .int .i64 b6) rfl
  have g8 := hRf.at_ (i := 8) (v := .int .i64 b7) rfl
  have g9 := hRf.at_ (i := 9) (v := .int .i64 b8) rfl
  have g10 := hRf.at_ (i := 10) (v := .int .i64 b9) rfl
  have g11 := hRf.at_ (i := 11) (v := .int .i64 b10) rfl
  have g12 := hRf.at_ (i := 12) (v := .int .i64 b11) rfl
  have g13 := hRf.at_ (i := 13) (v := .int .i64 b12) rfl
  have g14 := hRf.at_ (i := 14) (v := .int .i64 b13) rfl
  have g15 := hRf.at_ (i := 15) (v := .int .i64 b14) rfl
  have g16 := hRf.at_ (i := 16) (v := .int .i64 b15) rfl
  simp [results, Try.f38, go_sem, g0, g1, g2, g3, g4, g5, g6, g7, g8, g9, g10, g11, g12, g13, g14, g15, g16]
  rfl

set_option maxRecDepth 100000 in
theorem rcu_board (m c : Nat) (e cnt : Int) (b : List Int) (hb : b.length = 16) (w : World) (hm : MemAt w m c (RM e b cnt)) :
    Calls Try.prog 38 #[.pointer (some ⟨m, 0, none⟩)] w fun ed w' => ed = .returned (.agg (nums .i64 (e :: b))) ∧ Below w.heap.size w w' := by
  have hlook := RM.look e cnt b hb
  have HL := Lib.hid hlook
  have hX : (e :: b).length = 17 := by simp [hb]
  have HX := Lib.hid hX
  have HB := Lib.hid hb
  clear hlook hX hb
  go_enter Try.func38, Try.ntmps38
  go_upto_region 2 with fail
  obtain ⟨z17, hz17⟩ : ∃ z, z = #[Value.int .i64 0, Value.int .i64 0, Value.int .i64 0, Value.int .i64 0, Value.int .i64 0, Value.int .i64 0, Value.int .i64 0, Value.int .i64 0, Value.int .i64 0, Value.int .i64 0, Value.int .i64 0, Value.int .i64 0, Value.int .i64 0, Value.int .i64 0, Value.int .i64 0, Value.int .i64 0, Value.int .i64 0] := ⟨_, rfl⟩
  rw [← hz17]
  have hzn : z17 = nums .i64 (filled17 (e :: b) 0) := hz17
  have HZ := Lib.hid hz17
  clear hz17
  have hR := (Blk.new w 72 z17).alloc (.cells z17 72)
  have hS := Blk.new (w.alloc (.cells z17 72)) 72 z17
  have hm2 := (hm.alloc (.cells z17 72)).alloc (.cells z17 72)
  have hb2 : Below w.heap.size w ((w.alloc (.cells z17 72)).alloc (.cells z17 72)) := ((Below.refl _ _).alloc (Nat.le_refl _) _).alloc (by simp) _
  simp only [World.size_alloc] at hS
  generalize (w.alloc (.cells z17 72)).alloc (.cells z17 72) = w2 at *
  have hrlt := hR.lt
  have hslt := hS.lt
  generalize hrb : w.heap.size = rb at *
  generalize hsb : rb + 1 = sb at *
  rw [hzn] at hS
  have hRS : rb ≠ sb := by omega
  have HRB := Lib.hid hrb
  have hrw : rb ≤ w.heap.size := by omega
  have hrs : rb ≤ sb := by omega
  clear hm hzn hrb hsb
  go_wp2_with fail
  refine (cell_look_as m c _ 3 17 (e :: b) 17 HL.out HX.out _ hm2).mono ?_
  rintro e1 w3 ⟨g, cap', rfl, hg, hrow, hb3⟩
  have hS3 := hS.below hb3 hS.lt
  have hR3 := hR.below hb3 hR.lt
  have hw3 := below_then hb2 hb3 hrw
  have hgs : g ≠ sb := by omega
  clear hS hR hm2 hb2 hb3
  go_wp2_with fail
  go_loopw [5] (fun i wr => ∃ k : Nat, k ≤ 17 ∧ i = .int .i64 k ∧ Blk wr sb 72 (nums .i64 (filled17 (e :: b) k)) ∧ Blk wr rb 72 z17 ∧ Row wr 2 1 g 17 cap' ((e :: b).map (Value.int .i64)) ∧ Below rb w wr) (fun i _ => 17 - (intOf i).toNat)
  case atStart => exact ⟨0, Nat.zero_le _, rfl, hS3, hR3, hrow, hw3⟩
  case round =>
    clear hS3 hR3 hrow hw3
    obtain ⟨k, hk, rfl, hS, hR, hrow, hw⟩ := hrel
    by_cases hlt : k < 17
    · have hst := hS.put k (.int .i64 ((e :: b).getD k 0))
      rw [nums_set, filled17_step _ HX.out k hlt] at hst
      have hR2 := hR.far (p := ⟨sb, k, none⟩) hRS (.int .i64 ((e :: b).getD k 0))
      have hrow2 := hrow.far (p := ⟨sb, k, none⟩) hgs (.int .i64 ((e :: b).getD k 0))
      have hw2 := hw.setCell (p := ⟨sb, k, none⟩) hrs (.int .i64 ((e :: b).getD k 0))
      have hc := hrow.cell (j := k) (u := .int .i64 ((e :: b).getD k 0)) (by rw [List.getElem?_map, List.getElem?_eq_getElem (by have := HX.out; omega), List.getD_eq_getElem?_getD, List.getElem?_eq_getElem (by have := HX.out; omega)]; rfl)
      have hf := hS.free k
      have hcs : wr.cell? ⟨sb, k, none⟩ = some (.int .i64 ((filled17 (e :: b) k).getD k 0)) := hS.at_ (nums_get _ _ _ (by rw [filled17_len _ HX.out k hk]; exact hlt))
      generalize (filled17 (e :: b) k).getD k 0 = old at *
      rcases Nat.eq_zero_or_pos k with h0 | h0
      · subst h0
        generalize (e :: b).getD 0 0 = x at *
        clear hS hR hrow hw
        go_wp2
        go_roundw
        case rel => exact ⟨1, by omega, by go_num, hst, hR2, hrow2, hw2⟩
        case measure => simp [intOf]
      · generalize (e :: b).getD k 0 = x at *
        obtain ⟨j, rfl⟩ : ∃ j, k = 1 + j := ⟨k - 1, by omega⟩
        clear hS hR hrow hw
        go_wp2
        go_roundw
        case rel => exact ⟨1 + j + 1, by omega, by go_num, hst, hR2, hrow2, hw2⟩
        case measure => simp [intOf]; omega
    · obtain rfl : k = 17 := by omega
      rw [filled17_all _ HX.out] at hS
      clear hrow
      obtain ⟨b0, b1, b2, b3, b4, b5, b6, b7, b8, b9, b10, b11, b12, b13, b14, b15, hbb⟩ := list16 b HB.out
      subst hbb
      have c0 := hS.at_ (i := 0) (v := .int .i64 e) rfl
      have c1 := hS.at_ (i := 1) (v := .int .i64 b0) rfl
      have c2 := hS.at_ (i := 2) (v := .int .i64 b1) rfl
      have c3 := hS.at_ (i := 3) (v := .int .i64 b2) rfl
      have c4 := hS.at_ (i := 4) (v := .int .i64 b3) rfl
      have c5 := hS.at_ (i := 5) (v := .int .i64 b4) rfl
      have c6 := hS.at_ (i := 6) (v := .int .i64 b5) rfl
      have c7 := hS.at_ (i := 7) (v := .int .i64 b6) rfl
      have c8 := hS.at_ (i := 8) (v := .int .i64 b7) rfl
      have c9 := hS.at_ (i := 9) (v := .int .i64 b8) rfl
      have c10 := hS.at_ (i := 10) (v := .int .i64 b9) rfl
      have c11 := hS.at_ (i := 11) (v := .int .i64 b10) rfl
      have c12 := hS.at_ (i := 12) (v := .int .i64 b11) rfl
      have c13 := hS.at_ (i := 13) (v := .int .i64 b12) rfl
      have c14 := hS.at_ (i := 14) (v := .int .i64 b13) rfl
      have c15 := hS.at_ (i := 15) (v := .int .i64 b14) rfl
      have c16 := hS.at_ (i := 16) (v := .int .i64 b15) rfl
      have d0 := hR.at_ (i := 0) (v := .int .i64 0) (by rw [HZ.out]; rfl)
      have f0 := hR.free 0
      have d1 := hR.at_ (i := 1) (v := .int .i64 0) (by rw [HZ.out]; rfl)
      have f1 := hR.free 1
      have d2 := hR.at_ (i := 2) (v := .int .i64 0) (by rw [HZ.out]; rfl)
      have f2 := hR.free 2
      have d3 := hR.at_ (i := 3) (v := .int .i64 0) (by rw [HZ.out]; rfl)
      have f3 := hR.free 3
      have d4 := hR.at_ (i := 4) (v := .int .i64 0) (by rw [HZ.out]; rfl)
      have f4 := hR.free 4
      have d5 := hR.at_ (i := 5) (v := .int .i64 0) (by rw [HZ.out]; rfl)
      have f5 := hR.free 5
      have d6 := hR.at_ (i := 6) (v := .int .i64 0) (by rw [HZ.out]; rfl)
      have f6 := hR.free 6
      have d7 := hR.at_ (i := 7) (v := .int .i64 0) (by rw [HZ.out]; rfl)
      have f7 := hR.free 7
      have d8 := hR.at_ (i := 8) (v := .int .i64 0) (by rw [HZ.out]; rfl)
      have f8 := hR.free 8
      have d9 := hR.at_ (i := 9) (v := .int .i64 0) (by rw [HZ.out]; rfl)
      have f9 := hR.free 9
      have d10 := hR.at_ (i := 10) (v := .int .i64 0) (by rw [HZ.out]; rfl)
      have f10 := hR.free 10
      have d11 := hR.at_ (i := 11) (v := .int .i64 0) (by rw [HZ.out]; rfl)
      have f11 := hR.free 11
      have d12 := hR.at_ (i := 12) (v := .int .i64 0) (by rw [HZ.out]; rfl)
      have f12 := hR.free 12
      have d13 := hR.at_ (i := 13) (v := .int .i64 0) (by rw [HZ.out]; rfl)
      have f13 := hR.free 13
      have d14 := hR.at_ (i := 14) (v := .int .i64 0) (by rw [HZ.out]; rfl)
      have f14 := hR.free 14
      have d15 := hR.at_ (i := 15) (v := .int .i64 0) (by rw [HZ.out]; rfl)
      have f15 := hR.free 15
      have d16 := hR.at_ (i := 16) (v := .int .i64 0) (by rw [HZ.out]; rfl)
      have f16 := hR.free 16
      clear hS
      have hRf := (((((((((((((((((hR.put 0 (.int .i64 e)).put 1 (.int .i64 b0)).put 2 (.int .i64 b1)).put 3 (.int .i64 b2)).put 4 (.int .i64 b3)).put 5 (.int .i64 b4)).put 6 (.int .i64 b5)).put 7 (.int .i64 b6)).put 8 (.int .i64 b7)).put 9 (.int .i64 b8)).put 10 (.int .i64 b9)).put 11 (.int .i64 b10)).put 12 (.int .i64 b11)).put 13 (.int .i64 b12)).put 14 (.int .i64 b13)).put 15 (.int .i64 b14)).put 16 (.int .i64 b15))
      rw [HZ.out, set17] at hRf
      have hwf := (((((((((((((((((hw.setCell (p := ⟨rb, 0, none⟩) (Nat.le_refl rb) (.int .i64 e)).setCell (p := ⟨rb, 1, none⟩) (Nat.le_refl rb) (.int .i64 b0)).setCell (p := ⟨rb, 2, none⟩) (Nat.le_refl rb) (.int .i64 b1)).setCell (p := ⟨rb, 3, none⟩) (Nat.le_refl rb) (.int .i64 b2)).setCell (p := ⟨rb, 4, none⟩) (Nat.le_refl rb) (.int .i64 b3)).setCell (p := ⟨rb, 5, none⟩) (Nat.le_refl rb) (.int .i64 b4)).setCell (p := ⟨rb, 6, none⟩) (Nat.le_refl rb) (.int .i64 b5)).setCell (p := ⟨rb, 7, none⟩) (Nat.le_refl rb) (.int .i64 b6)).setCell (p := ⟨rb, 8, none⟩) (Nat.le_refl rb) (.int .i64 b7)).setCell (p := ⟨rb, 9, none⟩) (Nat.le_refl rb) (.int .i64 b8)).setCell (p := ⟨rb, 10, none⟩) (Nat.le_refl rb) (.int .i64 b9)).setCell (p := ⟨rb, 11, none⟩) (Nat.le_refl rb) (.int .i64 b10)).setCell (p := ⟨rb, 12, none⟩) (Nat.le_refl rb) (.int .i64 b11)).setCell (p := ⟨rb, 13, none⟩) (Nat.le_refl rb) (.int .i64 b12)).setCell (p := ⟨rb, 14, none⟩) (Nat.le_refl rb) (.int .i64 b13)).setCell (p := ⟨rb, 15, none⟩) (Nat.le_refl rb) (.int .i64 b14)).setCell (p := ⟨rb, 16, none⟩) (Nat.le_refl rb) (.int .i64 b15))
      have HRF := Lib.hid hRf
      have HWF := Lib.hid hwf
      clear hRf hwf hR hw
      go_wp2
      generalize (((((((((((((((((wr.setCell ⟨rb, 0, none⟩ (.int .i64 e)).setCell ⟨rb, 1, none⟩ (.int .i64 b0)).setCell ⟨rb, 2, none⟩ (.int .i64 b1)).setCell ⟨rb, 3, none⟩ (.int .i64 b2)).setCell ⟨rb, 4, none⟩ (.int .i64 b3)).setCell ⟨rb, 5, none⟩ (.int .i64 b4)).setCell ⟨rb, 6, none⟩ (.int .i64 b5)).setCell ⟨rb, 7, none⟩ (.int .i64 b6)).setCell ⟨rb, 8, none⟩ (.int .i64 b7)).setCell ⟨rb, 9, none⟩ (.int .i64 b8)).setCell ⟨rb, 10, none⟩ (.int .i64 b9)).setCell ⟨rb, 11, none⟩ (.int .i64 b10)).setCell ⟨rb, 12, none⟩ (.int .i64 b11)).setCell ⟨rb, 13, none⟩ (.int .i64 b12)).setCell ⟨rb, 14, none⟩ (.int .i64 b13)).setCell ⟨rb, 15, none⟩ (.int .i64 b14)).setCell ⟨rb, 16, none⟩ (.int .i64 b15)) = wf at *
      have hRf : Blk wf rb 72 (nums .i64 (e :: [b0, b1, b2, b3, b4, b5, b6, b7, b8, b9, b10, b11, b12, b13, b14, b15])) := HRF.out
      have hwf : Below w.heap.size w wf := by rw [HRB.out]; exact HWF.out
      clear HRF HWF
      refine bodyPost_ret (v := .agg (nums .i64 (e :: [b0, b1, b2, b3, b4, b5, b6, b7, b8, b9, b10, b11, b12, b13, b14, b15]))) ?_ rfl ⟨rfl, hwf⟩
      exact board_res rb e b0 b1 b2 b3 b4 b5 b6 b7 b8 b9 b10 b11 b12 b13 b14 b15 _ _ _ _ _ _ _ _ _ _ _ _ _ _ _ _ _ _ _ _ _ _ _ _ _ _ _ _ wf hRf
end Go.Proofs.Ytcphidmfdakbeaa
