/- Layer 4's board, walked. -/
import Derived.Test.YtcphidmfdakbeaaTried
namespace Go.Proofs.Ytcphidmfdakbeaa
open Go.RowKit

theorem RM.look (e cnt : Int) (b : List Int) (hb : b.length = 16) : (RM e b cnt).look 3 17 = e :: b := by
  unfold MemS.look RM
  rw [show (3 : Int).toNat = 3 from rfl, show (17 : Int).toNat = 17 from rfl]
  simp only [List.drop_succ_cons, List.drop_zero, List.take_succ_cons]
  rw [List.take_append_of_le_length (by omega), List.take_of_length_le (by omega)]

/-- The first k of a row, and zeros. -/
def filled17 (X : List Int) (k : Nat) : List Int := X.take k ++ List.replicate (17 - k) 0
theorem filled17_zero (X : List Int) : filled17 X 0 = List.replicate 17 0 := rfl
theorem filled17_len (X : List Int) (hX : X.length = 17) (k : Nat) (hk : k ≤ 17) : (filled17 X k).length = 17 := by simp [filled17, hX]; omega
theorem filled17_step (X : List Int) (hX : X.length = 17) (k : Nat) (hk : k < 17) : (filled17 X k).set k (X.getD k 0) = filled17 X (k + 1) := by
  unfold filled17
  rw [List.set_append_right _ _ (by simp; omega)]
  rw [show k - (X.take k).length = 0 by simp; omega, show 17 - k = (16 - k) + 1 by omega, List.replicate_succ, List.set_cons_zero, List.take_add_one, List.append_assoc, show 17 - (k + 1) = 16 - k by omega]
  rw [List.getElem?_eq_getElem (by omega), List.getD_eq_getElem?_getD, List.getElem?_eq_getElem (by omega)]
  rfl
theorem filled17_all (X : List Int) (hX : X.length = 17) : filled17 X 17 = X := by
  unfold filled17
  rw [List.take_of_length_le (by omega)]
  simp

theorem list16 (b : List Int) (h : b.length = 16) : ∃ b0 b1 b2 b3 b4 b5 b6 b7 b8 b9 b10 b11 b12 b13 b14 b15, b = [b0, b1, b2, b3, b4, b5, b6, b7, b8, b9, b10, b11, b12, b13, b14, b15] := by
  match b, h with
  | [b0, b1, b2, b3, b4, b5, b6, b7, b8, b9, b10, b11, b12, b13, b14, b15], _ => exact ⟨_, _, _, _, _, _, _, _, _, _, _, _, _, _, _, _, rfl⟩

set_option maxRecDepth 100000 in
theorem rcu_board (m c : Nat) (e cnt : Int) (b : List Int) (hb : b.length = 16) (w : World) (hm : MemAt w m c (RM e b cnt)) :
    Calls Try.prog 38 #[.pointer (some ⟨m, 0, none⟩)] w fun ed w' => ed = .returned (.agg (nums .i64 (e :: b))) ∧ Below w.heap.size w w' := by
  have hlook := RM.look e cnt b hb
  have HL := Lib.hid hlook
  have hX : (e :: b).length = 17 := by simp [hb]
  have HX := Lib.hid hX
  have HB := Lib.hid hb
  clear hlook hX hb
  go_enter Try.func38, Try.ntmps38
  go_upto_region 2 with fail
  obtain ⟨z17, hz17⟩ : ∃ z, z = #[Value.int .i64 0, Value.int .i64 0, Value.int .i64 0, Value.int .i64 0, Value.int .i64 0, Value.int .i64 0, Value.int .i64 0, Value.int .i64 0, Value.int .i64 0, Value.int .i64 0, Value.int .i64 0, Value.int .i64 0, Value.int .i64 0, Value.int .i64 0, Value.int .i64 0, Value.int .i64 0, Value.int .i64 0] := ⟨_, rfl⟩
  rw [← hz17]
  have hzn : z17 = nums .i64 (filled17 (e :: b) 0) := hz17
  have HZ := Lib.hid hz17
  clear hz17
  have hR := (Blk.new w 72 z17).alloc (.cells z17 72)
  have hS := Blk.new (w.alloc (.cells z17 72)) 72 z17
  have hm2 := (hm.alloc (.cells z17 72)).alloc (.cells z17 72)
  have hb2 : Below w.heap.size w ((w.alloc (.cells z17 72)).alloc (.cells z17 72)) := ((Below.refl _ _).alloc (Nat.le_refl _) _).alloc (by simp) _
  simp only [World.size_alloc] at hS
  generalize (w.alloc (.cells z17 72)).alloc (.cells z17 72) = w2 at *
  have hrlt := hR.lt
  have hslt := hS.lt
  generalize hrb : w.heap.size = rb at *
  generalize hsb : rb + 1 = sb at *
  rw [hzn] at hS
  have hRS : rb ≠ sb := by omega
  have HRB := Lib.hid hrb
  have hrw : rb ≤ w.heap.size := by omega
  have hrs : rb ≤ sb := by omega
  clear hm hzn hrb hsb
  go_wp2_with fail
  refine (cell_look_as m c _ 3 17 (e :: b) 17 HL.out HX.out _ hm2).mono ?_
  rintro e1 w3 ⟨g, cap', rfl, hg, hrow, hb3⟩
  have hS3 := hS.below hb3 hS.lt
  have hR3 := hR.below hb3 hR.lt
  have hw3 := below_then hb2 hb3 hrw
  have hgs : g ≠ sb := by omega
  clear hS hR hm2 hb2 hb3
  go_wp2_with fail
  go_loopw [5] (fun i wr => ∃ k : Nat, k ≤ 17 ∧ i = .int .i64 k ∧ Blk wr sb 72 (nums .i64 (filled17 (e :: b) k)) ∧ Blk wr rb 72 z17 ∧ Row wr 2 1 g 17 cap' ((e :: b).map (Value.int .i64)) ∧ Below rb w wr) (fun i _ => 17 - (intOf i).toNat)
  case atStart => exact ⟨0, Nat.zero_le _, rfl, hS3, hR3, hrow, hw3⟩
  case round =>
    clear hS3 hR3 hrow hw3
    obtain ⟨k, hk, rfl, hS, hR, hrow, hw⟩ := hrel
    by_cases hlt : k < 17
    · have hst := hS.put k (.int .i64 ((e :: b).getD k 0))
      rw [nums_set, filled17_step _ HX.out k hlt] at hst
      have hR2 := hR.far (p := ⟨sb, k, none⟩) hRS (.int .i64 ((e :: b).getD k 0))
      have hrow2 := hrow.far (p := ⟨sb, k, none⟩) hgs (.int .i64 ((e :: b).getD k 0))
      have hw2 := hw.setCell (p := ⟨sb, k, none⟩) hrs (.int .i64 ((e :: b).getD k 0))
      have hc := hrow.cell (j := k) (u := .int .i64 ((e :: b).getD k 0)) (by rw [List.getElem?_map, List.getElem?_eq_getElem (by have := HX.out; omega), List.getD_eq_getElem?_getD, List.getElem?_eq_getElem (by have := HX.out; omega)]; rfl)
      have hf := hS.free k
      have hcs : wr.cell? ⟨sb, k, none⟩ = some (.int .i64 ((filled17 (e :: b) k).getD k 0)) := hS.at_ (nums_get _ _ _ (by rw [filled17_len _ HX.out k hk]; exact hlt))
      generalize (filled17 (e :: b) k).getD k 0 = old at *
      rcases Nat.eq_zero_or_pos k with h0 | h0
      · subst h0
        generalize (e :: b).getD 0 0 = x at *
        clear hS hR hrow hw
        go_wp2
        go_roundw
        case rel => exact ⟨1, by omega, by go_num, hst, hR2, hrow2, hw2⟩
        case measure => simp [intOf]
      · generalize (e :: b).getD k 0 = x at *
        obtain ⟨j, rfl⟩ : ∃ j, k = 1 + j := ⟨k - 1, by omega⟩
        clear hS hR hrow hw
        go_wp2
        go_roundw
        case rel => exact ⟨1 + j + 1, by omega, by go_num, hst, hR2, hrow2, hw2⟩
        case measure => simp [intOf]; omega
    · obtain rfl : k = 17 := by omega
      rw [filled17_all _ HX.out] at hS
      clear hrow
      have hsz : (nums .i64 (e :: b)).size = 17 := by rw [nums_size]; exact HX.out
      have hi : (Try.prog.info? 72).map (·.size) = some (nums .i64 (e :: b)).size := by rw [hsz]; kernel_rfl
      have ho : z17.size = (nums .i64 (e :: b)).size := by rw [hsz, HZ.out]; rfl
      have h1 : (nums .i64 (e :: b)).all (·.oneCell') = true := by
        rw [Array.all_eq_true_iff_forall_mem]
        intro x hx
        simp [nums] at hx
        rcases hx with rfl | ⟨y, -, rfl⟩ <;> rfl
      have HI := Lib.hid hi
      clear hi hsz
      go_wp2_with (first | (refine wpList_load_row (P := Try.prog) rfl 72 (.tmp 3) rfl sb rfl 72 (nums .i64 (e :: b)) (0, 0) _ hS Try.underlying72 rfl HI.out ?_) | (refine wpList_store_row (P := Try.prog) rfl 72 (.tmp 2) (.tmp 28) rfl rb (nums .i64 (e :: b)) rfl rfl 72 z17 hR HI.out ho h1 ?_))
      refine bodyPost_ret (v := .agg (nums .i64 (e :: b))) (results_cell_row (P := Try.prog) rfl _ _ rb 72 (nums .i64 (e :: b)) (0, 0) _ rfl (setRow_heap _ _ _ _ _ _ hR) Try.underlying72 rfl HI.out) rfl ⟨rfl, ?_⟩
      rw [HRB.out]
      exact ⟨hw.os, hw.tape, hw.output, by simpa using hw.size, fun k hk => by
        rw [← hw.block k hk]
        simp only [World.setRow, Array.getElem?_modify]
        rw [if_neg (by omega)]⟩
end Go.Proofs.Ytcphidmfdakbeaa
