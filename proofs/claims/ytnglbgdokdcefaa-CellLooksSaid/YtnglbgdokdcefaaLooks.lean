/- CellLooks, walked: of all places and numbers a look tells the cells that are there, is no access, and what it tells is its own. -/
import Derived.Test.YtnglbgdokdcefaaLaw01
import Derived.Deep.LoopGhost
import Derived.Deep.DeepCutAuto
namespace Go.Proofs.Ytnglbgdokdcefaa
open Go.RowKit

theorem cell_look_as (m c : Nat) (s : MemS) (i n : Int) (X : List Int) (L : Nat) (hX : s.look i n = X) (hL : X.length = L) (w : World) (h : MemAt w m c s) :
    Calls Try.prog 19 #[.pointer (some ⟨m, 0, none⟩), .int .i64 i, .int .i64 n] w fun e w' =>
      ∃ g cap', e = .returned (.slice (some ⟨g, 0, none⟩) L cap') ∧ w.heap.size ≤ g ∧ Row w' 2 1 g L cap' (X.map (Value.int .i64)) ∧ Below w.heap.size w w' := by
  have h := cell_look m c s i n w h
  rw [hX, hL] at h
  exact h

/-- The memory behind k stores. -/
def filledTo (zs : List Int) (k : Nat) : MemS := ⟨zs.take k ++ List.replicate (zs.length - k) 0, k⟩
theorem filled_zero (zs : List Int) : filledTo zs 0 = ⟨List.replicate zs.length 0, 0⟩ := by simp [filledTo]
theorem filled_all (zs : List Int) : filledTo zs zs.length = ⟨zs, zs.length⟩ := by simp [filledTo]
theorem filled_step (zs : List Int) (k : Nat) (hk : k < zs.length) (h100 : zs.length ≤ 100) : (filledTo zs k).store k (zs.getD k 0) = (0, filledTo zs (k + 1)) := by
  have hh : (filledTo zs k).has k = true := by simp [MemS.has, filledTo]; omega
  unfold MemS.store
  rw [if_pos hh]
  have e1 : wrap64 ((k : Int) + 1) = ((k + 1 : Nat) : Int) := by unfold wrap64; omega
  simp only [MemS.tick, MemS.set, filledTo, e1, Int.toNat_natCast, Prod.mk.injEq, MemS.mk.injEq, true_and, and_true]
  apply List.ext_getElem
  · simp; omega
  · intro j h1 h2
    rw [List.getElem_set]
    by_cases e : k = j
    · subst e
      rw [if_pos rfl, List.getElem_append_left (by simp; omega)]
      simp [List.getD, hk]
    · rw [if_neg e]
      by_cases hj : j < k
      · rw [List.getElem_append_left (by simp; omega), List.getElem_append_left (by simp; omega)]
        simp
      · rw [List.getElem_append_right (by simp; omega), List.getElem_append_right (by simp; omega)]
        simp

set_option maxRecDepth 100000 in
theorem looks01 (a : Option Addr) (len cap : Nat) (zs : List Int) (i n : Int) (w : World) (ha : ArgInts .i64 w a len cap zs) (_ : (Lit.int .i64 i).wf = true) (_ : (Lit.int .i64 n).wf = true) :
    Calls Try.prog 4 #[.slice a len cap, .int .i64 i, .int .i64 n] w fun e w' => e = .returned (.bool true) ∧ Below w.heap.size w w' := by
  have HA := Lib.hid awake01
  rcases Nat.lt_or_ge 100 len with h100 | h100
  · go_enter Try.func4, Try.ntmps4
    go_wp2_with fail
    refine (HA.out _).mono ?_
    rintro e w1 ⟨rfl, hb1⟩
    go_wp2_with fail
    refine (HA.out _).mono ?_
    rintro e w2 ⟨rfl, hb2⟩
    go_wp2
    go_ret
    exact ⟨rfl, below_then hb1 hb2 (Nat.le_refl _)⟩
  · have hz := ha.hl
    have HZ := Lib.hid hz
    clear hz
    go_enter Try.func4, Try.ntmps4
    go_wp2_with fail
    refine (HA.out _).mono ?_
    rintro e w1 ⟨rfl, hb1⟩
    go_wp2_with fail
    refine (cell_new len _).mono ?_
    rw [show (capn len).toNat = len by unfold capn; rw [if_neg (by omega), if_neg (by omega)]; omega]
    rintro e w2 ⟨rfl, hm2, hb2, -⟩
    have hmc : w1.heap.size + 1 ≠ w1.heap.size := by omega
    have hB1 := hb1.size
    have hb12 := below_then hb1 hb2 (Nat.le_refl _)
    generalize hm : w1.heap.size + 1 = m at *
    generalize w1.heap.size = c at *
    have hBm : w.heap.size ≤ m := by omega
    clear hm hb1 hb2
    have HF := Lib.hid (filled_step zs)
    go_wp2_with fail
    go_loopw [8] (fun i wr => ∃ k : Nat, k ≤ len ∧ i = .int .i64 k ∧ MemAt wr m c (filledTo zs k) ∧ Below w.heap.size w wr) (fun i _ => len - (intOf i).toNat)
    case atStart => exact ⟨0, Nat.zero_le _, rfl, by rw [filled_zero, HZ.out]; exact hm2, hb12⟩
    case round =>
      obtain ⟨k, hk, rfl, hmr, hw⟩ := hrel
      by_cases hlt : k < len
      · obtain ⟨b, off, rfl, -, hc⟩ := (ha.below hw (Nat.le_refl _)).at_ hlt
        have hst := HF.out k (by rw [HZ.out]; exact hlt) (by rw [HZ.out]; exact h100)
        generalize zs.getD k 0 = x at hc hst
        have HS := Lib.hid hst
        clear hst
        go_wp2_with fail
        refine (cell_store m c _ k x _ hmr).mono ?_
        rw [HS.out]
        rintro e w3 ⟨rfl, hm3, hu3⟩
        go_wp2
        go_roundw
        case rel => exact ⟨k + 1, by omega, by go_num, hm3, below_upd hw hu3 (Nat.le_refl _) (by simp; omega)⟩
        case measure => simp [intOf]; omega
      · obtain rfl : len = k := by omega
        have hmz : MemAt wr m c ⟨zs, len⟩ := by rw [← HZ.out, filled_all, HZ.out] at hmr; exact hmr
        clear hmr HF
        obtain ⟨F, hF⟩ : ∃ F, F = min i.toNat len := ⟨_, rfl⟩
        obtain ⟨L, hL⟩ : ∃ L, L = min n.toNat (len - F) := ⟨_, rfl⟩
        obtain ⟨X, hX⟩ : ∃ X, X = (zs.drop F).take L := ⟨_, rfl⟩
        have hXL : X.length = L := by rw [hX]; simp [HZ.out]; omega
        have hlook : (⟨zs, len⟩ : MemS).look i n = X := by rw [MemS.look_eq, hX, hL, hF]; simp only [HZ.out]
        have hXat : ∀ j, j < L → X.getD j 0 = zs.getD (F + j) 0 ∧ F + j < len := by
          intro j hj
          refine ⟨?_, by omega⟩
          rw [hX, List.getD_eq_getElem?_getD, List.getD_eq_getElem?_getD, List.getElem?_take_of_lt hj, List.getElem?_drop]
        have hFl : F ≤ len := by omega
        have hLl : F + L ≤ len := by omega
        have H1 := Lib.hid hF
        have H2 := Lib.hid hL
        have H3 := Lib.hid hXL
        have H4 := Lib.hid hlook
        have H5 := Lib.hid hXat
        clear hF hL hX hXL hlook hXat
        go_wp2_with fail
        refine (cell_look_as m c _ i n X L H4.out H3.out _ hmz).mono ?_
        rintro e w3 ⟨g, cap', rfl, hg, hrow, hb3⟩
        have hmz3 : MemAt w3 m c ⟨zs, len⟩ := ⟨hmz.1.below hb3 hmz.1.lt, hmz.2.1.below hb3 hmz.2.1.lt, hmz.2.2⟩
        have hgm : g ≠ m ∧ g ≠ c := ⟨by have := hmz.1.lt; omega, by have := hmz.2.1.lt; omega⟩
        have hw3 := below_then hw hb3 (Nat.le_refl _)
        clear hmz hb3
        have hgB : w.heap.size ≤ g := by have := hw.size; omega
        clear hw hg
        go_upto_region 9 with fail
        go_cut [10] (fun v wc => v = .int .i64 F ∧ w3 = wc)
        case first =>
          go_wp2
          all_goals go_meet
          all_goals exact ⟨congrArg (Value.int .i64) (by have := H1.out; omega), rfl⟩
        case rest =>
          obtain ⟨rfl, rfl⟩ := hcut
          go_upto_if 53 with fail
          go_cut [11] (fun v wc => v = .int .i64 L ∧ w3 = wc)
          case first =>
            go_wp2
            all_goals go_meet
            all_goals exact ⟨congrArg (Value.int .i64) (by have := H1.out; have := H2.out; omega), rfl⟩
          case rest =>
            obtain ⟨rfl, rfl⟩ := hcut
            go_wp2_with fail
            refine (cell_count m c _ _ hmz3).mono ?_
            rintro e w' ⟨rfl, rfl⟩
            go_wp2_with fail
            have hys : ∀ j, 0 ≤ j → (X.map (Value.int .i64))[j]? = (X.map (Value.int .i64))[j]? := fun _ _ => rfl
            have hne := hmz3.ne_
            go_loopw [12] (fun i wr => ∃ (k : Nat) (ys : List Value), k ≤ L ∧ i = .int .i64 k ∧ Row wr 2 1 g L cap' ys ∧ (∀ j, k ≤ j → ys[j]? = (X.map (Value.int .i64))[j]?) ∧ MemAt wr m c ⟨zs, len⟩ ∧ Below w.heap.size w wr) (fun i _ => L - (intOf i).toNat)
            case atStart => exact ⟨0, _, Nat.zero_le _, rfl, hrow, hys, hmz3, hw3⟩
            case round =>
              clear hrow hmz3 hw3 hys
              obtain ⟨k, ys, hk, rfl, hrow, hys, hmr, hw⟩ := hrel
              have HY := Lib.hid hys
              clear hys
              by_cases hlt : k < L
              · obtain ⟨hx, hFk⟩ := H5.out k hlt
                obtain ⟨b, off, rfl, -, hc2⟩ := (ha.below hw (Nat.le_refl _)).at_ hFk
                have hc1 := hrow.cell (j := k) (u := .int .i64 (X.getD k 0)) (by rw [HY.out k (Nat.le_refl _), List.getElem?_map, List.getD_eq_getElem?_getD]; have := H3.out; rw [List.getElem?_eq_getElem (by omega)]; rfl)
                rw [hx] at hc1
                clear hx
                generalize zs.getD (F + k) 0 = x at hc1 hc2
                have hf := hrow.free k
                have q1 : (x != x) = false := by simp
                have e1 : IntKind.i64.wrap ((F : Int) + k) = (F : Int) + k := IntWalk.i64_in _ (by omega)
                have e2 : (0 : Int) ≤ (F : Int) + k := by omega
                have e3 : ((F : Int) + (k : Int)).toNat = F + k := by omega
                have e4 : (F : Int) + k < len := by omega
                go_wp2_with fail
                go_quiet (fail)
                clear e1 e2 e3 e4
                go_wp2
                go_roundw
                case rel => exact ⟨k + 1, ys.set k (.int .i64 (wrap64 (x + 1))), by omega, by go_num, (hrow.drewN nq).put (by have := hrow.elim fun _ h => h.2.2.1; omega) _, fun j hj => by rw [List.getElem?_set_ne (by omega)]; exact HY.out j (by omega), (hmr.drewN nq).far (p := ⟨g, k, none⟩) hgm.1 hgm.2 _, (Below.mk hw.os hw.tape hw.output hw.size hw.block : Below w.heap.size w (wr.drewN nq)).setCell (p := ⟨g, k, none⟩) hgB _⟩
                case measure => simp [intOf]; omega
              · clear hrow HY
                go_wp2_with fail
                refine (cell_look_as m c _ i n X L H4.out H3.out _ hmr).mono ?_
                rintro e w4 ⟨g4, cap4, rfl, hg4, hrow4, hb4⟩
                have hw4 := below_then hw hb4 (Nat.le_refl _)
                rcases Nat.eq_zero_or_pos L with h0 | h0
                · have q0 : ((L : Int) == 0) = true := by simp [h0]
                  go_wp2_with fail
                  go_quiet (fail)
                  go_wp2
                  go_ret
                  exact ⟨rfl, ⟨hw4.os, hw4.tape, hw4.output, hw4.size, hw4.block⟩⟩
                · obtain ⟨hx, hFk⟩ := H5.out 0 h0
                  obtain ⟨b, off, rfl, -, hc2⟩ := (ha.below hw4 (Nat.le_refl _)).at_ (show F < len by omega)
                  have hc1 := hrow4.cell (j := 0) (u := .int .i64 (X.getD 0 0)) (by rw [List.getElem?_map, List.getD_eq_getElem?_getD]; have := H3.out; rw [List.getElem?_eq_getElem (by omega)]; rfl)
                  rw [hx, Nat.add_zero] at hc1
                  clear hx
                  generalize zs.getD F 0 = x at hc1 hc2
                  have q0 : ((L : Int) == 0) = false := by simp; omega
                  have q1 : (x == x) = true := by simp
                  have q2 : (0 : Int) < L := by omega
                  have q3 : (F : Int) < len := by omega
                  go_wp2_with fail
                  go_quiet (fail)
                  go_wp2
                  go_ret
                  exact ⟨rfl, ⟨hw4.os, hw4.tape, hw4.output, hw4.size, hw4.block⟩⟩
end Go.Proofs.Ytnglbgdokdcefaa
