/- Layer 7: the reference's List: the right list of a space's pages (region 7 printed by wip/gen_listr7.py). -/
import Derived.Test.YtohidmkfpaiklaaSpace7
import Derived.Test.YtohidmkfpaiklaaOwnRow
import Derived.Deep.Onto
namespace Go.Proofs.Ytohidmkfpaiklaa
open Go.RowKit
set_option linter.unusedSimpArgs false
set_option linter.unusedVariables false

def mkArea (p : Nat) (x : AttrV) : AreaV := ⟨4096 * p, 4096 * (p + 1), x.prot, x.shared, x.back, x.off⟩
def prevA (s : Spc) (p : Nat) : AttrV := (s (p - 1)).getD .zero
def lastOf (out : List AreaV) : AreaV := out.getD (out.length - 1) .zero
def joinsL (s : Spc) (out : List AreaV) (p : Nat) (x : AttrV) : Bool := decide (0 < out.length) && ((lastOf out).stop == 4096 * (p : Int) && decide ((prevA s p).next = x))
def stepL (s : Spc) (out : List AreaV) (p : Nat) : List AreaV :=
  match s p with
  | none => out
  | some x => if joinsL s out p x = true then out.set (out.length - 1) { lastOf out with stop := 4096 * (p + 1) } else out ++ [mkArea p x]
def listTo (s : Spc) : Nat → List AreaV
  | 0 => []
  | p + 1 => if p < 16 then [] else stepL s (listTo s p) p
def listR (s : Spc) : List AreaV := listTo s 512
def SpcOk (s : Spc) : Prop := ∀ p x, s p = some x → 0 ≤ x.off ∧ x.off ≤ 1099511627776
theorem listTo_16 (s : Spc) : listTo s 16 = [] := by simp [listTo]
theorem listTo_next (s : Spc) {p : Nat} (h : 16 ≤ p) : listTo s (p + 1) = stepL s (listTo s p) p := by
  rw [listTo, if_neg (by omega)]
theorem stepL_len (s : Spc) (out : List AreaV) (p : Nat) : (stepL s out p).length ≤ out.length + 1 := by
  unfold stepL
  split
  · omega
  · split <;> simp
theorem listTo_len (s : Spc) : ∀ p, (listTo s p).length ≤ p
  | 0 => by simp [listTo]
  | p + 1 => by
    rw [listTo]
    split
    · simp
    · have := stepL_len s (listTo s p) p
      have := listTo_len s p
      omega
theorem AreaV.cells_one (a : AreaV) : ∀ u ∈ a.cells, u.oneCell' = true := by
  intro u hu
  simp only [AreaV.cells, areaCells, List.mem_cons, List.not_mem_nil, or_false] at hu
  rcases hu with rfl | rfl | rfl | rfl | rfl | rfl <;> rfl
theorem info_area : (Try.prog.info? 79).map (fun i => (i.zero, i.size, i.bytes)) = some (some (.agg #[.int .i64 0, .int .i64 0, .int .i64 0, .bool false, .int .i64 0, .int .i64 0]), 6, 48) := by kernel_rfl
theorem last_cell {w : World} {B g c : Nat} {out : List AreaV} {b : AreaV} (h : w.ownsRow B 79 6 (.slice (some ⟨g, 0, none⟩) out.length c) out.length (out.flatMap AreaV.cells)) (hb : out[out.length - 1]? = some b) :
    w.cell? ⟨g, (out.length - 1) * 6 + 1, none⟩ = some (.int .i64 b.stop) ∧ w.frozen? ⟨g, (out.length - 1) * 6 + 1, none⟩ = false := by
  obtain ⟨g', e, h1, h2⟩ := own_at h (j := (out.length - 1) * 6 + 1) (u := .int .i64 b.stop) (by rw [flat_get AreaV.cells_len out _ b 1 hb (by omega)]; rfl)
  injection e with e
  injection e with e
  subst e
  exact ⟨h1, h2⟩
set_option maxRecDepth 100000 in
set_option maxHeartbeats 8000000 in
theorem ref07_list (s : Spc) (w : World) (hs : SpcOk s) :
    Calls Try.prog 65 #[.agg (spcA s)] w fun e w' => ∃ A c, e = .returned (.slice A (listR s).length c) ∧ w'.ownsRow w.heap.size 79 6 (.slice A (listR s).length c) (listR s).length ((listR s).flatMap AreaV.cells) ∧ Below w.heap.size w w' := by
  have HB := Lib.hid (Below.refl w.heap.size w)
  go_enter Try.func65, Try.ntmps65
  go_upto_region 1 with fail
  have HS := Lib.hid (Blk.new w 125 (spcA s))
  replace HB := Lib.hid (below_alloc0 w (.cells (spcA s) 125))
  have hsz := World.size_alloc w (.cells (spcA s) 125)
  have hsz' : w.heap.size + 1 ≤ (w.alloc (.cells (spcA s) 125)).heap.size := by omega
  generalize w.alloc (.cells (spcA s) 125) = w1 at *
  obtain ⟨sb, hsb⟩ : ∃ sb, w.heap.size = sb := ⟨_, rfl⟩
  rw [hsb] at HS hsz'
  simp only [hsb]
  have HSB := Lib.hid hsb
  clear hsb hsz
  have HSZ := Lib.hid hsz'
  clear hsz'
  go_wp2
  go_loopw [3, 4] (fun v vp wr => ∃ (p : Nat) (A : Option Addr) (c : Nat), 16 ≤ p ∧ p ≤ 512 ∧ vp = .int .i64 p ∧ v = .slice A (listTo s p).length c ∧ wr.ownsRow (sb + 1) 79 6 (.slice A (listTo s p).length c) (listTo s p).length ((listTo s p).flatMap AreaV.cells) ∧ Blk wr sb 125 (spcA s) ∧ sb + 1 ≤ wr.heap.size ∧ Below w.heap.size w wr) (fun _ vp _ => 512 - (intOf vp).toNat)
  case atStart =>
    exact ⟨16, none, 0, by omega, by omega, rfl, by rw [listTo_16]; rfl, by rw [listTo_16]; exact World.ownsRow_nil _ _ _ _, HS.out, HSZ.out, HB.out⟩
  case round =>
    clear HB HS HSZ
    obtain ⟨p, A, c, hp0, hp1, rfl, rfl, hown, hS, hsz, hlow⟩ := hrel
    have HO := Lib.hid hown
    have HS := Lib.hid hS
    have HSZ := Lib.hid hsz
    have HLOW := Lib.hid hlow
    clear hown hS hsz hlow
    by_cases hlt : p < 512
    · have hlti : (p : Int) < 512 := by omega
      have HNX := Lib.hid (listTo_next s hp0)
      have hlen := listTo_len s p
      obtain ⟨out, hout⟩ : ∃ out, listTo s p = out := ⟨_, rfl⟩
      simp only [hout] at HO HNX hlen ⊢
      clear hout
      cases hsp : s p with
      | none =>
        obtain ⟨m0, m1, m2, m3, m4⟩ := spc_five HS.out hlt (by rw [hsp]; rfl : pageOf (s p) = [.bool false, .int .i64 0, .bool false, .int .i64 0, .int .i64 0])
        have HST := Lib.hid (show listTo s (p + 1) = out by rw [HNX.out]; unfold stepL; rw [hsp])
        clear HNX hsp
        go_wp2
        go_roundw
        case rel => exact ⟨p + 1, A, c, by omega, by omega, by go_num, by rw [HST.out], by rw [HST.out]; exact HO.out, HS.out, HSZ.out, HLOW.out⟩
        case measure => simp [intOf]; omega
      | some x =>
        obtain ⟨m0, m1, m2, m3, m4⟩ := spc_five HS.out hlt (by rw [hsp]; rfl : pageOf (s p) = [.bool true, .int .i64 x.prot, .bool x.shared, .int .i64 x.back, .int .i64 x.off])
        have HST := Lib.hid (show listTo s (p + 1) = if joinsL s out p x = true then out.set (out.length - 1) { lastOf out with stop := 4096 * (p + 1) } else out ++ [mkArea p x] by rw [HNX.out]; unfold stepL; rw [hsp])
        have hxo := hs p x hsp
        have HPG := Lib.hid (show pageOf (s p) = [.bool true, .int .i64 x.prot, .bool x.shared, .int .i64 x.back, .int .i64 x.off] by rw [hsp]; rfl)
        obtain ⟨⟨y0, y1, y2, y3⟩, hy⟩ : ∃ y, prevA s p = y := ⟨_, rfl⟩
        have HYO := Lib.hid (show 0 ≤ y3 ∧ y3 ≤ 1099511627776 by
          unfold prevA at hy
          cases h : s (p - 1) with
          | none => rw [h] at hy; simp [AttrV.zero] at hy; omega
          | some z => rw [h] at hy; have := hs _ z h; simp at hy; subst hy; exact this)
        have HPV := Lib.hid (show ∃ b, pageOf (s (p - 1)) = [.bool b, .int .i64 y0, .bool y1, .int .i64 y2, .int .i64 y3] by
          unfold prevA at hy
          cases h : s (p - 1) with
          | none => rw [h] at hy; simp [AttrV.zero] at hy; obtain ⟨rfl, rfl, rfl, rfl⟩ := hy; exact ⟨false, rfl⟩
          | some z => rw [h] at hy; simp at hy; subst hy; exact ⟨true, rfl⟩)
        have HY := Lib.hid hy
        obtain ⟨x0, x1, x2, x3⟩ := x
        clear HNX hsp hxo hy
        simp only at m1 m2 m3 m4
        go_upto_region 7 with fail
        have HAF := Lib.hid (fun w => ref06_after ⟨y0, y1, y2, y3⟩ ⟨x0, x1, x2, x3⟩ w HYO.out.1 HYO.out.2)
        simp only [AttrV.cells] at HAF
        go_cut [42] (fun v wx => v = .bool (joinsL s out p ⟨x0, x1, x2, x3⟩) ∧ Below wr.heap.size wr wx)
        case first =>
          have hp16 : (0 : Int) ≤ p := by omega
          have ew1 : IntKind.i64.wrap (4096 * (p : Int)) = 4096 * p := IntWalk.i64_in _ (by omega)
          have ew2 : IntKind.i64.wrap ((p : Int) - 1) = (p - 1 : Nat) := (IntWalk.i64_in _ (by omega)).trans (by omega)
          by_cases hn : out.length = 0
          · have hl0 : out = [] := List.eq_nil_of_length_eq_zero hn
            subst hl0
            clear m0 m1 m2 m3 m4 HAF
            simp only [List.length_nil]
-- MARKA
            refine wp_region_H (fun _ => True) 25 (by rfl) (by kernel_rfl) ?_
            have hS : (fun _ : World => True) wr.drew := trivial
            try simp only [Array.replicate, List.replicate, List.setIfInBounds_toArray]
            refine wpAnyH_takes (i := 0) (d := 18) (v := ?_) rfl rfl (by kernel_rfl) (fun _ _ _ h => h) (Or.inl ⟨by rfl, ?_⟩) hS ?_
            rotate_left
            · intro wq hq; (try dsimp only at hq); (try obtain ⟨hq1, hq2, hq3, hq4, hq5, hq6, hq7, hq8, hq9⟩ := hq); go_simp; try with_reducible rfl
            simp only [List.setIfInBounds_toArray, List.set_cons_zero, List.set_cons_succ]
            refine wpAnyH_takes (i := 1) (d := 19) (v := ?_) rfl rfl (by kernel_rfl) (fun _ _ _ h => h) (Or.inl ⟨by rfl, ?_⟩) hS ?_
            rotate_left
            · intro wq hq; (try dsimp only at hq); (try obtain ⟨hq1, hq2, hq3, hq4, hq5, hq6, hq7, hq8, hq9⟩ := hq); go_simp; try with_reducible rfl
            simp only [List.setIfInBounds_toArray, List.set_cons_zero, List.set_cons_succ]
            refine wpAnyH_takes (i := 2) (d := 20) (v := ?_) rfl rfl (by kernel_rfl) (fun _ _ _ h => h) (Or.inl ⟨by rfl, ?_⟩) hS ?_
            rotate_left
            · intro wq hq; (try dsimp only at hq); (try obtain ⟨hq1, hq2, hq3, hq4, hq5, hq6, hq7, hq8, hq9⟩ := hq); go_simp; try with_reducible rfl
            simp only [List.setIfInBounds_toArray, List.set_cons_zero, List.set_cons_succ]
            refine wpAnyH_takes (i := 3) (d := 21) (v := undef) rfl rfl (by kernel_rfl) (fun _ _ _ h => h) (Or.inr ⟨by first | rfl | (simp only [Int.natCast_zero, Int.lt_irrefl, decide_false]; rfl), by rfl⟩) hS ?_
            simp only [List.setIfInBounds_toArray, List.set_cons_zero, List.set_cons_succ]
            refine wpAnyH_takes (i := 4) (d := 22) (v := undef) rfl rfl (by kernel_rfl) (fun _ _ _ h => h) (Or.inr ⟨by first | rfl | (simp only [Int.natCast_zero, Int.lt_irrefl, decide_false]; rfl), by rfl⟩) hS ?_
            simp only [List.setIfInBounds_toArray, List.set_cons_zero, List.set_cons_succ]
            refine wpAnyH_takes (i := 5) (d := 23) (v := undef) rfl rfl (by kernel_rfl) (fun _ _ _ h => h) (Or.inr ⟨by first | rfl | (simp only [Int.natCast_zero, Int.lt_irrefl, decide_false]; rfl), by rfl⟩) hS ?_
            simp only [List.setIfInBounds_toArray, List.set_cons_zero, List.set_cons_succ]
            refine wpAnyH_takes (i := 6) (d := 24) (v := undef) rfl rfl (by kernel_rfl) (fun _ _ _ h => h) (Or.inr ⟨by first | rfl | (simp only [Int.natCast_zero, Int.lt_irrefl, decide_false]; rfl), by rfl⟩) hS ?_
            simp only [List.setIfInBounds_toArray, List.set_cons_zero, List.set_cons_succ]
            refine wpAnyH_takes (i := 7) (d := 25) (v := undef) rfl rfl (by kernel_rfl) (fun _ _ _ h => h) (Or.inr ⟨by first | rfl | (simp only [Int.natCast_zero, Int.lt_irrefl, decide_false]; rfl), by rfl⟩) hS ?_
            simp only [List.setIfInBounds_toArray, List.set_cons_zero, List.set_cons_succ]
            refine wpAnyH_takes (i := 8) (d := 26) (v := undef) rfl rfl (by kernel_rfl) (fun _ _ _ h => h) (Or.inr ⟨by first | rfl | (simp only [Int.natCast_zero, Int.lt_irrefl, decide_false]; rfl), by rfl⟩) hS ?_
            simp only [List.setIfInBounds_toArray, List.set_cons_zero, List.set_cons_succ]
            refine wpAnyH_takes (i := 9) (d := 27) (v := undef) rfl rfl (by kernel_rfl) (fun _ _ _ h => h) (Or.inr ⟨by first | rfl | (simp only [Int.natCast_zero, Int.lt_irrefl, decide_false]; rfl), by rfl⟩) hS ?_
            simp only [List.setIfInBounds_toArray, List.set_cons_zero, List.set_cons_succ]
            refine wpAnyH_takes (i := 10) (d := 28) (v := undef) rfl rfl (by kernel_rfl) (fun _ _ _ h => h) (Or.inr ⟨by first | rfl | (simp only [Int.natCast_zero, Int.lt_irrefl, decide_false]; rfl), by rfl⟩) hS ?_
            simp only [List.setIfInBounds_toArray, List.set_cons_zero, List.set_cons_succ]
            refine wpAnyH_takes (i := 11) (d := 29) (v := undef) rfl rfl (by kernel_rfl) (fun _ _ _ h => h) (Or.inr ⟨by first | rfl | (simp only [Int.natCast_zero, Int.lt_irrefl, decide_false]; rfl), by rfl⟩) hS ?_
            simp only [List.setIfInBounds_toArray, List.set_cons_zero, List.set_cons_succ]
            refine wpAnyH_takes (i := 12) (d := 30) (v := ?_) rfl rfl (by kernel_rfl) (fun _ _ _ h => h) (Or.inl ⟨by rfl, ?_⟩) hS ?_
            rotate_left
            · intro wq hq; (try dsimp only at hq); (try obtain ⟨hq1, hq2, hq3, hq4, hq5, hq6, hq7, hq8, hq9⟩ := hq); go_simp; try with_reducible rfl
            simp only [List.setIfInBounds_toArray, List.set_cons_zero, List.set_cons_succ]
            refine wpAnyH_takes (i := 13) (d := 31) (v := ?_) rfl rfl (by kernel_rfl) (fun _ _ _ h => h) (Or.inl ⟨by rfl, ?_⟩) hS ?_
            rotate_left
            · intro wq hq; (try dsimp only at hq); (try obtain ⟨hq1, hq2, hq3, hq4, hq5, hq6, hq7, hq8, hq9⟩ := hq); go_simp; try with_reducible rfl
            simp only [List.setIfInBounds_toArray, List.set_cons_zero, List.set_cons_succ]
            refine wpAnyH_takes (i := 14) (d := 32) (v := undef) rfl rfl (by kernel_rfl) (fun _ _ _ h => h) (Or.inr ⟨by first | rfl | (simp only [Int.natCast_zero, Int.lt_irrefl, decide_false]; rfl), by rfl⟩) hS ?_
            simp only [List.setIfInBounds_toArray, List.set_cons_zero, List.set_cons_succ]
            refine wpAnyH_takes (i := 15) (d := 33) (v := undef) rfl rfl (by kernel_rfl) (fun _ _ _ h => h) (Or.inr ⟨by first | rfl | (simp only [Int.natCast_zero, Int.lt_irrefl, decide_false]; rfl), by rfl⟩) hS ?_
            simp only [List.setIfInBounds_toArray, List.set_cons_zero, List.set_cons_succ]
            refine wpAnyH_takes (i := 16) (d := 34) (v := undef) rfl rfl (by kernel_rfl) (fun _ _ _ h => h) (Or.inr ⟨by first | rfl | (simp only [Int.natCast_zero, Int.lt_irrefl, decide_false]; rfl), by rfl⟩) hS ?_
            simp only [List.setIfInBounds_toArray, List.set_cons_zero, List.set_cons_succ]
            refine wpAnyH_takes (i := 17) (d := 35) (v := undef) rfl rfl (by kernel_rfl) (fun _ _ _ h => h) (Or.inr ⟨by first | rfl | (simp only [Int.natCast_zero, Int.lt_irrefl, decide_false]; rfl), by rfl⟩) hS ?_
            simp only [List.setIfInBounds_toArray, List.set_cons_zero, List.set_cons_succ]
            refine wpAnyH_takes (i := 18) (d := 36) (v := undef) rfl rfl (by kernel_rfl) (fun _ _ _ h => h) (Or.inr ⟨by first | rfl | (simp only [Int.natCast_zero, Int.lt_irrefl, decide_false]; rfl), by rfl⟩) hS ?_
            simp only [List.setIfInBounds_toArray, List.set_cons_zero, List.set_cons_succ]
            refine wpAnyH_takes (i := 19) (d := 37) (v := undef) rfl rfl (by kernel_rfl) (fun _ _ _ h => h) (Or.inr ⟨by first | rfl | (simp only [Int.natCast_zero, Int.lt_irrefl, decide_false]; rfl), by rfl⟩) hS ?_
            simp only [List.setIfInBounds_toArray, List.set_cons_zero, List.set_cons_succ]
            refine wpAnyH_takes (i := 20) (d := 38) (v := undef) rfl rfl (by kernel_rfl) (fun _ _ _ h => h) (Or.inr ⟨by first | rfl | (simp only [Int.natCast_zero, Int.lt_irrefl, decide_false]; rfl), by rfl⟩) hS ?_
            simp only [List.setIfInBounds_toArray, List.set_cons_zero, List.set_cons_succ]
            refine wpAnyH_takes (i := 21) (d := 39) (v := undef) rfl rfl (by kernel_rfl) (fun _ _ _ h => h) (Or.inr ⟨by first | rfl | (simp only [Int.natCast_zero, Int.lt_irrefl, decide_false]; rfl), by rfl⟩) hS ?_
            simp only [List.setIfInBounds_toArray, List.set_cons_zero, List.set_cons_succ]
            refine wpAnyH_takes (i := 22) (d := 40) (v := undef) rfl rfl (by kernel_rfl) (fun _ _ _ h => h) (Or.inr ⟨by first | rfl | (simp only [Int.natCast_zero, Int.lt_irrefl, decide_false]; rfl), by rfl⟩) hS ?_
            simp only [List.setIfInBounds_toArray, List.set_cons_zero, List.set_cons_succ]
            refine wpAnyH_takes (i := 23) (d := 41) (v := undef) rfl rfl (by kernel_rfl) (fun _ _ _ h => h) (Or.inr ⟨by first | rfl | (simp only [Int.natCast_zero, Int.lt_irrefl, decide_false]; rfl), by rfl⟩) hS ?_
            simp only [List.setIfInBounds_toArray, List.set_cons_zero, List.set_cons_succ]
            refine wpAnyH_takes (i := 24) (d := 42) (v := ?_) rfl rfl (by kernel_rfl) (fun _ _ _ h => h) (Or.inl ⟨by rfl, ?_⟩) hS ?_
            rotate_left
            · intro wq hq; (try dsimp only at hq); (try obtain ⟨hq1, hq2, hq3, hq4, hq5, hq6, hq7, hq8, hq9⟩ := hq); go_simp; try with_reducible rfl
            simp only [List.setIfInBounds_toArray, List.set_cons_zero, List.set_cons_succ]
            refine wpAnyH_done (by kernel_rfl) ?_ _
            go_wp2
            go_meet
            exact ⟨ret_v (by unfold joinsL; simp), below_drewN0 wr 1⟩
-- ENDA
          · have hn0 : (0 : Int) < out.length := by omega
            have hnn : 0 < out.length := by omega
            have hn1 : (out.length : Int) - 1 = (out.length - 1 : Nat) := by omega
            have ew3 : IntKind.i64.wrap ((out.length : Int) - 1) = (out.length - 1 : Nat) := (IntWalk.i64_in _ (by omega)).trans (by omega)
            have ew4 : IntKind.i64.wrap ((out.length - 1 : Nat) : Int) = (out.length - 1 : Nat) := IntWalk.i64_in _ (by omega)
            have ew5 : IntKind.i64.wrap ((p - 1 : Nat) : Int) = (p - 1 : Nat) := IntWalk.i64_in _ (by omega)
            have ew6 : IntKind.i64.wrap (p : Int) = p := IntWalk.i64_in _ (by omega)
            have hn2 : (0 : Int) ≤ (out.length - 1 : Nat) := by omega
            have hn3 : ((out.length - 1 : Nat) : Int) < out.length := by omega
            have hn4 : (0 : Int) ≤ (p - 1 : Nat) := by omega
            have hn5 : ((p - 1 : Nat) : Int) < 512 := by omega
            obtain ⟨g, rfl⟩ : ∃ g, A = some ⟨g, 0, none⟩ := by
              cases A with
              | none => exact absurd (own_none HO.out).1 hn
              | some a => obtain ⟨g, rfl⟩ := own_someG HO.out; exact ⟨g, rfl⟩
            obtain ⟨b, hb⟩ : ∃ b, out[out.length - 1]? = some b := ⟨_, List.getElem?_eq_getElem (by omega)⟩
            have hlast : lastOf out = b := by unfold lastOf; rw [List.getD_eq_getElem?_getD, hb]; rfl
            obtain ⟨lstop, hls⟩ : ∃ l, b.stop = l := ⟨_, rfl⟩
            have HQ1 := Lib.hid (show (lastOf out).stop = lstop by rw [hlast, hls])
            have HQ2 := Lib.hid HY.out
            have hgl := ownsRow_blockLt HO.out g (by simp [blockOf])
            have hlc := (last_cell HO.out hb).1
            rw [hls] at hlc
            obtain ⟨pb, hpb⟩ := HPV.out
            obtain ⟨-, r1, r2, r3, r4⟩ := spc_five HS.out (p := p - 1) (by omega) hpb
            have HQS := Lib.hid (fun (z : World) (hb : Below wr.heap.size wr z) => (show z.cell? ⟨g, (out.length - 1) * 6 + 1, none⟩ = some (.int .i64 lstop) ∧ z.cell? ⟨sb, (p - 1) * 5 + 1, none⟩ = some (.int .i64 y0) ∧ z.cell? ⟨sb, (p - 1) * 5 + 2, none⟩ = some (.bool y1) ∧ z.cell? ⟨sb, (p - 1) * 5 + 3, none⟩ = some (.int .i64 y2) ∧ z.cell? ⟨sb, (p - 1) * 5 + 4, none⟩ = some (.int .i64 y3) ∧ z.cell? ⟨sb, p * 5 + 1, none⟩ = some (.int .i64 x0) ∧ z.cell? ⟨sb, p * 5 + 2, none⟩ = some (.bool x1) ∧ z.cell? ⟨sb, p * 5 + 3, none⟩ = some (.int .i64 x2) ∧ z.cell? ⟨sb, p * 5 + 4, none⟩ = some (.int .i64 x3) from
              have e := fun (o : Nat) => hb.cell (p := ⟨sb, o, none⟩) HSZ.out
              ⟨(hb.cell (p := ⟨g, (out.length - 1) * 6 + 1, none⟩) hgl).trans hlc, (e _).trans r1, (e _).trans r2, (e _).trans r3, (e _).trans r4, (e _).trans m1, (e _).trans m2, (e _).trans m3, (e _).trans m4⟩))
            clear m0 m1 m2 m3 m4 r1 r2 r3 r4 hlc hb hlast hls hpb
            by_cases hq : lstop = 4096 * (p : Int)
            · have hqb : (lstop == 4096 * (p : Int)) = true := by rw [beq_iff_eq]; exact hq
-- MARKB
              refine wp_region_H (fun z => z.cell? ⟨g, (out.length - 1) * 6 + 1, none⟩ = some (.int .i64 lstop) ∧ z.cell? ⟨sb, (p - 1) * 5 + 1, none⟩ = some (.int .i64 y0) ∧ z.cell? ⟨sb, (p - 1) * 5 + 2, none⟩ = some (.bool y1) ∧ z.cell? ⟨sb, (p - 1) * 5 + 3, none⟩ = some (.int .i64 y2) ∧ z.cell? ⟨sb, (p - 1) * 5 + 4, none⟩ = some (.int .i64 y3) ∧ z.cell? ⟨sb, p * 5 + 1, none⟩ = some (.int .i64 x0) ∧ z.cell? ⟨sb, p * 5 + 2, none⟩ = some (.bool x1) ∧ z.cell? ⟨sb, p * 5 + 3, none⟩ = some (.int .i64 x2) ∧ z.cell? ⟨sb, p * 5 + 4, none⟩ = some (.int .i64 x3)) 25 (by rfl) (by kernel_rfl) ?_
              have hS : (fun z : World => z.cell? ⟨g, (out.length - 1) * 6 + 1, none⟩ = some (.int .i64 lstop) ∧ z.cell? ⟨sb, (p - 1) * 5 + 1, none⟩ = some (.int .i64 y0) ∧ z.cell? ⟨sb, (p - 1) * 5 + 2, none⟩ = some (.bool y1) ∧ z.cell? ⟨sb, (p - 1) * 5 + 3, none⟩ = some (.int .i64 y2) ∧ z.cell? ⟨sb, (p - 1) * 5 + 4, none⟩ = some (.int .i64 y3) ∧ z.cell? ⟨sb, p * 5 + 1, none⟩ = some (.int .i64 x0) ∧ z.cell? ⟨sb, p * 5 + 2, none⟩ = some (.bool x1) ∧ z.cell? ⟨sb, p * 5 + 3, none⟩ = some (.int .i64 x2) ∧ z.cell? ⟨sb, p * 5 + 4, none⟩ = some (.int .i64 x3)) wr.drew := HQS.out wr.drew (below_drewN0 wr 1)
              try simp only [Array.replicate, List.replicate, List.setIfInBounds_toArray]
              refine wpAnyH_takes (i := 0) (d := 18) (v := ?_) rfl rfl (by kernel_rfl) (fun _ _ _ h => h) (Or.inl ⟨by rfl, ?_⟩) hS ?_
              rotate_left
              · intro wq hq; (try dsimp only at hq); (try obtain ⟨hq1, hq2, hq3, hq4, hq5, hq6, hq7, hq8, hq9⟩ := hq); go_simp; try with_reducible rfl
              simp only [List.setIfInBounds_toArray, List.set_cons_zero, List.set_cons_succ]
              refine wpAnyH_takes (i := 1) (d := 19) (v := ?_) rfl rfl (by kernel_rfl) (fun _ _ _ h => h) (Or.inl ⟨by rfl, ?_⟩) hS ?_
              rotate_left
              · intro wq hq; (try dsimp only at hq); (try obtain ⟨hq1, hq2, hq3, hq4, hq5, hq6, hq7, hq8, hq9⟩ := hq); go_simp; try with_reducible rfl
              simp only [List.setIfInBounds_toArray, List.set_cons_zero, List.set_cons_succ]
              refine wpAnyH_takes (i := 2) (d := 20) (v := ?_) rfl rfl (by kernel_rfl) (fun _ _ _ h => h) (Or.inl ⟨by rfl, ?_⟩) hS ?_
              rotate_left
              · intro wq hq; (try dsimp only at hq); (try obtain ⟨hq1, hq2, hq3, hq4, hq5, hq6, hq7, hq8, hq9⟩ := hq); go_simp; try with_reducible rfl
              simp only [List.setIfInBounds_toArray, List.set_cons_zero, List.set_cons_succ]
              refine wpAnyH_takes (i := 3) (d := 21) (v := ?_) rfl rfl (by kernel_rfl) (fun _ _ _ h => h) (Or.inl ⟨by rfl, ?_⟩) hS ?_
              rotate_left
              · intro wq hq; (try dsimp only at hq); (try obtain ⟨hq1, hq2, hq3, hq4, hq5, hq6, hq7, hq8, hq9⟩ := hq); go_simp; try with_reducible rfl
              simp only [List.setIfInBounds_toArray, List.set_cons_zero, List.set_cons_succ]
              refine wpAnyH_takes (i := 4) (d := 22) (v := ?_) rfl rfl (by kernel_rfl) (fun _ _ _ h => h) (Or.inl ⟨by rfl, ?_⟩) hS ?_
              rotate_left
              · intro wq hq; (try dsimp only at hq); (try obtain ⟨hq1, hq2, hq3, hq4, hq5, hq6, hq7, hq8, hq9⟩ := hq); go_simp; try with_reducible rfl
              simp only [List.setIfInBounds_toArray, List.set_cons_zero, List.set_cons_succ]
              refine wpAnyH_takes (i := 5) (d := 23) (v := ?_) rfl rfl (by kernel_rfl) (fun _ _ _ h => h) (Or.inl ⟨by rfl, ?_⟩) hS ?_
              rotate_left
              · intro wq hq; (try dsimp only at hq); (try obtain ⟨hq1, hq2, hq3, hq4, hq5, hq6, hq7, hq8, hq9⟩ := hq); go_simp; try with_reducible rfl
              simp only [List.setIfInBounds_toArray, List.set_cons_zero, List.set_cons_succ]
              refine wpAnyH_takes (i := 6) (d := 24) (v := ?_) rfl rfl (by kernel_rfl) (fun _ _ _ h => h) (Or.inl ⟨by rfl, ?_⟩) hS ?_
              rotate_left
              · intro wq hq; (try dsimp only at hq); (try obtain ⟨hq1, hq2, hq3, hq4, hq5, hq6, hq7, hq8, hq9⟩ := hq); go_simp; try with_reducible rfl
              simp only [List.setIfInBounds_toArray, List.set_cons_zero, List.set_cons_succ]
              refine wpAnyH_takes (i := 7) (d := 25) (v := ?_) rfl rfl (by kernel_rfl) (fun _ _ _ h => h) (Or.inl ⟨by rfl, ?_⟩) hS ?_
              rotate_left
              · intro wq hq; (try dsimp only at hq); (try obtain ⟨hq1, hq2, hq3, hq4, hq5, hq6, hq7, hq8, hq9⟩ := hq); go_simp; try with_reducible rfl
              simp only [List.setIfInBounds_toArray, List.set_cons_zero, List.set_cons_succ]
              refine wpAnyH_takes (i := 8) (d := 26) (v := ?_) rfl rfl (by kernel_rfl) (fun _ _ _ h => h) (Or.inl ⟨by rfl, ?_⟩) hS ?_
              rotate_left
              · intro wq hq; (try dsimp only at hq); (try obtain ⟨hq1, hq2, hq3, hq4, hq5, hq6, hq7, hq8, hq9⟩ := hq); go_simp; try with_reducible rfl
              simp only [List.setIfInBounds_toArray, List.set_cons_zero, List.set_cons_succ]
              refine wpAnyH_takes (i := 9) (d := 27) (v := ?_) rfl rfl (by kernel_rfl) (fun _ _ _ h => h) (Or.inl ⟨by rfl, ?_⟩) hS ?_
              rotate_left
              · intro wq hq; (try dsimp only at hq); (try obtain ⟨hq1, hq2, hq3, hq4, hq5, hq6, hq7, hq8, hq9⟩ := hq); go_simp; try with_reducible rfl
              simp only [List.setIfInBounds_toArray, List.set_cons_zero, List.set_cons_succ]
              refine wpAnyH_takes (i := 10) (d := 28) (v := ?_) rfl rfl (by kernel_rfl) (fun _ _ _ h => h) (Or.inl ⟨by rfl, ?_⟩) hS ?_
              rotate_left
              · intro wq hq; (try dsimp only at hq); (try obtain ⟨hq1, hq2, hq3, hq4, hq5, hq6, hq7, hq8, hq9⟩ := hq); go_simp; try with_reducible rfl
              simp only [List.setIfInBounds_toArray, List.set_cons_zero, List.set_cons_succ]
              refine wpAnyH_takes (i := 11) (d := 29) (v := ?_) rfl rfl (by kernel_rfl) (fun _ _ _ h => h) (Or.inl ⟨by rfl, ?_⟩) hS ?_
              rotate_left
              · intro wq hq; (try dsimp only at hq); (try obtain ⟨hq1, hq2, hq3, hq4, hq5, hq6, hq7, hq8, hq9⟩ := hq); go_simp; try with_reducible rfl
              simp only [List.setIfInBounds_toArray, List.set_cons_zero, List.set_cons_succ]
              refine wpAnyH_takes (i := 12) (d := 30) (v := ?_) rfl rfl (by kernel_rfl) (fun _ _ _ h => h) (Or.inl ⟨by rfl, ?_⟩) hS ?_
              rotate_left
              · intro wq hq; (try dsimp only at hq); (try obtain ⟨hq1, hq2, hq3, hq4, hq5, hq6, hq7, hq8, hq9⟩ := hq); go_simp; try with_reducible rfl
              simp only [List.setIfInBounds_toArray, List.set_cons_zero, List.set_cons_succ]
              refine wpAnyH_takes (i := 13) (d := 31) (v := ?_) rfl rfl (by kernel_rfl) (fun _ _ _ h => h) (Or.inl ⟨by rfl, ?_⟩) hS ?_
              rotate_left
              · intro wq hq; (try dsimp only at hq); (try obtain ⟨hq1, hq2, hq3, hq4, hq5, hq6, hq7, hq8, hq9⟩ := hq); go_simp; try with_reducible rfl
              simp only [List.setIfInBounds_toArray, List.set_cons_zero, List.set_cons_succ]
              refine wpAnyH_takes (i := 14) (d := 32) (v := ?_) rfl rfl (by kernel_rfl) (fun _ _ _ h => h) (Or.inl ⟨by rfl, ?_⟩) hS ?_
              rotate_left
              · intro wq hq; (try dsimp only at hq); (try obtain ⟨hq1, hq2, hq3, hq4, hq5, hq6, hq7, hq8, hq9⟩ := hq); go_simp; try with_reducible rfl
              simp only [List.setIfInBounds_toArray, List.set_cons_zero, List.set_cons_succ]
              refine wpAnyH_takes (i := 15) (d := 33) (v := ?_) rfl rfl (by kernel_rfl) (fun _ _ _ h => h) (Or.inl ⟨by rfl, ?_⟩) hS ?_
              rotate_left
              · intro wq hq; (try dsimp only at hq); (try obtain ⟨hq1, hq2, hq3, hq4, hq5, hq6, hq7, hq8, hq9⟩ := hq); go_simp; try with_reducible rfl
              simp only [List.setIfInBounds_toArray, List.set_cons_zero, List.set_cons_succ]
              refine wpAnyH_takes (i := 16) (d := 34) (v := ?_) rfl rfl (by kernel_rfl) (fun _ _ _ h => h) (Or.inl ⟨by rfl, ?_⟩) hS ?_
              rotate_left
              · intro wq hq; (try dsimp only at hq); (try obtain ⟨hq1, hq2, hq3, hq4, hq5, hq6, hq7, hq8, hq9⟩ := hq); go_simp; try with_reducible rfl
              simp only [List.setIfInBounds_toArray, List.set_cons_zero, List.set_cons_succ]
              refine wpAnyH_takes (i := 17) (d := 35) (v := ?_) rfl rfl (by kernel_rfl) (fun _ _ _ h => h) (Or.inl ⟨by rfl, ?_⟩) hS ?_
              rotate_left
              · intro wq hq; (try dsimp only at hq); (try obtain ⟨hq1, hq2, hq3, hq4, hq5, hq6, hq7, hq8, hq9⟩ := hq); go_simp; try with_reducible rfl
              simp only [List.setIfInBounds_toArray, List.set_cons_zero, List.set_cons_succ]
              refine wpAnyH_takes (i := 18) (d := 36) (v := ?_) rfl rfl (by kernel_rfl) (fun _ _ _ h => h) (Or.inl ⟨by rfl, ?_⟩) hS ?_
              rotate_left
              · intro wq hq; (try dsimp only at hq); (try obtain ⟨hq1, hq2, hq3, hq4, hq5, hq6, hq7, hq8, hq9⟩ := hq); go_simp; try with_reducible rfl
              simp only [List.setIfInBounds_toArray, List.set_cons_zero, List.set_cons_succ]
              refine wpAnyH_takes (i := 19) (d := 37) (v := ?_) rfl rfl (by kernel_rfl) (fun _ _ _ h => h) (Or.inl ⟨by rfl, ?_⟩) hS ?_
              rotate_left
              · intro wq hq; (try dsimp only at hq); (try obtain ⟨hq1, hq2, hq3, hq4, hq5, hq6, hq7, hq8, hq9⟩ := hq); go_simp; try with_reducible rfl
              simp only [List.setIfInBounds_toArray, List.set_cons_zero, List.set_cons_succ]
              refine wpAnyH_takes (i := 20) (d := 38) (v := ?_) rfl rfl (by kernel_rfl) (fun _ _ _ h => h) (Or.inl ⟨by rfl, ?_⟩) hS ?_
              rotate_left
              · intro wq hq; (try dsimp only at hq); (try obtain ⟨hq1, hq2, hq3, hq4, hq5, hq6, hq7, hq8, hq9⟩ := hq); go_simp; try with_reducible rfl
              simp only [List.setIfInBounds_toArray, List.set_cons_zero, List.set_cons_succ]
              refine wpAnyH_takes (i := 21) (d := 39) (v := ?_) rfl rfl (by kernel_rfl) (fun _ _ _ h => h) (Or.inl ⟨by rfl, ?_⟩) hS ?_
              rotate_left
              · intro wq hq; (try dsimp only at hq); (try obtain ⟨hq1, hq2, hq3, hq4, hq5, hq6, hq7, hq8, hq9⟩ := hq); go_simp; try with_reducible rfl
              simp only [List.setIfInBounds_toArray, List.set_cons_zero, List.set_cons_succ]
              refine wpAnyH_takes (i := 22) (d := 40) (v := ?_) rfl rfl (by kernel_rfl) (fun _ _ _ h => h) (Or.inl ⟨by rfl, ?_⟩) hS ?_
              rotate_left
              · intro wq hq; (try dsimp only at hq); (try obtain ⟨hq1, hq2, hq3, hq4, hq5, hq6, hq7, hq8, hq9⟩ := hq); go_simp; try with_reducible rfl
              simp only [List.setIfInBounds_toArray, List.set_cons_zero, List.set_cons_succ]
              refine wpAnyH_one (i := 23) (by kernel_rfl) rfl (by rfl) (fun K hK => ?_)
              simp only [List.getElem_toArray, List.getElem_cons_succ, List.getElem_cons_zero]
              go_simp
              refine (HAF.out _).mono ?_
              rintro e wb ⟨rfl, hb⟩
              have HQ := Lib.hid (below_thru (below_drewN0 wr 1) hb)
              clear hb
              refine hK.out _ _ (HQS.out wb HQ.out) ?_
              clear hK K hS
              have hS := (HQS.out wb HQ.out)
              try simp only [Act.put, List.setIfInBounds_toArray, List.set_cons_zero, List.set_cons_succ]
              refine wpAnyH_takes (i := 24) (d := 42) (v := ?_) rfl rfl (by kernel_rfl) (fun _ _ _ h => h) (Or.inl ⟨by rfl, ?_⟩) hS ?_
              rotate_left
              · intro wq hq; (try dsimp only at hq); (try obtain ⟨hq1, hq2, hq3, hq4, hq5, hq6, hq7, hq8, hq9⟩ := hq); go_simp; try with_reducible rfl
              simp only [List.setIfInBounds_toArray, List.set_cons_zero, List.set_cons_succ]
              refine wpAnyH_done (by kernel_rfl) ?_ _
              go_wp2
              go_meet
              exact ⟨ret_v (by unfold joinsL; rw [HQ1.out, HQ2.out, hqb, decide_eq_true hnn]; first | rfl | simp), HQ.out⟩
-- ENDB
            · have hqb : (lstop == 4096 * (p : Int)) = false := by rw [beq_eq_false_iff_ne]; exact hq
-- MARKC
              refine wp_region_H (fun z => z.cell? ⟨g, (out.length - 1) * 6 + 1, none⟩ = some (.int .i64 lstop) ∧ z.cell? ⟨sb, (p - 1) * 5 + 1, none⟩ = some (.int .i64 y0) ∧ z.cell? ⟨sb, (p - 1) * 5 + 2, none⟩ = some (.bool y1) ∧ z.cell? ⟨sb, (p - 1) * 5 + 3, none⟩ = some (.int .i64 y2) ∧ z.cell? ⟨sb, (p - 1) * 5 + 4, none⟩ = some (.int .i64 y3) ∧ z.cell? ⟨sb, p * 5 + 1, none⟩ = some (.int .i64 x0) ∧ z.cell? ⟨sb, p * 5 + 2, none⟩ = some (.bool x1) ∧ z.cell? ⟨sb, p * 5 + 3, none⟩ = some (.int .i64 x2) ∧ z.cell? ⟨sb, p * 5 + 4, none⟩ = some (.int .i64 x3)) 25 (by rfl) (by kernel_rfl) ?_
              have hS : (fun z : World => z.cell? ⟨g, (out.length - 1) * 6 + 1, none⟩ = some (.int .i64 lstop) ∧ z.cell? ⟨sb, (p - 1) * 5 + 1, none⟩ = some (.int .i64 y0) ∧ z.cell? ⟨sb, (p - 1) * 5 + 2, none⟩ = some (.bool y1) ∧ z.cell? ⟨sb, (p - 1) * 5 + 3, none⟩ = some (.int .i64 y2) ∧ z.cell? ⟨sb, (p - 1) * 5 + 4, none⟩ = some (.int .i64 y3) ∧ z.cell? ⟨sb, p * 5 + 1, none⟩ = some (.int .i64 x0) ∧ z.cell? ⟨sb, p * 5 + 2, none⟩ = some (.bool x1) ∧ z.cell? ⟨sb, p * 5 + 3, none⟩ = some (.int .i64 x2) ∧ z.cell? ⟨sb, p * 5 + 4, none⟩ = some (.int .i64 x3)) wr.drew := HQS.out wr.drew (below_drewN0 wr 1)
              try simp only [Array.replicate, List.replicate, List.setIfInBounds_toArray]
              refine wpAnyH_takes (i := 0) (d := 18) (v := ?_) rfl rfl (by kernel_rfl) (fun _ _ _ h => h) (Or.inl ⟨by rfl, ?_⟩) hS ?_
              rotate_left
              · intro wq hq; (try dsimp only at hq); (try obtain ⟨hq1, hq2, hq3, hq4, hq5, hq6, hq7, hq8, hq9⟩ := hq); go_simp; try with_reducible rfl
              simp only [List.setIfInBounds_toArray, List.set_cons_zero, List.set_cons_succ]
              refine wpAnyH_takes (i := 1) (d := 19) (v := ?_) rfl rfl (by kernel_rfl) (fun _ _ _ h => h) (Or.inl ⟨by rfl, ?_⟩) hS ?_
              rotate_left
              · intro wq hq; (try dsimp only at hq); (try obtain ⟨hq1, hq2, hq3, hq4, hq5, hq6, hq7, hq8, hq9⟩ := hq); go_simp; try with_reducible rfl
              simp only [List.setIfInBounds_toArray, List.set_cons_zero, List.set_cons_succ]
              refine wpAnyH_takes (i := 2) (d := 20) (v := ?_) rfl rfl (by kernel_rfl) (fun _ _ _ h => h) (Or.inl ⟨by rfl, ?_⟩) hS ?_
              rotate_left
              · intro wq hq; (try dsimp only at hq); (try obtain ⟨hq1, hq2, hq3, hq4, hq5, hq6, hq7, hq8, hq9⟩ := hq); go_simp; try with_reducible rfl
              simp only [List.setIfInBounds_toArray, List.set_cons_zero, List.set_cons_succ]
              refine wpAnyH_takes (i := 3) (d := 21) (v := ?_) rfl rfl (by kernel_rfl) (fun _ _ _ h => h) (Or.inl ⟨by rfl, ?_⟩) hS ?_
              rotate_left
              · intro wq hq; (try dsimp only at hq); (try obtain ⟨hq1, hq2, hq3, hq4, hq5, hq6, hq7, hq8, hq9⟩ := hq); go_simp; try with_reducible rfl
              simp only [List.setIfInBounds_toArray, List.set_cons_zero, List.set_cons_succ]
              refine wpAnyH_takes (i := 4) (d := 22) (v := ?_) rfl rfl (by kernel_rfl) (fun _ _ _ h => h) (Or.inl ⟨by rfl, ?_⟩) hS ?_
              rotate_left
              · intro wq hq; (try dsimp only at hq); (try obtain ⟨hq1, hq2, hq3, hq4, hq5, hq6, hq7, hq8, hq9⟩ := hq); go_simp; try with_reducible rfl
              simp only [List.setIfInBounds_toArray, List.set_cons_zero, List.set_cons_succ]
              refine wpAnyH_takes (i := 5) (d := 23) (v := ?_) rfl rfl (by kernel_rfl) (fun _ _ _ h => h) (Or.inl ⟨by rfl, ?_⟩) hS ?_
              rotate_left
              · intro wq hq; (try dsimp only at hq); (try obtain ⟨hq1, hq2, hq3, hq4, hq5, hq6, hq7, hq8, hq9⟩ := hq); go_simp; try with_reducible rfl
              simp only [List.setIfInBounds_toArray, List.set_cons_zero, List.set_cons_succ]
              refine wpAnyH_takes (i := 6) (d := 24) (v := ?_) rfl rfl (by kernel_rfl) (fun _ _ _ h => h) (Or.inl ⟨by rfl, ?_⟩) hS ?_
              rotate_left
              · intro wq hq; (try dsimp only at hq); (try obtain ⟨hq1, hq2, hq3, hq4, hq5, hq6, hq7, hq8, hq9⟩ := hq); go_simp; try with_reducible rfl
              simp only [List.setIfInBounds_toArray, List.set_cons_zero, List.set_cons_succ]
              refine wpAnyH_takes (i := 7) (d := 25) (v := ?_) rfl rfl (by kernel_rfl) (fun _ _ _ h => h) (Or.inl ⟨by rfl, ?_⟩) hS ?_
              rotate_left
              · intro wq hq; (try dsimp only at hq); (try obtain ⟨hq1, hq2, hq3, hq4, hq5, hq6, hq7, hq8, hq9⟩ := hq); go_simp; try with_reducible rfl
              simp only [List.setIfInBounds_toArray, List.set_cons_zero, List.set_cons_succ]
              refine wpAnyH_takes (i := 8) (d := 26) (v := ?_) rfl rfl (by kernel_rfl) (fun _ _ _ h => h) (Or.inl ⟨by rfl, ?_⟩) hS ?_
              rotate_left
              · intro wq hq; (try dsimp only at hq); (try obtain ⟨hq1, hq2, hq3, hq4, hq5, hq6, hq7, hq8, hq9⟩ := hq); go_simp; try with_reducible rfl
              simp only [List.setIfInBounds_toArray, List.set_cons_zero, List.set_cons_succ]
              refine wpAnyH_takes (i := 9) (d := 27) (v := ?_) rfl rfl (by kernel_rfl) (fun _ _ _ h => h) (Or.inl ⟨by rfl, ?_⟩) hS ?_
              rotate_left
              · intro wq hq; (try dsimp only at hq); (try obtain ⟨hq1, hq2, hq3, hq4, hq5, hq6, hq7, hq8, hq9⟩ := hq); go_simp; try with_reducible rfl
              simp only [List.setIfInBounds_toArray, List.set_cons_zero, List.set_cons_succ]
              refine wpAnyH_takes (i := 10) (d := 28) (v := ?_) rfl rfl (by kernel_rfl) (fun _ _ _ h => h) (Or.inl ⟨by rfl, ?_⟩) hS ?_
              rotate_left
              · intro wq hq; (try dsimp only at hq); (try obtain ⟨hq1, hq2, hq3, hq4, hq5, hq6, hq7, hq8, hq9⟩ := hq); go_simp; try with_reducible rfl
              simp only [List.setIfInBounds_toArray, List.set_cons_zero, List.set_cons_succ]
              refine wpAnyH_takes (i := 11) (d := 29) (v := ?_) rfl rfl (by kernel_rfl) (fun _ _ _ h => h) (Or.inl ⟨by rfl, ?_⟩) hS ?_
              rotate_left
              · intro wq hq; (try dsimp only at hq); (try obtain ⟨hq1, hq2, hq3, hq4, hq5, hq6, hq7, hq8, hq9⟩ := hq); go_simp; try with_reducible rfl
              simp only [List.setIfInBounds_toArray, List.set_cons_zero, List.set_cons_succ]
              refine wpAnyH_takes (i := 12) (d := 30) (v := ?_) rfl rfl (by kernel_rfl) (fun _ _ _ h => h) (Or.inl ⟨by rfl, ?_⟩) hS ?_
              rotate_left
              · intro wq hq; (try dsimp only at hq); (try obtain ⟨hq1, hq2, hq3, hq4, hq5, hq6, hq7, hq8, hq9⟩ := hq); go_simp; try with_reducible rfl
              simp only [List.setIfInBounds_toArray, List.set_cons_zero, List.set_cons_succ]
              refine wpAnyH_takes (i := 13) (d := 31) (v := ?_) rfl rfl (by kernel_rfl) (fun _ _ _ h => h) (Or.inl ⟨by rfl, ?_⟩) hS ?_
              rotate_left
              · intro wq hq; (try dsimp only at hq); (try obtain ⟨hq1, hq2, hq3, hq4, hq5, hq6, hq7, hq8, hq9⟩ := hq); go_simp; try with_reducible rfl
              simp only [List.setIfInBounds_toArray, List.set_cons_zero, List.set_cons_succ]
              refine wpAnyH_takes (i := 14) (d := 32) (v := undef) rfl rfl (by kernel_rfl) (fun _ _ _ h => h) (Or.inr ⟨by first | rfl | (simp only [Int.natCast_zero, Int.lt_irrefl, decide_false]; rfl), by rfl⟩) hS ?_
              simp only [List.setIfInBounds_toArray, List.set_cons_zero, List.set_cons_succ]
              refine wpAnyH_takes (i := 15) (d := 33) (v := undef) rfl rfl (by kernel_rfl) (fun _ _ _ h => h) (Or.inr ⟨by first | rfl | (simp only [Int.natCast_zero, Int.lt_irrefl, decide_false]; rfl), by rfl⟩) hS ?_
              simp only [List.setIfInBounds_toArray, List.set_cons_zero, List.set_cons_succ]
              refine wpAnyH_takes (i := 16) (d := 34) (v := undef) rfl rfl (by kernel_rfl) (fun _ _ _ h => h) (Or.inr ⟨by first | rfl | (simp only [Int.natCast_zero, Int.lt_irrefl, decide_false]; rfl), by rfl⟩) hS ?_
              simp only [List.setIfInBounds_toArray, List.set_cons_zero, List.set_cons_succ]
              refine wpAnyH_takes (i := 17) (d := 35) (v := undef) rfl rfl (by kernel_rfl) (fun _ _ _ h => h) (Or.inr ⟨by first | rfl | (simp only [Int.natCast_zero, Int.lt_irrefl, decide_false]; rfl), by rfl⟩) hS ?_
              simp only [List.setIfInBounds_toArray, List.set_cons_zero, List.set_cons_succ]
              refine wpAnyH_takes (i := 18) (d := 36) (v := undef) rfl rfl (by kernel_rfl) (fun _ _ _ h => h) (Or.inr ⟨by first | rfl | (simp only [Int.natCast_zero, Int.lt_irrefl, decide_false]; rfl), by rfl⟩) hS ?_
              simp only [List.setIfInBounds_toArray, List.set_cons_zero, List.set_cons_succ]
              refine wpAnyH_takes (i := 19) (d := 37) (v := undef) rfl rfl (by kernel_rfl) (fun _ _ _ h => h) (Or.inr ⟨by first | rfl | (simp only [Int.natCast_zero, Int.lt_irrefl, decide_false]; rfl), by rfl⟩) hS ?_
              simp only [List.setIfInBounds_toArray, List.set_cons_zero, List.set_cons_succ]
              refine wpAnyH_takes (i := 20) (d := 38) (v := undef) rfl rfl (by kernel_rfl) (fun _ _ _ h => h) (Or.inr ⟨by first | rfl | (simp only [Int.natCast_zero, Int.lt_irrefl, decide_false]; rfl), by rfl⟩) hS ?_
              simp only [List.setIfInBounds_toArray, List.set_cons_zero, List.set_cons_succ]
              refine wpAnyH_takes (i := 21) (d := 39) (v := undef) rfl rfl (by kernel_rfl) (fun _ _ _ h => h) (Or.inr ⟨by first | rfl | (simp only [Int.natCast_zero, Int.lt_irrefl, decide_false]; rfl), by rfl⟩) hS ?_
              simp only [List.setIfInBounds_toArray, List.set_cons_zero, List.set_cons_succ]
              refine wpAnyH_takes (i := 22) (d := 40) (v := undef) rfl rfl (by kernel_rfl) (fun _ _ _ h => h) (Or.inr ⟨by first | rfl | (simp only [Int.natCast_zero, Int.lt_irrefl, decide_false]; rfl), by rfl⟩) hS ?_
              simp only [List.setIfInBounds_toArray, List.set_cons_zero, List.set_cons_succ]
              refine wpAnyH_takes (i := 23) (d := 41) (v := undef) rfl rfl (by kernel_rfl) (fun _ _ _ h => h) (Or.inr ⟨by first | rfl | (simp only [Int.natCast_zero, Int.lt_irrefl, decide_false]; rfl), by rfl⟩) hS ?_
              simp only [List.setIfInBounds_toArray, List.set_cons_zero, List.set_cons_succ]
              refine wpAnyH_takes (i := 24) (d := 42) (v := ?_) rfl rfl (by kernel_rfl) (fun _ _ _ h => h) (Or.inl ⟨by rfl, ?_⟩) hS ?_
              rotate_left
              · intro wq hq; (try dsimp only at hq); (try obtain ⟨hq1, hq2, hq3, hq4, hq5, hq6, hq7, hq8, hq9⟩ := hq); go_simp; try with_reducible rfl
              simp only [List.setIfInBounds_toArray, List.set_cons_zero, List.set_cons_succ]
              refine wpAnyH_done (by kernel_rfl) ?_ _
              go_wp2
              go_meet
              exact ⟨ret_v (by unfold joinsL; rw [HQ1.out, HQ2.out, hqb]; first | rfl | simp), below_drewN0 wr 1⟩
-- ENDC
        case rest =>
          obtain ⟨rfl, hb⟩ := hcut
          generalize wc = w2 at *
          have HOW := Lib.hid (own_lo HO.out)
          replace HO := Lib.hid (ownsRow_upd HO.out (Upd.of_below hb (F := [])) (by simp))
          replace HS := Lib.hid (HS.out.thru hb)
          replace HSZ := Lib.hid (Nat.le_trans HSZ.out hb.size)
          replace HLOW := Lib.hid (below_thru HLOW.out hb)
          have ew1 : IntKind.i64.wrap ((p : Int) + 1) = p + 1 := IntWalk.i64_in _ (by omega)
          have ew2 : IntKind.i64.wrap (4096 * ((p : Int) + 1)) = 4096 * (p + 1) := IntWalk.i64_in _ (by omega)
          have ew3 : IntKind.i64.wrap (4096 * (p : Int)) = 4096 * p := IntWalk.i64_in _ (by omega)
          clear hb m0 m1 m2 m3 m4 HAF HPV HYO
          cases hj : joinsL s out p ⟨x0, x1, x2, x3⟩ with
          | true =>
            rw [hj, if_pos rfl] at HST
            have hn : out.length ≠ 0 := by
              intro h0
              unfold joinsL at hj
              rw [h0] at hj
              simp at hj
            clear hj
            have hnn : 0 < out.length := by omega
            have hn1 : (out.length : Int) - 1 = (out.length - 1 : Nat) := by omega
            have ew4 : IntKind.i64.wrap ((out.length - 1 : Nat) : Int) = (out.length - 1 : Nat) := IntWalk.i64_in _ (by omega)
            have ew5 : IntKind.i64.wrap ((out.length : Int) - 1) = (out.length - 1 : Nat) := (IntWalk.i64_in _ (by omega)).trans (by omega)
            have hn2 : (0 : Int) ≤ (out.length - 1 : Nat) := by omega
            have hn3 : ((out.length - 1 : Nat) : Int) < out.length := by omega
            obtain ⟨g, rfl⟩ : ∃ g, A = some ⟨g, 0, none⟩ := by
              cases A with
              | none => exact absurd (own_none HO.out).1 hn
              | some a => obtain ⟨g, rfl⟩ := own_someG HO.out; exact ⟨g, rfl⟩
            obtain ⟨b, hb⟩ : ∃ b, out[out.length - 1]? = some b := ⟨_, List.getElem?_eq_getElem (by omega)⟩
            have hlast : lastOf out = b := by unfold lastOf; rw [List.getD_eq_getElem?_getD, hb]; rfl
            rw [hlast] at HST
            obtain ⟨l0, lf⟩ := last_cell HO.out hb
            have HO3 := Lib.hid (own_put_flat AreaV.cells_len (x' := { b with stop := 4096 * (p + 1) }) HO.out hb (j := 1) (v := .int .i64 (4096 * (p + 1))) (by omega) rfl)
            have hg := HOW.out g (by simp [blockOf])
            have HU := Lib.hid ((Upd.refl [g] w2).put (p := ⟨g, (out.length - 1) * 6 + 1, none⟩) (.inl (by simp)) (.int .i64 (4096 * ((p : Int) + 1))))
            have HL := Lib.hid (show (listTo s (p + 1)).length = out.length by rw [HST.out, List.length_set])
            have HS3 := Lib.hid (HS.out.upd HU.out (by simp; omega))
            have HB3 := Lib.hid (below_upd HLOW.out HU.out (Nat.le_refl _) (by intro b hb; simp at hb; subst hb; rw [HSB.out]; omega))
            have HZ3 := Lib.hid (Nat.le_trans HSZ.out HU.out.size)
            clear hb hlast HU HOW
            go_wp2
            go_roundw
            case rel => exact ⟨p + 1, some ⟨g, 0, none⟩, c, by omega, by omega, by go_num, by rw [HL.out], by rw [HL.out, HST.out]; exact HO3.out, HS3.out, HZ3.out, HB3.out⟩
            case measure => simp [intOf]; omega
          | false =>
            rw [hj, if_neg (by simp)] at HST
            clear hj
            obtain ⟨-, m1, m2, m3, m4⟩ := spc_five HS.out hlt HPG.out
            simp only at m1 m2 m3 m4
            go_upto_region 10 with fail
            have HO3 := Lib.hid (HO.out.alloc (.cells #[.int .i64 x0, .bool x1, .int .i64 x2, .int .i64 x3] 121))
            have HS3 := Lib.hid (HS.out.thru (below_alloc0 w2 (.cells #[.int .i64 x0, .bool x1, .int .i64 x2, .int .i64 x3] 121)))
            have HB3 := Lib.hid (below_thru HLOW.out (below_alloc0 w2 (.cells #[.int .i64 x0, .bool x1, .int .i64 x2, .int .i64 x3] 121)))
            have HZ3 := Lib.hid (Nat.le_trans HSZ.out (below_alloc0 w2 (.cells #[.int .i64 x0, .bool x1, .int .i64 x2, .int .i64 x3] 121)).size)
            have HN3 := Lib.hid (Blk.new w2 121 #[.int .i64 x0, .bool x1, .int .i64 x2, .int .i64 x3])
            generalize w2.alloc (.cells #[.int .i64 x0, .bool x1, .int .i64 x2, .int .i64 x3] 121) = w3 at *
            generalize w2.heap.size = nb at *
            clear HO HS HSZ HLOW m1 m2 m3 m4
            obtain ⟨k0, k1, k2, k3⟩ := HN3.out.at4
            obtain ⟨i0, hi0, hz0, hz1, hz2⟩ := info_parts info_area
            have HSZ3 := HZ3.out
            have hmx : out.length + 1 ≤ maxLen := by unfold maxLen; omega
            go_wp2_with (at_builtin; refine wpList_append_loc (P := Try.prog) w3 rfl (.tmp 55) (.tmp 70) 22 rfl (sb + 1) 79 i0 _ 6 48 Try.underlying22 hi0 hz0 hz1 hz2 rfl (by decide) A out.length c (out.flatMap AreaV.cells) rfl HO3.out #[.int .i64 (4096 * (p : Int)), .int .i64 (4096 * ((p : Int) + 1)), .int .i64 x0, .bool x1, .int .i64 x2, .int .i64 x3] rfl rfl (by simp [Value.oneCell']) hmx (by omega) HSZ3 ?_)
            intro g c' w4 hown' hu
            have HO4 := Lib.hid hown'
            have HS4 := Lib.hid (HS3.out.upd hu (by intro hin; have := HOW.out _ hin; omega))
            have HB4 := Lib.hid (below_upd HB3.out hu (Nat.le_refl _) (by intro b hb; have := HOW.out _ hb; rw [HSB.out]; omega))
            have HZ4 := Lib.hid (Nat.le_trans HZ3.out hu.size)
            have HE := Lib.hid (show (listTo s (p + 1)).flatMap AreaV.cells = out.flatMap AreaV.cells ++ (#[.int .i64 (4096 * (p : Int)), .int .i64 (4096 * ((p : Int) + 1)), .int .i64 x0, .bool x1, .int .i64 x2, .int .i64 x3] : Array Value).toList by rw [HST.out, List.flatMap_append]; rfl)
            have HL := Lib.hid (show (listTo s (p + 1)).length = out.length + 1 by rw [HST.out, List.length_append]; rfl)
            clear hown' hu HO3 HS3 HB3 HZ3 HN3 k0 k1 k2 k3
            go_wp2
            go_roundw
            case rel => exact ⟨p + 1, some ⟨g, 0, none⟩, c', by omega, by omega, by go_num, by rw [HL.out], by rw [HL.out, HE.out]; exact HO4.out, HS4.out, HZ4.out, HB4.out⟩
            case measure => simp [intOf]; omega
    · obtain rfl : p = 512 := by omega
      have HW := Lib.hid (show wr.ownsRow w.heap.size 79 6 (.slice A (listTo s 512).length c) (listTo s 512).length ((listTo s 512).flatMap AreaV.cells) from World.ownsRow.mono HO.out (by rw [HSB.out]; omega))
      go_wp2
      go_ret
      exact ⟨A, c, rfl, HW.out, HLOW.out⟩
end Go.Proofs.Ytohidmkfpaiklaa
