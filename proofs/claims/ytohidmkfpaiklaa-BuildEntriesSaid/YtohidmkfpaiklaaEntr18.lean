/- Layer 18: build.Entries and the reference's Entries. -/
import Derived.Test.YtohidmkfpaiklaaEnt18
import Derived.Test.YtohidmkfpaiklaaEntV
import Derived.StillTailTactics
namespace Go.Proofs.Ytohidmkfpaiklaa
open Go.RowKit
set_option linter.unusedSimpArgs false
set_option linter.unusedVariables false

def entAt (l : List AreaV) (i : Nat) : Int := if i = 0 then 65536 else (l.getD (i - 1) .zero).stop
def gapE (lo hi : Int) : List EntV := if lo < hi then [⟨lo, hi, 0⟩] else []
def entsTo (l : List AreaV) (hs : List Int) : Nat → List EntV
  | 0 => []
  | i + 1 => entsTo l hs i ++ gapE (entAt l i) (l.getD i .zero).start ++ [⟨(l.getD i .zero).start, (l.getD i .zero).stop, hs.getD i 0⟩]
def entsL (l : List AreaV) (hs : List Int) : List EntV := entsTo l hs l.length ++ gapE (entAt l l.length) 2097152
def mayB (l : List AreaV) (hs : List Int) : Bool := rightB l && (decide (l.length = hs.length) && aboveB hs)
theorem entAt_zero (l : List AreaV) : entAt l 0 = 65536 := rfl
theorem entAt_succ (l : List AreaV) (i : Nat) : entAt l (i + 1) = (l.getD i .zero).stop := by unfold entAt; rw [if_neg (by omega), Nat.add_sub_cancel]
theorem gapE_len (a b : Int) : (gapE a b).length ≤ 1 := by unfold gapE; split <;> simp
theorem entsTo_len (l : List AreaV) (hs : List Int) : ∀ i, (entsTo l hs i).length ≤ 2 * i
  | 0 => by simp [entsTo]
  | i + 1 => by
    have h1 := entsTo_len l hs i
    have h2 := gapE_len (entAt l i) (l.getD i .zero).start
    rw [entsTo]
    simp only [List.length_append, List.length_cons, List.length_nil]
    omega
theorem entsL_len (l : List AreaV) (hs : List Int) : (entsL l hs).length ≤ 2 * l.length + 1 := by
  unfold entsL
  have h1 := entsTo_len l hs l.length
  have h2 := gapE_len (entAt l l.length) 2097152
  simp only [List.length_append]
  omega
set_option maxRecDepth 100000 in
theorem ref18_may (la ha : Option Addr) (len cap n c : Nat) (zs : List AreaV) (hs : List Int) (w : World) (hz : ArgOf AreaV.cells 6 AreaV.Ok w la len cap zs) (hh : ArgInts .i64 w ha n c hs) (hlen : len ≤ 1000) (hn : n ≤ 1000) :
    Calls Try.prog 12 #[.slice la len cap, .slice ha n c] w fun e w' => e = .returned (.bool (mayB zs hs)) ∧ Below w.heap.size w w' := by
  have HR := Lib.hid (ref07_right la len cap zs w hz hlen)
  have HA := Lib.hid (fun (w' : World) (hb : Below w.heap.size w w') => ref18_above ha n c hs w' (hh.thru hb))
  have HM := Lib.hid (show mayB zs hs = (rightB zs && (decide (len = n) && aboveB hs)) by unfold mayB; rw [hz.hl, hh.hl])
  clear hz hh
  obtain ⟨r, hr⟩ : ∃ r, rightB zs = r := ⟨_, rfl⟩
  obtain ⟨b, hb⟩ : ∃ b, aboveB hs = b := ⟨_, rfl⟩
  rw [hr] at HR HM
  rw [hb] at HA HM
  clear hr hb
  go_enter Try.func12, Try.ntmps12
  go_wp2_with fail
  refine HR.out.mono ?_
  rintro e w1 ⟨rfl, hb1⟩
  have HB := Lib.hid hb1
  have HAA := Lib.hid (HA.out w1 hb1)
  clear hb1
  cases r with
  | false =>
    go_wp2
    go_ret
    exact ⟨ret_goes (by rw [HM.out]; rfl), HB.out⟩
  | true =>
    by_cases hln : len = n
    · subst hln
      have hli : ((len : Int) == len) = true := by simp
      go_wp2_with fail
      refine HAA.out.mono ?_
      rintro e w2 ⟨rfl, rfl⟩
      go_wp2
      go_ret
      exact ⟨ret_goes (by rw [HM.out]; simp), HB.out⟩
    · have hli : ((len : Int) == n) = false := by rw [beq_eq_false_iff_ne]; omega
      go_wp2
      go_ret
      exact ⟨ret_goes (by rw [HM.out]; simp [hln]), HB.out⟩
set_option maxRecDepth 100000 in
set_option maxHeartbeats 4000000 in
theorem build_entries (la ha : Option Addr) (len cap n c : Nat) (zs : List AreaV) (hs : List Int) (w : World) (hz : ArgOf AreaV.cells 6 AreaV.Ok w la len cap zs) (hh : ArgInts .i64 w ha n c hs) (hlen : len ≤ 1000) (hn : n ≤ 1000) :
    Calls Try.prog 11 #[.slice la len cap, .slice ha n c] w fun e w' => ∃ A c', e = .returned (.slice A (if mayB zs hs = true then entsL zs hs else []).length c') ∧
      w'.ownsRow w.heap.size 31 3 (.slice A (if mayB zs hs = true then entsL zs hs else []).length c') (if mayB zs hs = true then entsL zs hs else []).length ((if mayB zs hs = true then entsL zs hs else []).flatMap entCells) ∧ Below w.heap.size w w' := by
  have hzl := hz.hl
  have hhl := hh.hl
  have HZ := Lib.hid hz
  have HH := Lib.hid hh
  have HR := Lib.hid (list_right la len cap zs w hz hlen)
  have HA := Lib.hid (fun (w' : World) (hb : Below w.heap.size w w') => build_above ha n c hs w' (hh.thru hb))
  have HM := Lib.hid (show mayB zs hs = (rightB zs && (decide (len = n) && aboveB hs)) by unfold mayB; rw [hz.hl, hh.hl])
  have HFM := Lib.hid (fun (h : rightB zs = true) => right_formed h)
  clear hz hh
  obtain ⟨r, hr⟩ : ∃ r, rightB zs = r := ⟨_, rfl⟩
  obtain ⟨b, hb⟩ : ∃ b, aboveB hs = b := ⟨_, rfl⟩
  rw [hr] at HR HM HFM
  rw [hb] at HA HM
  clear hr hb
  cases r with
  | false =>
    have hm : mayB zs hs = false := HM.out
    rw [hm]
    simp only [Bool.false_eq_true, if_false]
    clear hm
    go_enter Try.func11, Try.ntmps11
    go_wp2_with fail
    refine HR.out.mono ?_
    rintro e w1 ⟨rfl, hb1⟩
    go_wp2
    go_ret
    exact ⟨none, 0, rfl, World.ownsRow_nil _ _ _ _, hb1⟩
  | true =>
    by_cases hln : len = n
    · subst hln
      have hli : ((len : Int) != len) = false := by simp
      cases b with
      | false =>
        have hm : mayB zs hs = false := by rw [HM.out]; simp
        rw [hm]
        simp only [Bool.false_eq_true, if_false]
        clear hm
        go_enter Try.func11, Try.ntmps11
        go_wp2_with fail
        refine HR.out.mono ?_
        rintro e w1 ⟨rfl, hb1⟩
        have HAA := Lib.hid (HA.out w1 hb1)
        have HB := Lib.hid hb1
        clear hb1
        go_wp2_with fail
        refine HAA.out.mono ?_
        rintro e w2 ⟨rfl, rfl⟩
        go_wp2
        go_ret
        exact ⟨none, 0, rfl, World.ownsRow_nil _ _ _ _, HB.out⟩
      | true =>
        have hm : mayB zs hs = true := by rw [HM.out]; simp
        rw [hm]
        simp only [if_true]
        clear hm
        obtain ⟨i0, hi0, hz0, hz1, hz2⟩ := info_parts info_entry
        have HIP := Lib.hid (And.intro hi0 (And.intro hz0 (And.intro hz1 hz2)))
        clear hi0 hz0 hz1 hz2
        go_enter Try.func11, Try.ntmps11
        go_wp2_with fail
        refine HR.out.mono ?_
        rintro e w1 ⟨rfl, hb1⟩
        have HAA := Lib.hid (HA.out w1 hb1)
        have HB := Lib.hid hb1
        clear hb1
        go_wp2_with fail
        refine HAA.out.mono ?_
        rintro e w2 ⟨rfl, rfl⟩
        clear HAA HA HR
        go_wp2_with fail
        go_loopw [5, 6, 26] (fun v vat vi wr => ∃ (i : Nat) (A : Option Addr) (c' : Nat), i ≤ len ∧ vi = .int .i64 i ∧ vat = .int .i64 (entAt zs i) ∧ v = .slice A (entsTo zs hs i).length c' ∧ wr.ownsRow w.heap.size 31 3 (.slice A (entsTo zs hs i).length c') (entsTo zs hs i).length ((entsTo zs hs i).flatMap entCells) ∧ Below w.heap.size w wr) (fun _ _ vi _ => len - (intOf vi).toNat)
        case atStart => exact ⟨0, none, 0, by omega, rfl, rfl, rfl, World.ownsRow_nil _ _ _ _, HB.out⟩
        case round =>
          clear HB
          obtain ⟨i, A, c', hi, rfl, rfl, rfl, hown, hlow⟩ := hrel
          have HO := Lib.hid hown
          have HLOW := Lib.hid hlow
          clear hown hlow
          have hel := entsTo_len zs hs i
          by_cases hlt : i < len
          · have hlti : (i : Int) < len := by omega
            obtain ⟨lb, lo, a, rfl, hlb, ha, hok, hcell⟩ := HZ.out.at_ hlt
            have haD : zs.getD i .zero = a := by rw [List.getD_eq_getElem?_getD, ha]; rfl
            obtain ⟨hnd, hhD⟩ : ∃ h, hs.getD i 0 = h := ⟨_, rfl⟩
            have HNX := Lib.hid (show entsTo zs hs (i + 1) = entsTo zs hs i ++ gapE (entAt zs i) a.start ++ [⟨a.start, a.stop, hnd⟩] by rw [entsTo, haD, hhD])
            have HAS := Lib.hid (show entAt zs (i + 1) = a.stop by rw [entAt_succ, haD])
            obtain ⟨hb', ho, rfl, hhb, hhc⟩ := HH.out.at_ hlt
            rw [hhD] at hhc
            have HHC := Lib.hid (fun (wx : World) (hb : Below w.heap.size w wx) => (hb.cell (p := ⟨hb', ho + i, none⟩) hhb).trans hhc)
            obtain ⟨x0, x1, x2, x3, x4, x5⟩ := six7 (a0 := a.start) (a1 := a.stop) (a2 := a.prot) (a3 := a.shared) (a4 := a.back) (a5 := a.off) (z := wr) (g := lb) (o := lo + i * 6) (fun j u hu => (HLOW.out.cell (p := ⟨lb, lo + i * 6 + j, none⟩) hlb).trans (hcell j u hu))
            obtain ⟨at_, hat⟩ : ∃ x, entAt zs i = x := ⟨_, rfl⟩
            simp only [hat] at HNX ⊢
            obtain ⟨out, hout⟩ : ∃ o, entsTo zs hs i = o := ⟨_, rfl⟩
            simp only [hout] at HNX HO hel ⊢
            obtain ⟨a0, a1, a2, a3, a4, a5⟩ := a
            simp only at HNX HAS x0 x1 x2 x3 x4 x5
            clear hcell haD hhD hhc hat hout hok ha hlb
            go_upto_region 8 with fail
            clear x0 x1 x2 x3 x4 x5
            have HX5 := Lib.hid (Blk.new wr 79 #[.int .i64 a0, .int .i64 a1, .int .i64 a2, .bool a3, .int .i64 a4, .int .i64 a5])
            have HO5 := Lib.hid (HO.out.alloc (.cells #[.int .i64 a0, .int .i64 a1, .int .i64 a2, .bool a3, .int .i64 a4, .int .i64 a5] 79))
            have HB5 := Lib.hid (below_thru HLOW.out (below_alloc0 wr (.cells #[.int .i64 a0, .int .i64 a1, .int .i64 a2, .bool a3, .int .i64 a4, .int .i64 a5] 79)))
            generalize wr.alloc (.cells #[.int .i64 a0, .int .i64 a1, .int .i64 a2, .bool a3, .int .i64 a4, .int .i64 a5] 79) = w5 at *
            generalize wr.heap.size = xb at *
            clear HO HLOW
            by_cases hg : at_ < a0
            · have HG := Lib.hid (show gapE at_ a0 = [⟨at_, a0, 0⟩] by unfold gapE; rw [if_pos hg])
              rw [HG.out] at HNX
              obtain ⟨x0, x1, x2, x3, x4, x5⟩ := HX5.out.at6
              go_upto_region 9 with fail
              obtain ⟨hi0, hz0, hz1, hz2⟩ := HIP.out
              have hmx : out.length + 1 ≤ maxLen := by unfold maxLen; omega
              have hbs := HB5.out.size
              go_wp2_with (at_builtin; refine wpList_append_loc (P := Try.prog) w5 rfl (.tmp 35) (.tmp 40) 27 rfl w.heap.size 31 i0 _ 3 24 under_entries hi0 hz0 hz1 hz2 rfl (by decide) A (out).length c' ((out).flatMap entCells) rfl HO5.out #[.int .i64 at_, .int .i64 a0, .int .i64 0] rfl rfl (by simp [Value.oneCell']) hmx (by omega) hbs ?_)
              clear hi0 hz0 hz1 hz2 hmx hbs
              intro g c1 w6 hown1 hu1
              have HO6 := Lib.hid (show w6.ownsRow w.heap.size 31 3 (.slice (some ⟨g, 0, none⟩) (out ++ [(⟨at_, a0, 0⟩ : EntV)]).length c1) (out ++ [(⟨at_, a0, 0⟩ : EntV)]).length ((out ++ [(⟨at_, a0, 0⟩ : EntV)]).flatMap entCells) by rw [← ent_snoc, List.length_append]; exact hown1)
              have HB6 := Lib.hid (below_upd HB5.out hu1 (Nat.le_refl _) (own_lo HO5.out))
              have HX6 := Lib.hid (HX5.out.upd hu1 (fun hin => blk_notin HO5.out HX5.out (by decide) hin))
              have hle6 : (out ++ [(⟨at_, a0, 0⟩ : EntV)]).length ≤ 2 * i + 1 := by simp; omega
              have HLN := Lib.hid (show out.length + 1 = (out ++ [(⟨at_, a0, 0⟩ : EntV)]).length by simp)
              rw [HLN.out]
              obtain ⟨out1, ho1⟩ : ∃ o, out ++ [(⟨at_, a0, 0⟩ : EntV)] = o := ⟨_, rfl⟩
              simp only [ho1] at HO6 hle6 HNX ⊢
              clear hown1 hu1 HO5 HB5 HX5 x0 x1 x2 x3 x4 x5 ho1 HLN
              go_upto_region 10 with fail
              have HOd := Lib.hid (HO6.out.drew)
              have HBd := Lib.hid (show Below w.heap.size w w6.drew from below_thru HB6.out (below_drewN0 w6 1))
              have HXd := Lib.hid (HX6.out.drew)
              have HSA := Lib.hid (fun (z : World) (hb : Below w6.heap.size w6 z) => (show z.cell? ⟨xb, 0, none⟩ = some (.int .i64 a0) ∧ z.cell? ⟨xb, 1, none⟩ = some (.int .i64 a1) ∧ z.cell? ⟨hb', ho + i, none⟩ = some (.int .i64 hnd) from ⟨(HX6.out.thru hb).at_ rfl, (HX6.out.thru hb).at_ rfl, HHC.out z (below_thru HB6.out hb)⟩))
              have HSB := Lib.hid (fun (z : World) (hu : Upd (blockOf (some ⟨g, 0, none⟩)) w6.drew z) => (show z.cell? ⟨xb, 0, none⟩ = some (.int .i64 a0) ∧ z.cell? ⟨xb, 1, none⟩ = some (.int .i64 a1) ∧ z.cell? ⟨hb', ho + i, none⟩ = some (.int .i64 hnd) from
                have hx := HXd.out.upd hu (fun hin => blk_notin HOd.out HXd.out (by decide) hin)
                ⟨hx.at_ rfl, hx.at_ rfl, HHC.out z (below_upd HBd.out hu (Nat.le_refl _) (own_lo HOd.out))⟩))
              refine wp_region_H (fun z => z.cell? ⟨xb, 0, none⟩ = some (.int .i64 a0) ∧ z.cell? ⟨xb, 1, none⟩ = some (.int .i64 a1) ∧ z.cell? ⟨hb', ho + i, none⟩ = some (.int .i64 hnd)) 13 (by rfl) (by kernel_rfl) ?_
              have hS : (fun z : World => z.cell? ⟨xb, 0, none⟩ = some (.int .i64 a0) ∧ z.cell? ⟨xb, 1, none⟩ = some (.int .i64 a1) ∧ z.cell? ⟨hb', ho + i, none⟩ = some (.int .i64 hnd)) w6.drew := HSA.out w6.drew (below_drewN0 w6 1)
              try simp only [Array.replicate, List.replicate, List.setIfInBounds_toArray]
              refine wpAnyH_takes (i := 0) (d := 42) (v := ?_) rfl rfl (by kernel_rfl) (fun _ _ _ h => h) (Or.inl ⟨by rfl, ?_⟩) hS ?_
              rotate_left
              · intro wq hq; (try dsimp only at hq); (try obtain ⟨hq1, hq2, hq3⟩ := hq); go_simp; try with_reducible rfl
              simp only [List.setIfInBounds_toArray, List.set_cons_zero, List.set_cons_succ]
              refine wpAnyH_takes (i := 1) (d := 43) (v := ?_) rfl rfl (by kernel_rfl) (fun _ _ _ h => h) (Or.inl ⟨by rfl, ?_⟩) hS ?_
              rotate_left
              · intro wq hq; (try dsimp only at hq); (try obtain ⟨hq1, hq2, hq3⟩ := hq); go_simp; try with_reducible rfl
              simp only [List.setIfInBounds_toArray, List.set_cons_zero, List.set_cons_succ]
              refine wpAnyH_takes (i := 2) (d := 44) (v := ?_) rfl rfl (by kernel_rfl) (fun _ _ _ h => h) (Or.inl ⟨by rfl, ?_⟩) hS ?_
              rotate_left
              · intro wq hq; (try dsimp only at hq); (try obtain ⟨hq1, hq2, hq3⟩ := hq); go_simp; try with_reducible rfl
              simp only [List.setIfInBounds_toArray, List.set_cons_zero, List.set_cons_succ]
              refine wpAnyH_takes (i := 3) (d := 45) (v := ?_) rfl rfl (by kernel_rfl) (fun _ _ _ h => h) (Or.inl ⟨by rfl, ?_⟩) hS ?_
              rotate_left
              · intro wq hq; (try dsimp only at hq); (try obtain ⟨hq1, hq2, hq3⟩ := hq); go_simp; try with_reducible rfl
              simp only [List.setIfInBounds_toArray, List.set_cons_zero, List.set_cons_succ]
              refine wpAnyH_takes (i := 4) (d := 46) (v := ?_) rfl rfl (by kernel_rfl) (fun _ _ _ h => h) (Or.inl ⟨by rfl, ?_⟩) hS ?_
              rotate_left
              · intro wq hq; (try dsimp only at hq); (try obtain ⟨hq1, hq2, hq3⟩ := hq); go_simp; try with_reducible rfl
              simp only [List.setIfInBounds_toArray, List.set_cons_zero, List.set_cons_succ]
              refine wpAnyH_takes (i := 5) (d := 47) (v := ?_) rfl rfl (by kernel_rfl) (fun _ _ _ h => h) (Or.inl ⟨by rfl, ?_⟩) hS ?_
              rotate_left
              · intro wq hq; (try dsimp only at hq); (try obtain ⟨hq1, hq2, hq3⟩ := hq); go_simp; try with_reducible rfl
              simp only [List.setIfInBounds_toArray, List.set_cons_zero, List.set_cons_succ]
              refine wpAnyH_takes (i := 6) (d := 48) (v := ?_) rfl rfl (by kernel_rfl) (fun _ _ _ h => h) (Or.inl ⟨by rfl, ?_⟩) hS ?_
              rotate_left
              · intro wq hq; (try dsimp only at hq); (try obtain ⟨hq1, hq2, hq3⟩ := hq); go_simp; try with_reducible rfl
              simp only [List.setIfInBounds_toArray, List.set_cons_zero, List.set_cons_succ]
              refine wpAnyH_takes (i := 7) (d := 49) (v := ?_) rfl rfl (by kernel_rfl) (fun _ _ _ h => h) (Or.inl ⟨by rfl, ?_⟩) hS ?_
              rotate_left
              · intro wq hq; (try dsimp only at hq); (try obtain ⟨hq1, hq2, hq3⟩ := hq); go_simp; try with_reducible rfl
              simp only [List.setIfInBounds_toArray, List.set_cons_zero, List.set_cons_succ]
              refine wpAnyH_takes (i := 8) (d := 50) (v := ?_) rfl rfl (by kernel_rfl) (fun _ _ _ h => h) (Or.inl ⟨by rfl, ?_⟩) hS ?_
              rotate_left
              · intro wq hq; (try dsimp only at hq); (try obtain ⟨hq1, hq2, hq3⟩ := hq); go_simp; try with_reducible rfl
              simp only [List.setIfInBounds_toArray, List.set_cons_zero, List.set_cons_succ]
              refine wpAnyH_takes (i := 9) (d := 51) (v := ?_) rfl rfl (by kernel_rfl) (fun _ _ _ h => h) (Or.inl ⟨by rfl, ?_⟩) hS ?_
              rotate_left
              · intro wq hq; (try dsimp only at hq); (try obtain ⟨hq1, hq2, hq3⟩ := hq); go_simp; try with_reducible rfl
              simp only [List.setIfInBounds_toArray, List.set_cons_zero, List.set_cons_succ]
              refine wpAnyH_one (i := 10) (by kernel_rfl) rfl (by rfl) (fun K hK => ?_)
              simp only [List.getElem_toArray, List.getElem_cons_succ, List.getElem_cons_zero]
              go_simp
              refine hK.out _ _ (HSA.out _ (below_thru (below_drewN0 w6 1) (below_alloc0 w6.drew _))) ?_
              clear hK K hS
              have hS := HSA.out _ (below_thru (below_drewN0 w6 1) (below_alloc0 w6.drew (.cells #[.int .i64 a0, .int .i64 a1, .int .i64 hnd] 31)))
              try simp only [Act.put, List.setIfInBounds_toArray, List.set_cons_zero, List.set_cons_succ]
              refine wpAnyH_one (i := 11) (by kernel_rfl) rfl (by rfl) (fun K hK => ?_)
              simp only [List.getElem_toArray, List.getElem_cons_succ, List.getElem_cons_zero]
              obtain ⟨hi0, hz0, hz1, hz2⟩ := HIP.out
              have hmx : out1.length + 1 ≤ maxLen := by unfold maxLen; omega
              have hbs := HBd.out.size
              refine wp_append_loc (P := Try.prog) w6.drew (.tmp 42) (.tmp 52) 27 rfl w.heap.size 31 i0 _ 3 24 under_entries hi0 hz0 hz1 hz2 rfl (by decide) (some ⟨g, 0, none⟩) (out1).length c1 ((out1).flatMap entCells) rfl HOd.out #[.int .i64 a0, .int .i64 a1, .int .i64 hnd] rfl rfl (by simp [Value.oneCell']) hmx (by omega) hbs ?_
              intro g2 c2 w7 hown2 hu2
              clear hi0 hz0 hz1 hz2 hmx hbs
              refine hK.out _ _ (HSB.out w7 hu2) ?_
              clear hK K hS
              have hS := HSB.out w7 hu2
              try simp only [Act.put, List.setIfInBounds_toArray, List.set_cons_zero, List.set_cons_succ]
              refine wpAnyH_takes (i := 12) (d := 5) (v := ?_) rfl rfl (by kernel_rfl) (fun _ _ _ h => h) (Or.inl ⟨by rfl, ?_⟩) hS ?_
              rotate_left
              · intro wq hq; (try dsimp only at hq); (try obtain ⟨hq1, hq2, hq3⟩ := hq); go_simp; try with_reducible rfl
              simp only [List.setIfInBounds_toArray, List.set_cons_zero, List.set_cons_succ]
              refine wpAnyH_done (by kernel_rfl) ?_ _
              have HO7 := Lib.hid hown2
              have HB7 := Lib.hid (below_upd HBd.out hu2 (Nat.le_refl _) (own_lo HOd.out))
              have HX7 := Lib.hid (HXd.out.upd hu2 (fun hin => blk_notin HOd.out HXd.out (by decide) hin))
              clear hown2 hu2 HOd HBd HXd HSA HSB hS
              have HL := Lib.hid (show (entsTo zs hs (i + 1)).length = out1.length + 1 by rw [HNX.out, List.length_append]; rfl)
              have HOE := Lib.hid (show w7.ownsRow w.heap.size 31 3 (.slice (some ⟨g2, 0, none⟩) (out1.length + 1) c2) (out1.length + 1) ((entsTo zs hs (i + 1)).flatMap entCells) by rw [HNX.out, ← ent_snoc]; exact HO7.out)
              obtain ⟨x0, x1, x2, x3, x4, x5⟩ := HX7.out.at6
              go_wp2
              go_roundw
              case rel => exact ⟨i + 1, some ⟨g2, 0, none⟩, c2, by omega, by go_num, by rw [HAS.out], by rw [HL.out], by rw [HL.out]; exact HOE.out, HB7.out⟩
              case measure => simp [intOf]; omega
            · have HG := Lib.hid (show gapE at_ a0 = [] by unfold gapE; rw [if_neg hg])
              rw [HG.out, List.append_nil] at HNX
              have hle6 : out.length ≤ 2 * i + 1 := by omega
              obtain ⟨x0, x1, x2, x3, x4, x5⟩ := HX5.out.at6
              go_wp2_with fail
              clear x0 x1 x2 x3 x4 x5
              go_upto_region 10 with fail
              have HOd := Lib.hid (HO5.out.drew)
              have HBd := Lib.hid (show Below w.heap.size w w5.drew from below_thru HB5.out (below_drewN0 w5 1))
              have HXd := Lib.hid (HX5.out.drew)
              have HSA := Lib.hid (fun (z : World) (hb : Below w5.heap.size w5 z) => (show z.cell? ⟨xb, 0, none⟩ = some (.int .i64 a0) ∧ z.cell? ⟨xb, 1, none⟩ = some (.int .i64 a1) ∧ z.cell? ⟨hb', ho + i, none⟩ = some (.int .i64 hnd) from ⟨(HX5.out.thru hb).at_ rfl, (HX5.out.thru hb).at_ rfl, HHC.out z (below_thru HB5.out hb)⟩))
              have HSB := Lib.hid (fun (z : World) (hu : Upd (blockOf A) w5.drew z) => (show z.cell? ⟨xb, 0, none⟩ = some (.int .i64 a0) ∧ z.cell? ⟨xb, 1, none⟩ = some (.int .i64 a1) ∧ z.cell? ⟨hb', ho + i, none⟩ = some (.int .i64 hnd) from
                have hx := HXd.out.upd hu (fun hin => blk_notin HOd.out HXd.out (by decide) hin)
                ⟨hx.at_ rfl, hx.at_ rfl, HHC.out z (below_upd HBd.out hu (Nat.le_refl _) (own_lo HOd.out))⟩))
              refine wp_region_H (fun z => z.cell? ⟨xb, 0, none⟩ = some (.int .i64 a0) ∧ z.cell? ⟨xb, 1, none⟩ = some (.int .i64 a1) ∧ z.cell? ⟨hb', ho + i, none⟩ = some (.int .i64 hnd)) 13 (by rfl) (by kernel_rfl) ?_
              have hS : (fun z : World => z.cell? ⟨xb, 0, none⟩ = some (.int .i64 a0) ∧ z.cell? ⟨xb, 1, none⟩ = some (.int .i64 a1) ∧ z.cell? ⟨hb', ho + i, none⟩ = some (.int .i64 hnd)) w5.drew := HSA.out w5.drew (below_drewN0 w5 1)
              try simp only [Array.replicate, List.replicate, List.setIfInBounds_toArray]
              refine wpAnyH_takes (i := 0) (d := 42) (v := ?_) rfl rfl (by kernel_rfl) (fun _ _ _ h => h) (Or.inl ⟨by rfl, ?_⟩) hS ?_
              rotate_left
              · intro wq hq; (try dsimp only at hq); (try obtain ⟨hq1, hq2, hq3⟩ := hq); go_simp; try with_reducible rfl
              simp only [List.setIfInBounds_toArray, List.set_cons_zero, List.set_cons_succ]
              refine wpAnyH_takes (i := 1) (d := 43) (v := ?_) rfl rfl (by kernel_rfl) (fun _ _ _ h => h) (Or.inl ⟨by rfl, ?_⟩) hS ?_
              rotate_left
              · intro wq hq; (try dsimp only at hq); (try obtain ⟨hq1, hq2, hq3⟩ := hq); go_simp; try with_reducible rfl
              simp only [List.setIfInBounds_toArray, List.set_cons_zero, List.set_cons_succ]
              refine wpAnyH_takes (i := 2) (d := 44) (v := ?_) rfl rfl (by kernel_rfl) (fun _ _ _ h => h) (Or.inl ⟨by rfl, ?_⟩) hS ?_
              rotate_left
              · intro wq hq; (try dsimp only at hq); (try obtain ⟨hq1, hq2, hq3⟩ := hq); go_simp; try with_reducible rfl
              simp only [List.setIfInBounds_toArray, List.set_cons_zero, List.set_cons_succ]
              refine wpAnyH_takes (i := 3) (d := 45) (v := ?_) rfl rfl (by kernel_rfl) (fun _ _ _ h => h) (Or.inl ⟨by rfl, ?_⟩) hS ?_
              rotate_left
              · intro wq hq; (try dsimp only at hq); (try obtain ⟨hq1, hq2, hq3⟩ := hq); go_simp; try with_reducible rfl
              simp only [List.setIfInBounds_toArray, List.set_cons_zero, List.set_cons_succ]
              refine wpAnyH_takes (i := 4) (d := 46) (v := ?_) rfl rfl (by kernel_rfl) (fun _ _ _ h => h) (Or.inl ⟨by rfl, ?_⟩) hS ?_
              rotate_left
              · intro wq hq; (try dsimp only at hq); (try obtain ⟨hq1, hq2, hq3⟩ := hq); go_simp; try with_reducible rfl
              simp only [List.setIfInBounds_toArray, List.set_cons_zero, List.set_cons_succ]
              refine wpAnyH_takes (i := 5) (d := 47) (v := ?_) rfl rfl (by kernel_rfl) (fun _ _ _ h => h) (Or.inl ⟨by rfl, ?_⟩) hS ?_
              rotate_left
              · intro wq hq; (try dsimp only at hq); (try obtain ⟨hq1, hq2, hq3⟩ := hq); go_simp; try with_reducible rfl
              simp only [List.setIfInBounds_toArray, List.set_cons_zero, List.set_cons_succ]
              refine wpAnyH_takes (i := 6) (d := 48) (v := ?_) rfl rfl (by kernel_rfl) (fun _ _ _ h => h) (Or.inl ⟨by rfl, ?_⟩) hS ?_
              rotate_left
              · intro wq hq; (try dsimp only at hq); (try obtain ⟨hq1, hq2, hq3⟩ := hq); go_simp; try with_reducible rfl
              simp only [List.setIfInBounds_toArray, List.set_cons_zero, List.set_cons_succ]
              refine wpAnyH_takes (i := 7) (d := 49) (v := ?_) rfl rfl (by kernel_rfl) (fun _ _ _ h => h) (Or.inl ⟨by rfl, ?_⟩) hS ?_
              rotate_left
              · intro wq hq; (try dsimp only at hq); (try obtain ⟨hq1, hq2, hq3⟩ := hq); go_simp; try with_reducible rfl
              simp only [List.setIfInBounds_toArray, List.set_cons_zero, List.set_cons_succ]
              refine wpAnyH_takes (i := 8) (d := 50) (v := ?_) rfl rfl (by kernel_rfl) (fun _ _ _ h => h) (Or.inl ⟨by rfl, ?_⟩) hS ?_
              rotate_left
              · intro wq hq; (try dsimp only at hq); (try obtain ⟨hq1, hq2, hq3⟩ := hq); go_simp; try with_reducible rfl
              simp only [List.setIfInBounds_toArray, List.set_cons_zero, List.set_cons_succ]
              refine wpAnyH_takes (i := 9) (d := 51) (v := ?_) rfl rfl (by kernel_rfl) (fun _ _ _ h => h) (Or.inl ⟨by rfl, ?_⟩) hS ?_
              rotate_left
              · intro wq hq; (try dsimp only at hq); (try obtain ⟨hq1, hq2, hq3⟩ := hq); go_simp; try with_reducible rfl
              simp only [List.setIfInBounds_toArray, List.set_cons_zero, List.set_cons_succ]
              refine wpAnyH_one (i := 10) (by kernel_rfl) rfl (by rfl) (fun K hK => ?_)
              simp only [List.getElem_toArray, List.getElem_cons_succ, List.getElem_cons_zero]
              go_simp
              refine hK.out _ _ (HSA.out _ (below_thru (below_drewN0 w5 1) (below_alloc0 w5.drew _))) ?_
              clear hK K hS
              have hS := HSA.out _ (below_thru (below_drewN0 w5 1) (below_alloc0 w5.drew (.cells #[.int .i64 a0, .int .i64 a1, .int .i64 hnd] 31)))
              try simp only [Act.put, List.setIfInBounds_toArray, List.set_cons_zero, List.set_cons_succ]
              refine wpAnyH_one (i := 11) (by kernel_rfl) rfl (by rfl) (fun K hK => ?_)
              simp only [List.getElem_toArray, List.getElem_cons_succ, List.getElem_cons_zero]
              obtain ⟨hi0, hz0, hz1, hz2⟩ := HIP.out
              have hmx : out.length + 1 ≤ maxLen := by unfold maxLen; omega
              have hbs := HBd.out.size
              refine wp_append_loc (P := Try.prog) w5.drew (.tmp 42) (.tmp 52) 27 rfl w.heap.size 31 i0 _ 3 24 under_entries hi0 hz0 hz1 hz2 rfl (by decide) A (out).length c' ((out).flatMap entCells) rfl HOd.out #[.int .i64 a0, .int .i64 a1, .int .i64 hnd] rfl rfl (by simp [Value.oneCell']) hmx (by omega) hbs ?_
              intro g2 c2 w7 hown2 hu2
              clear hi0 hz0 hz1 hz2 hmx hbs
              refine hK.out _ _ (HSB.out w7 hu2) ?_
              clear hK K hS
              have hS := HSB.out w7 hu2
              try simp only [Act.put, List.setIfInBounds_toArray, List.set_cons_zero, List.set_cons_succ]
              refine wpAnyH_takes (i := 12) (d := 5) (v := ?_) rfl rfl (by kernel_rfl) (fun _ _ _ h => h) (Or.inl ⟨by rfl, ?_⟩) hS ?_
              rotate_left
              · intro wq hq; (try dsimp only at hq); (try obtain ⟨hq1, hq2, hq3⟩ := hq); go_simp; try with_reducible rfl
              simp only [List.setIfInBounds_toArray, List.set_cons_zero, List.set_cons_succ]
              refine wpAnyH_done (by kernel_rfl) ?_ _
              have HO7 := Lib.hid hown2
              have HB7 := Lib.hid (below_upd HBd.out hu2 (Nat.le_refl _) (own_lo HOd.out))
              have HX7 := Lib.hid (HXd.out.upd hu2 (fun hin => blk_notin HOd.out HXd.out (by decide) hin))
              clear hown2 hu2 HOd HBd HXd HSA HSB hS
              have HL := Lib.hid (show (entsTo zs hs (i + 1)).length = out.length + 1 by rw [HNX.out, List.length_append]; rfl)
              have HOE := Lib.hid (show w7.ownsRow w.heap.size 31 3 (.slice (some ⟨g2, 0, none⟩) (out.length + 1) c2) (out.length + 1) ((entsTo zs hs (i + 1)).flatMap entCells) by rw [HNX.out, ← ent_snoc]; exact HO7.out)
              obtain ⟨x0, x1, x2, x3, x4, x5⟩ := HX7.out.at6
              go_wp2
              go_roundw
              case rel => exact ⟨i + 1, some ⟨g2, 0, none⟩, c2, by omega, by go_num, by rw [HAS.out], by rw [HL.out], by rw [HL.out]; exact HOE.out, HB7.out⟩
              case measure => simp [intOf]; omega
          · obtain rfl : i = len := by omega
            have HEL := Lib.hid (show entsL zs hs = entsTo zs hs i ++ gapE (entAt zs i) 2097152 by unfold entsL; rw [hzl])
            obtain ⟨at_, hat⟩ : ∃ x, entAt zs i = x := ⟨_, rfl⟩
            simp only [hat] at HEL ⊢
            obtain ⟨out, hout⟩ : ∃ o, entsTo zs hs i = o := ⟨_, rfl⟩
            simp only [hout] at HEL HO hel ⊢
            clear hat hout
            by_cases hg : at_ < 2097152
            · have HG := Lib.hid (show gapE at_ 2097152 = [⟨at_, 2097152, 0⟩] by unfold gapE; rw [if_pos hg])
              rw [HG.out] at HEL
              go_upto_region 14 with fail
              obtain ⟨hi0, hz0, hz1, hz2⟩ := HIP.out
              have hmx : out.length + 1 ≤ maxLen := by unfold maxLen; omega
              have hbs := HLOW.out.size
              go_wp2_with (at_builtin; refine wpList_append_loc (P := Try.prog) wr rfl (.tmp 59) (.tmp 62) 27 rfl w.heap.size 31 i0 _ 3 24 under_entries hi0 hz0 hz1 hz2 rfl (by decide) A (out).length c' ((out).flatMap entCells) rfl HO.out #[.int .i64 at_, .int .i64 2097152, .int .i64 0] rfl rfl (by simp [Value.oneCell']) hmx (by omega) hbs ?_)
              clear hi0 hz0 hz1 hz2 hmx hbs
              intro g c1 w6 hown1 hu1
              have HL := Lib.hid (show (entsL zs hs).length = out.length + 1 by rw [HEL.out, List.length_append]; rfl)
              have HOE := Lib.hid (show w6.ownsRow w.heap.size 31 3 (.slice (some ⟨g, 0, none⟩) (out.length + 1) c1) (out.length + 1) ((entsL zs hs).flatMap entCells) by rw [HEL.out, ← ent_snoc]; exact hown1)
              have HB6 := Lib.hid (below_upd HLOW.out hu1 (Nat.le_refl _) (own_lo HO.out))
              clear hown1 hu1
              go_wp2
              go_ret
              exact ⟨_, _, by rw [HL.out]; rfl, by rw [HL.out]; exact HOE.out, HB6.out⟩
            · have HG := Lib.hid (show gapE at_ 2097152 = [] by unfold gapE; rw [if_neg hg])
              rw [HG.out, List.append_nil] at HEL
              go_wp2
              go_ret
              exact ⟨_, _, by rw [HEL.out]; rfl, by rw [HEL.out]; exact HO.out, HLOW.out⟩
    · have hli : ((n : Int) != len) = true := by simp; omega
      have hm : mayB zs hs = false := by rw [HM.out]; simp [hln]
      rw [hm]
      simp only [Bool.false_eq_true, if_false]
      clear hm
      go_enter Try.func11, Try.ntmps11
      go_wp2_with fail
      refine HR.out.mono ?_
      rintro e w1 ⟨rfl, hb1⟩
      go_wp2
      go_ret
      exact ⟨none, 0, rfl, World.ownsRow_nil _ _ _ _, hb1⟩
def entsUp (l : List AreaV) (hs : List Int) (i : Nat) : List EntV := if i ≤ l.length then entsTo l hs i else entsL l hs
set_option maxRecDepth 100000 in
set_option maxHeartbeats 4000000 in
theorem ref18_entries (la ha : Option Addr) (len cap c : Nat) (zs : List AreaV) (hs : List Int) (w : World) (hz : ArgOf AreaV.cells 6 AreaV.Ok w la len cap zs) (hh : ArgInts .i64 w ha len c hs) (hlen : len ≤ 1000) :
    Calls Try.prog 13 #[.slice la len cap, .slice ha len c] w fun e w' => ∃ A c', e = .returned (.slice A (entsL zs hs).length c') ∧ w'.ownsRow w.heap.size 31 3 (.slice A (entsL zs hs).length c') (entsL zs hs).length ((entsL zs hs).flatMap entCells) ∧ Below w.heap.size w w' := by
  have hzl := hz.hl
  have hhl := hh.hl
  have HZ := Lib.hid hz
  have HH := Lib.hid hh
  have HB := Lib.hid (Below.refl w.heap.size w)
  clear hz hh
  obtain ⟨i0, hi0, hz0, hz1, hz2⟩ := info_parts info_entry
  have HIP := Lib.hid (And.intro hi0 (And.intro hz0 (And.intro hz1 hz2)))
  have HU0 := Lib.hid (show entsUp zs hs 0 = [] from rfl)
  have HUE := Lib.hid (show entsUp zs hs (len + 1) = entsL zs hs by unfold entsUp; rw [if_neg (by omega)])
  clear hi0 hz0 hz1 hz2
  go_enter Try.func13, Try.ntmps13
  go_wp2_with fail
  go_loopw [5, 6, 7] (fun v vat vi wr => ∃ (i : Nat) (A : Option Addr) (c' : Nat), i ≤ len + 1 ∧ vi = .int .i64 i ∧ vat = .int .i64 (entAt zs (min i len)) ∧ v = .slice A (entsUp zs hs i).length c' ∧ wr.ownsRow w.heap.size 31 3 (.slice A (entsUp zs hs i).length c') (entsUp zs hs i).length ((entsUp zs hs i).flatMap entCells) ∧ Below w.heap.size w wr) (fun _ _ vi _ => len + 1 - (intOf vi).toNat)
  case atStart => exact ⟨0, none, 0, by omega, rfl, by rw [Nat.zero_min]; rfl, by rw [HU0.out]; rfl, by rw [HU0.out]; exact World.ownsRow_nil _ _ _ _, HB.out⟩
  case round =>
    clear HB
    obtain ⟨i, A, c', hi, rfl, rfl, rfl, hown, hlow⟩ := hrel
    have HO := Lib.hid hown
    have HLOW := Lib.hid hlow
    clear hown hlow
    by_cases hlt : i < len
    · have hlti : (i : Int) < len := by omega
      have hle1 : (i : Int) ≤ len := by omega
      have hel : (entsUp zs hs i).length ≤ 2 * i := by unfold entsUp; rw [if_pos (by omega)]; exact entsTo_len zs hs i
      obtain ⟨lb, lo, a, rfl, hlb, ha, hok, hcell⟩ := HZ.out.at_ hlt
      have haD : zs.getD i .zero = a := by rw [List.getD_eq_getElem?_getD, ha]; rfl
      obtain ⟨hnd, hhD⟩ : ∃ h, hs.getD i 0 = h := ⟨_, rfl⟩
      have HNX := Lib.hid (show entsUp zs hs (i + 1) = entsUp zs hs i ++ gapE (entAt zs i) a.start ++ [⟨a.start, a.stop, hnd⟩] by unfold entsUp; rw [if_pos (by omega), if_pos (by omega), entsTo, haD, hhD])
      have HAS := Lib.hid (show entAt zs (min (i + 1) len) = a.stop by rw [Nat.min_eq_left (by omega), entAt_succ, haD])
      obtain ⟨hb', ho, rfl, hhb, hhc⟩ := HH.out.at_ hlt
      rw [hhD] at hhc
      have HHC := Lib.hid (fun (wx : World) (hb : Below w.heap.size w wx) => (hb.cell (p := ⟨hb', ho + i, none⟩) hhb).trans hhc)
      have x0 := (HLOW.out.cell (p := ⟨lb, lo + i * 6 + 0, none⟩) hlb).trans (hcell 0 (.int .i64 a.start) rfl)
      have HXC := Lib.hid (fun (wx : World) (hb : Below w.heap.size w wx) => (hb.cell (p := ⟨lb, lo + i * 6 + 1, none⟩) hlb).trans (hcell 1 (.int .i64 a.stop) rfl))
      have HX0 := Lib.hid (fun (wx : World) (hb : Below w.heap.size w wx) => (hb.cell (p := ⟨lb, lo + i * 6 + 0, none⟩) hlb).trans (hcell 0 (.int .i64 a.start) rfl))
      obtain ⟨at_, hat⟩ : ∃ x, entAt zs i = x := ⟨_, rfl⟩
      have hmi : min i len = i := Nat.min_eq_left (by omega)
      simp only [hmi, hat] at HNX ⊢
      obtain ⟨out, hout⟩ : ∃ o, entsUp zs hs i = o := ⟨_, rfl⟩
      simp only [hout] at HNX HO hel ⊢
      obtain ⟨a0, a1, a2, a3, a4, a5⟩ := a
      simp only [Nat.add_zero] at HNX HAS x0 HXC HX0
      clear hcell haD hhD hhc hat hout hok ha hlb hmi
      by_cases hg : at_ < a0
      · have HG := Lib.hid (show gapE at_ a0 = [⟨at_, a0, 0⟩] by unfold gapE; rw [if_pos hg])
        rw [HG.out] at HNX
        go_upto_region 10 with fail
        obtain ⟨hi0, hz0, hz1, hz2⟩ := HIP.out
        have hmx : out.length + 1 ≤ maxLen := by unfold maxLen; omega
        have hbs := HLOW.out.size
        go_wp2_with (at_builtin; refine wpList_append_loc (P := Try.prog) wr rfl (.tmp 27) (.tmp 31) 27 rfl w.heap.size 31 i0 _ 3 24 under_entries hi0 hz0 hz1 hz2 rfl (by decide) A (out).length c' ((out).flatMap entCells) rfl HO.out #[.int .i64 at_, .int .i64 a0, .int .i64 0] rfl rfl (by simp [Value.oneCell']) hmx (by omega) hbs ?_)
        clear hi0 hz0 hz1 hz2 hmx hbs
        intro g c1 w6 hown1 hu1
        have HO6 := Lib.hid (show w6.ownsRow w.heap.size 31 3 (.slice (some ⟨g, 0, none⟩) (out ++ [(⟨at_, a0, 0⟩ : EntV)]).length c1) (out ++ [(⟨at_, a0, 0⟩ : EntV)]).length ((out ++ [(⟨at_, a0, 0⟩ : EntV)]).flatMap entCells) by rw [← ent_snoc, List.length_append]; exact hown1)
        have HB6 := Lib.hid (below_upd HLOW.out hu1 (Nat.le_refl _) (own_lo HO.out))
        have hle6 : (out ++ [(⟨at_, a0, 0⟩ : EntV)]).length ≤ 2 * i + 1 := by simp; omega
        have HLN := Lib.hid (show out.length + 1 = (out ++ [(⟨at_, a0, 0⟩ : EntV)]).length by simp)
        rw [HLN.out]
        obtain ⟨out1, ho1⟩ : ∃ o, out ++ [(⟨at_, a0, 0⟩ : EntV)] = o := ⟨_, rfl⟩
        simp only [ho1] at HO6 hle6 HNX ⊢
        clear hown1 hu1 HO HLOW x0 ho1 HLN
        go_upto_region 12 with fail
        have HOd := Lib.hid (HO6.out.drew)
        have HBd := Lib.hid (show Below w.heap.size w w6.drew from below_thru HB6.out (below_drewN0 w6 1))
        have HSA := Lib.hid (fun (z : World) (hb : Below w6.heap.size w6 z) => (show z.cell? ⟨lb, lo + i * 6 + 1, none⟩ = some (.int .i64 a1) ∧ z.cell? ⟨hb', ho + i, none⟩ = some (.int .i64 hnd) from ⟨HXC.out z (below_thru HB6.out hb), HHC.out z (below_thru HB6.out hb)⟩))
        have HSB := Lib.hid (fun (z : World) (hu : Upd (blockOf (some ⟨g, 0, none⟩)) w6.drew z) => (show z.cell? ⟨lb, lo + i * 6 + 1, none⟩ = some (.int .i64 a1) ∧ z.cell? ⟨hb', ho + i, none⟩ = some (.int .i64 hnd) from
          have hb := below_upd HBd.out hu (Nat.le_refl _) (own_lo HOd.out)
          ⟨HXC.out z hb, HHC.out z hb⟩))
        refine wp_region_H (fun z => z.cell? ⟨lb, lo + i * 6 + 1, none⟩ = some (.int .i64 a1) ∧ z.cell? ⟨hb', ho + i, none⟩ = some (.int .i64 hnd)) 15 (by rfl) (by kernel_rfl) ?_
        have hS : (fun z : World => z.cell? ⟨lb, lo + i * 6 + 1, none⟩ = some (.int .i64 a1) ∧ z.cell? ⟨hb', ho + i, none⟩ = some (.int .i64 hnd)) w6.drew := HSA.out w6.drew (below_drewN0 w6 1)
        try simp only [Array.replicate, List.replicate, List.setIfInBounds_toArray]
        refine wpAnyH_takes (i := 0) (d := 37) (v := ?_) rfl rfl (by kernel_rfl) (fun _ _ _ h => h) (Or.inl ⟨by rfl, ?_⟩) hS ?_
        rotate_left
        · intro wq hq; (try dsimp only at hq); (try obtain ⟨hq1, hq2, hq3⟩ := hq); go_simp; try with_reducible rfl
        simp only [List.setIfInBounds_toArray, List.set_cons_zero, List.set_cons_succ]
        refine wpAnyH_takes (i := 1) (d := 38) (v := ?_) rfl rfl (by kernel_rfl) (fun _ _ _ h => h) (Or.inl ⟨by rfl, ?_⟩) hS ?_
        rotate_left
        · intro wq hq; (try dsimp only at hq); (try obtain ⟨hq1, hq2, hq3⟩ := hq); go_simp; try with_reducible rfl
        simp only [List.setIfInBounds_toArray, List.set_cons_zero, List.set_cons_succ]
        refine wpAnyH_takes (i := 2) (d := 39) (v := ?_) rfl rfl (by kernel_rfl) (fun _ _ _ h => h) (Or.inl ⟨by rfl, ?_⟩) hS ?_
        rotate_left
        · intro wq hq; (try dsimp only at hq); (try obtain ⟨hq1, hq2, hq3⟩ := hq); go_simp; try with_reducible rfl
        simp only [List.setIfInBounds_toArray, List.set_cons_zero, List.set_cons_succ]
        refine wpAnyH_takes (i := 3) (d := 40) (v := ?_) rfl rfl (by kernel_rfl) (fun _ _ _ h => h) (Or.inl ⟨by rfl, ?_⟩) hS ?_
        rotate_left
        · intro wq hq; (try dsimp only at hq); (try obtain ⟨hq1, hq2, hq3⟩ := hq); go_simp; try with_reducible rfl
        simp only [List.setIfInBounds_toArray, List.set_cons_zero, List.set_cons_succ]
        refine wpAnyH_takes (i := 4) (d := 41) (v := ?_) rfl rfl (by kernel_rfl) (fun _ _ _ h => h) (Or.inl ⟨by rfl, ?_⟩) hS ?_
        rotate_left
        · intro wq hq; (try dsimp only at hq); (try obtain ⟨hq1, hq2, hq3⟩ := hq); go_simp; try with_reducible rfl
        simp only [List.setIfInBounds_toArray, List.set_cons_zero, List.set_cons_succ]
        refine wpAnyH_takes (i := 5) (d := 42) (v := ?_) rfl rfl (by kernel_rfl) (fun _ _ _ h => h) (Or.inl ⟨by rfl, ?_⟩) hS ?_
        rotate_left
        · intro wq hq; (try dsimp only at hq); (try obtain ⟨hq1, hq2, hq3⟩ := hq); go_simp; try with_reducible rfl
        simp only [List.setIfInBounds_toArray, List.set_cons_zero, List.set_cons_succ]
        refine wpAnyH_takes (i := 6) (d := 43) (v := ?_) rfl rfl (by kernel_rfl) (fun _ _ _ h => h) (Or.inl ⟨by rfl, ?_⟩) hS ?_
        rotate_left
        · intro wq hq; (try dsimp only at hq); (try obtain ⟨hq1, hq2, hq3⟩ := hq); go_simp; try with_reducible rfl
        simp only [List.setIfInBounds_toArray, List.set_cons_zero, List.set_cons_succ]
        refine wpAnyH_takes (i := 7) (d := 44) (v := ?_) rfl rfl (by kernel_rfl) (fun _ _ _ h => h) (Or.inl ⟨by rfl, ?_⟩) hS ?_
        rotate_left
        · intro wq hq; (try dsimp only at hq); (try obtain ⟨hq1, hq2, hq3⟩ := hq); go_simp; try with_reducible rfl
        simp only [List.setIfInBounds_toArray, List.set_cons_zero, List.set_cons_succ]
        refine wpAnyH_takes (i := 8) (d := 45) (v := ?_) rfl rfl (by kernel_rfl) (fun _ _ _ h => h) (Or.inl ⟨by rfl, ?_⟩) hS ?_
        rotate_left
        · intro wq hq; (try dsimp only at hq); (try obtain ⟨hq1, hq2, hq3⟩ := hq); go_simp; try with_reducible rfl
        simp only [List.setIfInBounds_toArray, List.set_cons_zero, List.set_cons_succ]
        refine wpAnyH_takes (i := 9) (d := 46) (v := ?_) rfl rfl (by kernel_rfl) (fun _ _ _ h => h) (Or.inl ⟨by rfl, ?_⟩) hS ?_
        rotate_left
        · intro wq hq; (try dsimp only at hq); (try obtain ⟨hq1, hq2, hq3⟩ := hq); go_simp; try with_reducible rfl
        simp only [List.setIfInBounds_toArray, List.set_cons_zero, List.set_cons_succ]
        refine wpAnyH_takes (i := 10) (d := 47) (v := ?_) rfl rfl (by kernel_rfl) (fun _ _ _ h => h) (Or.inl ⟨by rfl, ?_⟩) hS ?_
        rotate_left
        · intro wq hq; (try dsimp only at hq); (try obtain ⟨hq1, hq2, hq3⟩ := hq); go_simp; try with_reducible rfl
        simp only [List.setIfInBounds_toArray, List.set_cons_zero, List.set_cons_succ]
        refine wpAnyH_takes (i := 11) (d := 48) (v := ?_) rfl rfl (by kernel_rfl) (fun _ _ _ h => h) (Or.inl ⟨by rfl, ?_⟩) hS ?_
        rotate_left
        · intro wq hq; (try dsimp only at hq); (try obtain ⟨hq1, hq2, hq3⟩ := hq); go_simp; try with_reducible rfl
        simp only [List.setIfInBounds_toArray, List.set_cons_zero, List.set_cons_succ]
        refine wpAnyH_one (i := 12) (by kernel_rfl) rfl (by rfl) (fun K hK => ?_)
        simp only [List.getElem_toArray, List.getElem_cons_succ, List.getElem_cons_zero]
        go_simp
        refine hK.out _ _ (HSA.out _ (below_thru (below_drewN0 w6 1) (below_alloc0 w6.drew _))) ?_
        clear hK K hS
        have hS := HSA.out _ (below_thru (below_drewN0 w6 1) (below_alloc0 w6.drew (.cells #[.int .i64 a0, .int .i64 a1, .int .i64 hnd] 31)))
        try simp only [Act.put, List.setIfInBounds_toArray, List.set_cons_zero, List.set_cons_succ]
        refine wpAnyH_one (i := 13) (by kernel_rfl) rfl (by rfl) (fun K hK => ?_)
        simp only [List.getElem_toArray, List.getElem_cons_succ, List.getElem_cons_zero]
        obtain ⟨hi0, hz0, hz1, hz2⟩ := HIP.out
        have hmx : out1.length + 1 ≤ maxLen := by unfold maxLen; omega
        have hbs := HBd.out.size
        refine wp_append_loc (P := Try.prog) w6.drew (.tmp 37) (.tmp 49) 27 rfl w.heap.size 31 i0 _ 3 24 under_entries hi0 hz0 hz1 hz2 rfl (by decide) (some ⟨g, 0, none⟩) (out1).length c1 ((out1).flatMap entCells) rfl HOd.out #[.int .i64 a0, .int .i64 a1, .int .i64 hnd] rfl rfl (by simp [Value.oneCell']) hmx (by omega) hbs ?_
        intro g2 c2 w7 hown2 hu2
        clear hi0 hz0 hz1 hz2 hmx hbs
        refine hK.out _ _ (HSB.out w7 hu2) ?_
        clear hK K hS
        have hS := HSB.out w7 hu2
        try simp only [Act.put, List.setIfInBounds_toArray, List.set_cons_zero, List.set_cons_succ]
        refine wpAnyH_takes (i := 14) (d := 5) (v := ?_) rfl rfl (by kernel_rfl) (fun _ _ _ h => h) (Or.inl ⟨by rfl, ?_⟩) hS ?_
        rotate_left
        · intro wq hq; (try dsimp only at hq); (try obtain ⟨hq1, hq2, hq3⟩ := hq); go_simp; try with_reducible rfl
        simp only [List.setIfInBounds_toArray, List.set_cons_zero, List.set_cons_succ]
        refine wpAnyH_done (by kernel_rfl) ?_ _
        have HO7 := Lib.hid hown2
        have HB7 := Lib.hid (below_upd HBd.out hu2 (Nat.le_refl _) (own_lo HOd.out))
        have x1 := HXC.out w7 HB7.out
        clear hown2 hu2 HOd HBd HSA HSB hS
        have HL := Lib.hid (show (entsUp zs hs (i + 1)).length = out1.length + 1 by rw [HNX.out, List.length_append]; rfl)
        have HOE := Lib.hid (show w7.ownsRow w.heap.size 31 3 (.slice (some ⟨g2, 0, none⟩) (out1.length + 1) c2) (out1.length + 1) ((entsUp zs hs (i + 1)).flatMap entCells) by rw [HNX.out, ← ent_snoc]; exact HO7.out)
        go_wp2
        go_roundw
        case rel => exact ⟨i + 1, some ⟨g2, 0, none⟩, c2, by omega, by go_num, by rw [HAS.out], by rw [HL.out], by rw [HL.out]; exact HOE.out, HB7.out⟩
        case measure => simp [intOf]; omega
      · have HG := Lib.hid (show gapE at_ a0 = [] by unfold gapE; rw [if_neg hg])
        rw [HG.out, List.append_nil] at HNX
        have hle6 : out.length ≤ 2 * i + 1 := by omega
        clear x0
        have x0 := HX0.out wr HLOW.out
        go_wp2_with fail
        clear x0
        go_upto_region 12 with fail
        have HOd := Lib.hid (HO.out.drew)
        have HBd := Lib.hid (show Below w.heap.size w wr.drew from below_thru HLOW.out (below_drewN0 wr 1))
        have HSA := Lib.hid (fun (z : World) (hb : Below wr.heap.size wr z) => (show z.cell? ⟨lb, lo + i * 6 + 1, none⟩ = some (.int .i64 a1) ∧ z.cell? ⟨hb', ho + i, none⟩ = some (.int .i64 hnd) from ⟨HXC.out z (below_thru HLOW.out hb), HHC.out z (below_thru HLOW.out hb)⟩))
        have HSB := Lib.hid (fun (z : World) (hu : Upd (blockOf A) wr.drew z) => (show z.cell? ⟨lb, lo + i * 6 + 1, none⟩ = some (.int .i64 a1) ∧ z.cell? ⟨hb', ho + i, none⟩ = some (.int .i64 hnd) from
          have hb := below_upd HBd.out hu (Nat.le_refl _) (own_lo HOd.out)
          ⟨HXC.out z hb, HHC.out z hb⟩))
        refine wp_region_H (fun z => z.cell? ⟨lb, lo + i * 6 + 1, none⟩ = some (.int .i64 a1) ∧ z.cell? ⟨hb', ho + i, none⟩ = some (.int .i64 hnd)) 15 (by rfl) (by kernel_rfl) ?_
        have hS : (fun z : World => z.cell? ⟨lb, lo + i * 6 + 1, none⟩ = some (.int .i64 a1) ∧ z.cell? ⟨hb', ho + i, none⟩ = some (.int .i64 hnd)) wr.drew := HSA.out wr.drew (below_drewN0 wr 1)
        try simp only [Array.replicate, List.replicate, List.setIfInBounds_toArray]
        refine wpAnyH_takes (i := 0) (d := 37) (v := ?_) rfl rfl (by kernel_rfl) (fun _ _ _ h => h) (Or.inl ⟨by rfl, ?_⟩) hS ?_
        rotate_left
        · intro wq hq; (try dsimp only at hq); (try obtain ⟨hq1, hq2, hq3⟩ := hq); go_simp; try with_reducible rfl
        simp only [List.setIfInBounds_toArray, List.set_cons_zero, List.set_cons_succ]
        refine wpAnyH_takes (i := 1) (d := 38) (v := ?_) rfl rfl (by kernel_rfl) (fun _ _ _ h => h) (Or.inl ⟨by rfl, ?_⟩) hS ?_
        rotate_left
        · intro wq hq; (try dsimp only at hq); (try obtain ⟨hq1, hq2, hq3⟩ := hq); go_simp; try with_reducible rfl
        simp only [List.setIfInBounds_toArray, List.set_cons_zero, List.set_cons_succ]
        refine wpAnyH_takes (i := 2) (d := 39) (v := ?_) rfl rfl (by kernel_rfl) (fun _ _ _ h => h) (Or.inl ⟨by rfl, ?_⟩) hS ?_
        rotate_left
        · intro wq hq; (try dsimp only at hq); (try obtain ⟨hq1, hq2, hq3⟩ := hq); go_simp; try with_reducible rfl
        simp only [List.setIfInBounds_toArray, List.set_cons_zero, List.set_cons_succ]
        refine wpAnyH_takes (i := 3) (d := 40) (v := ?_) rfl rfl (by kernel_rfl) (fun _ _ _ h => h) (Or.inl ⟨by rfl, ?_⟩) hS ?_
        rotate_left
        · intro wq hq; (try dsimp only at hq); (try obtain ⟨hq1, hq2, hq3⟩ := hq); go_simp; try with_reducible rfl
        simp only [List.setIfInBounds_toArray, List.set_cons_zero, List.set_cons_succ]
        refine wpAnyH_takes (i := 4) (d := 41) (v := ?_) rfl rfl (by kernel_rfl) (fun _ _ _ h => h) (Or.inl ⟨by rfl, ?_⟩) hS ?_
        rotate_left
        · intro wq hq; (try dsimp only at hq); (try obtain ⟨hq1, hq2, hq3⟩ := hq); go_simp; try with_reducible rfl
        simp only [List.setIfInBounds_toArray, List.set_cons_zero, List.set_cons_succ]
        refine wpAnyH_takes (i := 5) (d := 42) (v := ?_) rfl rfl (by kernel_rfl) (fun _ _ _ h => h) (Or.inl ⟨by rfl, ?_⟩) hS ?_
        rotate_left
        · intro wq hq; (try dsimp only at hq); (try obtain ⟨hq1, hq2, hq3⟩ := hq); go_simp; try with_reducible rfl
        simp only [List.setIfInBounds_toArray, List.set_cons_zero, List.set_cons_succ]
        refine wpAnyH_takes (i := 6) (d := 43) (v := ?_) rfl rfl (by kernel_rfl) (fun _ _ _ h => h) (Or.inl ⟨by rfl, ?_⟩) hS ?_
        rotate_left
        · intro wq hq; (try dsimp only at hq); (try obtain ⟨hq1, hq2, hq3⟩ := hq); go_simp; try with_reducible rfl
        simp only [List.setIfInBounds_toArray, List.set_cons_zero, List.set_cons_succ]
        refine wpAnyH_takes (i := 7) (d := 44) (v := ?_) rfl rfl (by kernel_rfl) (fun _ _ _ h => h) (Or.inl ⟨by rfl, ?_⟩) hS ?_
        rotate_left
        · intro wq hq; (try dsimp only at hq); (try obtain ⟨hq1, hq2, hq3⟩ := hq); go_simp; try with_reducible rfl
        simp only [List.setIfInBounds_toArray, List.set_cons_zero, List.set_cons_succ]
        refine wpAnyH_takes (i := 8) (d := 45) (v := ?_) rfl rfl (by kernel_rfl) (fun _ _ _ h => h) (Or.inl ⟨by rfl, ?_⟩) hS ?_
        rotate_left
        · intro wq hq; (try dsimp only at hq); (try obtain ⟨hq1, hq2, hq3⟩ := hq); go_simp; try with_reducible rfl
        simp only [List.setIfInBounds_toArray, List.set_cons_zero, List.set_cons_succ]
        refine wpAnyH_takes (i := 9) (d := 46) (v := ?_) rfl rfl (by kernel_rfl) (fun _ _ _ h => h) (Or.inl ⟨by rfl, ?_⟩) hS ?_
        rotate_left
        · intro wq hq; (try dsimp only at hq); (try obtain ⟨hq1, hq2, hq3⟩ := hq); go_simp; try with_reducible rfl
        simp only [List.setIfInBounds_toArray, List.set_cons_zero, List.set_cons_succ]
        refine wpAnyH_takes (i := 10) (d := 47) (v := ?_) rfl rfl (by kernel_rfl) (fun _ _ _ h => h) (Or.inl ⟨by rfl, ?_⟩) hS ?_
        rotate_left
        · intro wq hq; (try dsimp only at hq); (try obtain ⟨hq1, hq2, hq3⟩ := hq); go_simp; try with_reducible rfl
        simp only [List.setIfInBounds_toArray, List.set_cons_zero, List.set_cons_succ]
        refine wpAnyH_takes (i := 11) (d := 48) (v := ?_) rfl rfl (by kernel_rfl) (fun _ _ _ h => h) (Or.inl ⟨by rfl, ?_⟩) hS ?_
        rotate_left
        · intro wq hq; (try dsimp only at hq); (try obtain ⟨hq1, hq2, hq3⟩ := hq); go_simp; try with_reducible rfl
        simp only [List.setIfInBounds_toArray, List.set_cons_zero, List.set_cons_succ]
        refine wpAnyH_one (i := 12) (by kernel_rfl) rfl (by rfl) (fun K hK => ?_)
        simp only [List.getElem_toArray, List.getElem_cons_succ, List.getElem_cons_zero]
        go_simp
        refine hK.out _ _ (HSA.out _ (below_thru (below_drewN0 wr 1) (below_alloc0 wr.drew _))) ?_
        clear hK K hS
        have hS := HSA.out _ (below_thru (below_drewN0 wr 1) (below_alloc0 wr.drew (.cells #[.int .i64 a0, .int .i64 a1, .int .i64 hnd] 31)))
        try simp only [Act.put, List.setIfInBounds_toArray, List.set_cons_zero, List.set_cons_succ]
        refine wpAnyH_one (i := 13) (by kernel_rfl) rfl (by rfl) (fun K hK => ?_)
        simp only [List.getElem_toArray, List.getElem_cons_succ, List.getElem_cons_zero]
        obtain ⟨hi0, hz0, hz1, hz2⟩ := HIP.out
        have hmx : out.length + 1 ≤ maxLen := by unfold maxLen; omega
        have hbs := HBd.out.size
        refine wp_append_loc (P := Try.prog) wr.drew (.tmp 37) (.tmp 49) 27 rfl w.heap.size 31 i0 _ 3 24 under_entries hi0 hz0 hz1 hz2 rfl (by decide) A (out).length c' ((out).flatMap entCells) rfl HOd.out #[.int .i64 a0, .int .i64 a1, .int .i64 hnd] rfl rfl (by simp [Value.oneCell']) hmx (by omega) hbs ?_
        intro g2 c2 w7 hown2 hu2
        clear hi0 hz0 hz1 hz2 hmx hbs
        refine hK.out _ _ (HSB.out w7 hu2) ?_
        clear hK K hS
        have hS := HSB.out w7 hu2
        try simp only [Act.put, List.setIfInBounds_toArray, List.set_cons_zero, List.set_cons_succ]
        refine wpAnyH_takes (i := 14) (d := 5) (v := ?_) rfl rfl (by kernel_rfl) (fun _ _ _ h => h) (Or.inl ⟨by rfl, ?_⟩) hS ?_
        rotate_left
        · intro wq hq; (try dsimp only at hq); (try obtain ⟨hq1, hq2, hq3⟩ := hq); go_simp; try with_reducible rfl
        simp only [List.setIfInBounds_toArray, List.set_cons_zero, List.set_cons_succ]
        refine wpAnyH_done (by kernel_rfl) ?_ _
        have HO7 := Lib.hid hown2
        have HB7 := Lib.hid (below_upd HBd.out hu2 (Nat.le_refl _) (own_lo HOd.out))
        have x1 := HXC.out w7 HB7.out
        clear hown2 hu2 HOd HBd HSA HSB hS
        have HL := Lib.hid (show (entsUp zs hs (i + 1)).length = out.length + 1 by rw [HNX.out, List.length_append]; rfl)
        have HOE := Lib.hid (show w7.ownsRow w.heap.size 31 3 (.slice (some ⟨g2, 0, none⟩) (out.length + 1) c2) (out.length + 1) ((entsUp zs hs (i + 1)).flatMap entCells) by rw [HNX.out, ← ent_snoc]; exact HO7.out)
        go_wp2
        go_roundw
        case rel => exact ⟨i + 1, some ⟨g2, 0, none⟩, c2, by omega, by go_num, by rw [HAS.out], by rw [HL.out], by rw [HL.out]; exact HOE.out, HB7.out⟩
        case measure => simp [intOf]; omega
    · by_cases hle : i = len
      · subst hle
        have hni : ¬ (i : Int) < i := by omega
        have hel : (entsUp zs hs i).length ≤ 2 * i := by unfold entsUp; rw [if_pos (by omega)]; exact entsTo_len zs hs i
        have HEL := Lib.hid (show entsUp zs hs (i + 1) = entsUp zs hs i ++ gapE (entAt zs i) 2097152 by rw [HUE.out]; unfold entsL entsUp; rw [if_pos (by omega), hzl])
        have HMN := Lib.hid (show min (i + 1) i = i from Nat.min_eq_right (by omega))
        obtain ⟨at_, hat⟩ : ∃ x, entAt zs i = x := ⟨_, rfl⟩
        have HAT := Lib.hid hat
        simp only [Nat.min_self, hat] at HEL ⊢
        obtain ⟨out, hout⟩ : ∃ o, entsUp zs hs i = o := ⟨_, rfl⟩
        simp only [hout] at HEL HO hel ⊢
        clear hat hout
        by_cases hg : at_ < 2097152
        · have HG := Lib.hid (show gapE at_ 2097152 = [⟨at_, 2097152, 0⟩] by unfold gapE; rw [if_pos hg])
          rw [HG.out] at HEL
          go_upto_region 10 with fail
          obtain ⟨hi0, hz0, hz1, hz2⟩ := HIP.out
          have hmx : out.length + 1 ≤ maxLen := by unfold maxLen; omega
          have hbs := HLOW.out.size
          go_wp2_with (at_builtin; refine wpList_append_loc (P := Try.prog) wr rfl (.tmp 27) (.tmp 31) 27 rfl w.heap.size 31 i0 _ 3 24 under_entries hi0 hz0 hz1 hz2 rfl (by decide) A (out).length c' ((out).flatMap entCells) rfl HO.out #[.int .i64 at_, .int .i64 2097152, .int .i64 0] rfl rfl (by simp [Value.oneCell']) hmx (by omega) hbs ?_)
          clear hi0 hz0 hz1 hz2 hmx hbs
          intro g c1 w6 hown1 hu1
          have HL := Lib.hid (show (entsUp zs hs (i + 1)).length = out.length + 1 by rw [HEL.out, List.length_append]; rfl)
          have HOE := Lib.hid (show w6.ownsRow w.heap.size 31 3 (.slice (some ⟨g, 0, none⟩) (out.length + 1) c1) (out.length + 1) ((entsUp zs hs (i + 1)).flatMap entCells) by rw [HEL.out, ← ent_snoc]; exact hown1)
          have HB6 := Lib.hid (below_upd HLOW.out hu1 (Nat.le_refl _) (own_lo HO.out))
          clear hown1 hu1
          go_wp2
          go_roundw
          case rel => exact ⟨i + 1, some ⟨g, 0, none⟩, c1, by omega, by go_num, by rw [HMN.out, HAT.out], by rw [HL.out], by rw [HL.out]; exact HOE.out, HB6.out⟩
          case measure => first | (simp [intOf]; done) | (simp [intOf]; omega)
        · have HG := Lib.hid (show gapE at_ 2097152 = [] by unfold gapE; rw [if_neg hg])
          rw [HG.out, List.append_nil] at HEL
          go_wp2
          go_roundw
          case rel => exact ⟨i + 1, A, c', by omega, by go_num, by rw [HMN.out, HAT.out], by rw [HEL.out], by rw [HEL.out]; exact HO.out, HLOW.out⟩
          case measure => first | (simp [intOf]; done) | (simp [intOf]; omega)
      · obtain rfl : i = len + 1 := by omega
        have hni : ¬ ((len : Int) + 1 ≤ len) := by omega
        rw [HUE.out] at HO ⊢
        go_wp2
        go_ret
        exact ⟨_, _, rfl, HO.out, HLOW.out⟩
end Go.Proofs.Ytohidmkfpaiklaa
