/- WalkRound, walked. -/
import Derived.Test.YtldccemgfjmcdaaAgreeP17
import Derived.Test.YtldccemgfjmcdaaGoes17
namespace Go.Proofs.Ytldccemgfjmcdaa
open Go.RowKit
set_option linter.unusedSimpArgs false
set_option linter.unusedVariables false

theorem Tells.same2 {β : Type} {σ σ' : LandS} {r : Res LandS β} {v : β} {n c : Nat} {st : Bool} (h : Tells σ r v n c st) (hs : Same σ σ') : Tells σ' r v n c st := fun σ1 h1 h0 hc => by
  obtain ⟨σ2, e, h2, r2⟩ := h σ1 (hs.trans h1) h0 hc
  exact ⟨σ2, e, ⟨h2.cells.trans hs.cells.symm, h2.first.trans hs.first.symm, h2.slots.trans hs.slots.symm⟩, r2⟩
/-- The node that is being made. -/
def RndAt (w wr : World) (nb : Nat) (x1 x2 x3 : List Int) : Prop :=
  Below w.heap.size w wr ∧ w.heap.size ≤ nb ∧ ∃ A1 c1 A2 c2 A3 c3, RowsAt wr w.heap.size nb 50 [.bool true, .int .i64 65536] [⟨A1, c1, x1⟩, ⟨A2, c2, x2⟩, ⟨A3, c3, x3⟩] []
theorem own_ge {w : World} {B z n c : Nat} {t : TypeId} {A : Option Addr} {xs : List Value} (h : w.ownsRow B t z (.slice A n c) n xs) : ∀ b ∈ blockOf A, B ≤ b := by
  intro b hb
  refine (Rows'.ofOwn h).2 b ?_
  cases A with
  | none => simp [blockOf] at hb
  | some a => simp [blockOf] at hb; simp [Value.ownBlock, hb]
theorem rnd_low {w wr w' : World} {nb : Nat} {A : Option Addr} {n c : Nat} {xs : List Value} (h : Below w.heap.size w wr) (hn : w.heap.size ≤ nb) (ho : wr.ownsRow w.heap.size 2 1 (.slice A n c) n xs) (hu : Upd (nb :: blockOf A) wr w') : Below w.heap.size w w' :=
  below_upd h hu (Nat.le_refl _) fun b hb => by
    simp only [List.mem_cons] at hb
    rcases hb with rfl | hb
    · exact hn
    · exact own_ge ho b hb
set_option maxRecDepth 100000 in
set_option maxHeartbeats 8000000 in
theorem round17 (en addr : Int) (w : World) (hen : (Lit.int .u8 en).wf = true) (_ : (Lit.int .i64 addr).wf = true) :
    Calls Try.prog 6 #[.int .u8 en, .int .i64 addr] w fun e w' => e = .returned (.bool true) ∧ Below w.heap.size w w' := by
  have HA := Lib.hid awake17
  have HB := Lib.hid (Below.refl w.heap.size w)
  obtain ⟨en0, en1⟩ := bounds_u8 hen
  obtain ⟨r, hr⟩ : ∃ r : Nat, en % 8 = (r : Int) := ⟨(en % 8).toNat, by omega⟩
  have hr8 : (r : Int) ≤ 7 := by omega
  have HR8 := Lib.hid (show r ≤ 7 by omega)
  clear hen
  go_enter Try.func6, Try.ntmps6
  go_wp2_with fail
  refine (HA.out _).mono ?_
  rintro e w1 ⟨rfl, hb⟩
  replace HB := Lib.hid (below_thru HB.out hb)
  clear hb
  have HB1 := Lib.hid HB.out.size
  replace HB := Lib.hid (below_thru HB.out (below_alloc0 w1 (.cells #[.bool true, .int .i64 65536, .slice none 0 0, .slice none 0 0, .slice none 0 0] 50)))
  have HNB := Lib.hid (Blk.new w1 50 #[.bool true, .int .i64 65536, .slice none 0 0, .slice none 0 0, .slice none 0 0])
  go_upto_region 4 with fail
  have HZ := Lib.hid (World.size_alloc w1 (.cells #[.bool true, .int .i64 65536, .slice none 0 0, .slice none 0 0, .slice none 0 0] 50))
  obtain ⟨nb, hnb⟩ : ∃ x, w1.heap.size = x := ⟨_, rfl⟩
  simp only [hnb] at HNB HZ ⊢
  replace hnb := Lib.hid hnb
  generalize w1.alloc (.cells #[.bool true, .int .i64 65536, .slice none 0 0, .slice none 0 0, .slice none 0 0] 50) = w2 at *
  have H0 := Lib.hid (show RndAt w w2 nb [] [] [] from ⟨HB.out, by rw [← hnb.out]; exact HB1.out, none, 0, none, 0, none, 0,
    ⟨HNB.out, by simp [RowV3.val, i64s, World.ownsRow_nil], by intro i l y z hy hz hil d hd; have hy2 := List.mem_of_getElem? hy; simp at hy2; rcases hy2 with rfl | rfl | rfl <;> simp [blockOf] at hd, by simp, by simp, by decide⟩⟩)
  clear HB HNB HZ hnb
  obtain ⟨wi, hwi⟩ : ∃ wi, w2 = wi := ⟨_, rfl⟩
  go_wp2_with fail
  go_loopw [6] (fun v wr => ∃ i : Nat, i ≤ r + 1 ∧ v = .int .i64 i ∧ RndAt w wr nb (roundN i).ends (List.replicate i 65537) (List.replicate i 0)) (fun v _ => r + 1 - (intOf v).toNat)
  case atStart => exact ⟨0, Nat.zero_le _, rfl, H0.out⟩
  case round =>
    clear H0
    obtain ⟨i, hi, rfl, hb, hnbw, A1, c1, A2, c2, A3, c3, hrw⟩ := hrel
    have HB := Lib.hid hb
    have HNB := Lib.hid hnbw
    have HRW := Lib.hid hrw
    clear hb hnbw hrw
    by_cases hlt : i < r + 1
    · have hii : (i : Int) ≤ r := by omega
      obtain ⟨i0, hi0, hz0, hz1, hz2⟩ := info_parts info_i64
      have HL := Lib.hid hlt
      obtain ⟨x1, hx1⟩ : ∃ x, (roundN i).ends = x := ⟨_, rfl⟩
      obtain ⟨x2, hx2⟩ : ∃ x, List.replicate i (65537 : Int) = x := ⟨_, rfl⟩
      obtain ⟨x3, hx3⟩ : ∃ x, List.replicate i (0 : Int) = x := ⟨_, rfl⟩
      have l1 : x1.length ≤ 8 := by rw [← hx1]; have := HR8.out; simp [roundN]; omega
      have l2 : x2.length ≤ 8 := by rw [← hx2]; have := HR8.out; simp; omega
      have l3 : x3.length ≤ 8 := by rw [← hx3]; have := HR8.out; simp; omega
      have HX1 := Lib.hid (show x1 ++ [4096 * (17 + (i : Int))] = (roundN (i + 1)).ends by rw [← hx1]; simp [roundN, List.range_succ])
      have HX2 := Lib.hid (show x2 ++ [65537] = List.replicate (i + 1) 65537 by rw [← hx2]; exact List.replicate_succ'.symm)
      have HX3 := Lib.hid (show x3 ++ [0] = List.replicate (i + 1) 0 by rw [← hx3]; exact List.replicate_succ'.symm)
      rw [hx1, hx2, hx3] at HRW
      clear hx1 hx2 hx3 hlt
      go_upto_region 7 with fail
      have hfld : wr.cell? ⟨nb, 2, none⟩ = some (.slice A1 (x1).length c1) := HRW.out.field (k := 0) rfl
      have hown := HRW.out.own ⟨A1, c1, x1⟩ (by simp)
      have hge := HB.out.size
      go_upto_region 8 with (at_builtin; refine wpList_append_lies (P := Try.prog) _ rfl (.tmp 26) (.tmp 30) 31 rfl w.heap.size 2 i0 _ 1 8 Try.underlying31 hi0 hz0 hz1 hz2 rfl (by decide) (.slice A1 (x1).length c1) (x1).length (i64s x1) rfl (hown.alloc _) ⟨wr.heap.size, 0, none⟩ 1 1 [.int .i64 (4096 * (17 + (i : Int)))] rfl rfl (World.news_of_block (cs := #[.int .i64 (4096 * (17 + (i : Int)))]) (t := 2) (fr := (0, 0)) (heap_alloc_new wr _)) (by simp [Value.oneCell']) (by omega) (by unfold maxLen; omega) (by omega) (by simp; omega) (wr.heap.size + 1) (by simp) ?_; intro g cap' w4 hown' hgrow hat hlt'; obtain ⟨hr5, hu5, c8, f8⟩ := HRW.out.append (k := 0) (r := ⟨A1, c1, x1⟩) rfl _ hown' hgrow hat (by simp); replace c8 : w4.cell? ⟨nb, 2, none⟩ = some (.slice A1 (x1).length c1) := c8; replace f8 : w4.frozen? ⟨nb, 2, none⟩ = false := f8; have PS := Lib.hid (And.intro hr5 (rnd_low HB.out HNB.out hown hu5)); clear hr5 hu5 hown hown' hgrow hat hlt')
      clear hfld c8 f8 hge
      obtain ⟨hr5, hlow⟩ := PS.out
      have HB := Lib.hid hlow
      have HRW := Lib.hid (show RowsAt (w4.setCell ⟨nb, 2, none⟩ (.slice (some ⟨g, 0, none⟩) (x1.length + 1) cap')) w.heap.size nb 50 [.bool true, .int .i64 65536] [⟨some ⟨g, 0, none⟩, cap', (roundN (i + 1)).ends⟩, ⟨A2, c2, x2⟩, ⟨A3, c3, x3⟩] [] from by rw [← HX1.out]; exact hr5)
      clear hr5 hlow PS HX1
      generalize w4.setCell ⟨nb, 2, none⟩ (.slice (some ⟨g, 0, none⟩) (x1.length + 1) cap') = wr at *
      obtain ⟨G1, hG1⟩ : ∃ a : Option Addr, some ⟨g, 0, none⟩ = a := ⟨_, rfl⟩
      obtain ⟨C1, hC1⟩ : ∃ a, cap' = a := ⟨_, rfl⟩
      obtain ⟨y1, hy1⟩ : ∃ a, (roundN (i + 1)).ends = a := ⟨_, rfl⟩
      rw [hG1, hC1, hy1] at HRW
      have HY1 := Lib.hid hy1
      clear hG1 hC1 hy1
      have hfld : wr.cell? ⟨nb, 3, none⟩ = some (.slice A2 (x2).length c2) := HRW.out.field (k := 1) rfl
      have hown := HRW.out.own ⟨A2, c2, x2⟩ (by simp)
      have hge := HB.out.size
      go_upto_region 9 with (at_builtin; refine wpList_append_lies (P := Try.prog) _ rfl (.tmp 34) (.tmp 35) 31 rfl w.heap.size 2 i0 _ 1 8 Try.underlying31 hi0 hz0 hz1 hz2 rfl (by decide) (.slice A2 (x2).length c2) (x2).length (i64s x2) rfl (hown.alloc _) ⟨wr.heap.size, 0, none⟩ 1 1 [.int .i64 65537] rfl rfl (World.news_of_block (cs := #[.int .i64 65537]) (t := 2) (fr := (0, 0)) (heap_alloc_new wr _)) (by simp [Value.oneCell']) (by omega) (by unfold maxLen; omega) (by omega) (by simp; omega) (wr.heap.size + 1) (by simp) ?_; intro g cap' w4 hown' hgrow hat hlt'; obtain ⟨hr5, hu5, c8, f8⟩ := HRW.out.append (k := 1) (r := ⟨A2, c2, x2⟩) rfl _ hown' hgrow hat (by simp); replace c8 : w4.cell? ⟨nb, 3, none⟩ = some (.slice A2 (x2).length c2) := c8; replace f8 : w4.frozen? ⟨nb, 3, none⟩ = false := f8; have PS := Lib.hid (And.intro hr5 (rnd_low HB.out HNB.out hown hu5)); clear hr5 hu5 hown hown' hgrow hat hlt')
      clear hfld c8 f8 hge
      obtain ⟨hr5, hlow⟩ := PS.out
      have HB := Lib.hid hlow
      have HRW := Lib.hid (show RowsAt (w4.setCell ⟨nb, 3, none⟩ (.slice (some ⟨g, 0, none⟩) (x2.length + 1) cap')) w.heap.size nb 50 [.bool true, .int .i64 65536] [⟨G1, C1, y1⟩, ⟨some ⟨g, 0, none⟩, cap', List.replicate (i + 1) 65537⟩, ⟨A3, c3, x3⟩] [] from by rw [← HX2.out]; exact hr5)
      clear hr5 hlow PS HX2
      generalize w4.setCell ⟨nb, 3, none⟩ (.slice (some ⟨g, 0, none⟩) (x2.length + 1) cap') = wr at *
      obtain ⟨G2, hG2⟩ : ∃ a : Option Addr, some ⟨g, 0, none⟩ = a := ⟨_, rfl⟩
      obtain ⟨C2, hC2⟩ : ∃ a, cap' = a := ⟨_, rfl⟩
      obtain ⟨y2, hy2⟩ : ∃ a, List.replicate (i + 1) (65537 : Int) = a := ⟨_, rfl⟩
      rw [hG2, hC2, hy2] at HRW
      have HY2 := Lib.hid hy2
      clear hG2 hC2 hy2
      have hfld : wr.cell? ⟨nb, 4, none⟩ = some (.slice A3 (x3).length c3) := HRW.out.field (k := 2) rfl
      have hown := HRW.out.own ⟨A3, c3, x3⟩ (by simp)
      have hge := HB.out.size
      go_wp2_with (at_builtin; refine wpList_append_lies (P := Try.prog) _ rfl (.tmp 39) (.tmp 40) 31 rfl w.heap.size 2 i0 _ 1 8 Try.underlying31 hi0 hz0 hz1 hz2 rfl (by decide) (.slice A3 (x3).length c3) (x3).length (i64s x3) rfl (hown.alloc _) ⟨wr.heap.size, 0, none⟩ 1 1 [.int .i64 0] rfl rfl (World.news_of_block (cs := #[.int .i64 0]) (t := 2) (fr := (0, 0)) (heap_alloc_new wr _)) (by simp [Value.oneCell']) (by omega) (by unfold maxLen; omega) (by omega) (by simp; omega) (wr.heap.size + 1) (by simp) ?_; intro g cap' w4 hown' hgrow hat hlt'; obtain ⟨hr5, hu5, c8, f8⟩ := HRW.out.append (k := 2) (r := ⟨A3, c3, x3⟩) rfl _ hown' hgrow hat (by simp); replace c8 : w4.cell? ⟨nb, 4, none⟩ = some (.slice A3 (x3).length c3) := c8; replace f8 : w4.frozen? ⟨nb, 4, none⟩ = false := f8; have PS := Lib.hid (And.intro hr5 (rnd_low HB.out HNB.out hown hu5)); clear hr5 hu5 hown hown' hgrow hat hlt')
      clear hfld c8 f8 hge
      obtain ⟨hr5, hlow⟩ := PS.out
      have HB := Lib.hid hlow
      have HRW := Lib.hid (show RowsAt (w4.setCell ⟨nb, 4, none⟩ (.slice (some ⟨g, 0, none⟩) (x3.length + 1) cap')) w.heap.size nb 50 [.bool true, .int .i64 65536] [⟨G1, C1, y1⟩, ⟨G2, C2, y2⟩, ⟨some ⟨g, 0, none⟩, cap', List.replicate (i + 1) 0⟩] [] from by rw [← HX3.out]; exact hr5)
      clear hr5 hlow PS HX3
      generalize w4.setCell ⟨nb, 4, none⟩ (.slice (some ⟨g, 0, none⟩) (x3.length + 1) cap') = wr at *
      have HFIN := Lib.hid (show RndAt w wr nb (roundN (i + 1)).ends (List.replicate (i + 1) 65537) (List.replicate (i + 1) 0) from ⟨HB.out, HNB.out, _, _, _, _, _, _, by rw [HY1.out, HY2.out]; exact HRW.out⟩)
      clear HB HNB HRW
      go_roundw
      case rel => exact ⟨i + 1, by have := HL.out; omega, by go_num, HFIN.out⟩
      case measure => simp [intOf]; omega
    · obtain rfl : i = r + 1 := by omega
      have h1 : 1 ≤ r + 1 := by omega
      have h8 : r + 1 ≤ 8 := by omega
      have hst := round_closed h1 h8
      have hrf := round_find h1 h8 addr 8
      have hra := round_all h1 h8 8 [] []
      have hfo := round_formed h1 h8
      have hlen := NodeV.pack_len hfo
      have hnr : NodeR wr (roundN (r + 1)) A1 A2 A3 c1 c2 c3 := ⟨rfl, own_ints (HRW.out.own ⟨A1, c1, (roundN (r + 1)).ends⟩ (by simp)) (by
          intro x hx
          simp only [roundN, List.mem_map, List.mem_range] at hx
          obtain ⟨j, hj, rfl⟩ := hx
          exact WfI.of (by omega)), own_ints (HRW.out.own ⟨A2, c2, List.replicate (r + 1) 65537⟩ (by simp)) (by intro x hx; rw [(List.mem_replicate.1 hx).2]; rfl), own_ints (HRW.out.own ⟨A3, c3, List.replicate (r + 1) 0⟩ (by simp)) (by intro x hx; rw [(List.mem_replicate.1 hx).2]; rfl)⟩
      have hwf := hnr.pack_wf hfo
      have hpk := ref15_pack (roundN (r + 1)) A1 A2 A3 c1 c2 c3 wr hnr hfo
      have hbk : Blk wr nb 50 #[.bool true, .int .i64 65536, .slice A1 (roundN (r + 1)).ends.length c1, .slice A2 (roundN (r + 1)).slots.length c2, .slice A3 (roundN (r + 1)).gaps.length c3] := HRW.out.blk
      have hni : (roundN (r + 1)).inner = true := rfl
      have hnl : (roundN (r + 1)).lo = 65536 := rfl
      rw [hni, hnl] at hpk
      obtain ⟨n, hn⟩ : ∃ n, roundN (r + 1) = n := ⟨_, rfl⟩
      rw [hn] at hst hrf hra hlen hwf hpk hbk
      simp only [nodeCells] at hpk
      have HPK := Lib.hid hpk
      have HBK := Lib.hid hbk
      have HST := Lib.hid hst
      have HRF := Lib.hid hrf
      have HRA := Lib.hid hra
      have HPL := Lib.hid hlen
      have HWF := Lib.hid hwf
      clear hst hrf hra hfo hlen hnr hwf hpk hbk hni hnl hn h1 h8 HRW HNB
      obtain ⟨k0, k1, k2, k3, k4⟩ := HBK.out.at5
      go_wp2_with fail
      refine HPK.out.mono ?_
      rintro e w4 ⟨g, rfl, hg, hrow, hb⟩
      replace HB := Lib.hid (below_thru HB.out hb)
      have HR := Lib.hid hrow
      clear hb hg hrow HPK k0 k1 k2 k3 k4 HBK
      replace HB := Lib.hid (below_thru HB.out (below_alloc0 w4 (.cells #[.slice (some ⟨g, 0, none⟩) 28 28] 31)))
      replace HR := Lib.hid (HR.out.thru (below_alloc0 w4 (.cells #[.slice (some ⟨g, 0, none⟩) 28 28] 31)))
      have HS := Lib.hid (Blk.new w4 31 #[.slice (some ⟨g, 0, none⟩) 28 28])
      go_wp2_with fail
      have HZ := Lib.hid (World.size_alloc w4 (.cells #[.slice (some ⟨g, 0, none⟩) 28 28] 31))
      obtain ⟨sb, hsb⟩ : ∃ x, w4.heap.size = x := ⟨_, rfl⟩
      simp only [hsb] at HS HZ ⊢
      replace hsb := Lib.hid hsb
      generalize w4.alloc (.cells #[.slice (some ⟨g, 0, none⟩) 28 28] 31) = w5 at *
      have HSL := Lib.hid (slots16' (some ⟨sb, 0, none⟩) 1 1 [⟨some ⟨g, 0, none⟩, 28, 28, n.pack⟩] w5 (rowsL_one HS.out (ArgInts.ofRow HR.out HWF.out)) (by simp) (by omega))
      have HZ2 := Lib.hid HB.out.size
      clear HZ
      refine (HSL.out).mono ?_
      rintro e w6 ⟨rfl, hb, hland⟩
      replace HB := Lib.hid (below_thru HB.out hb)
      clear hb
      have HLA := Lib.hid hland
      clear hland HR HS HSL
      obtain ⟨st, q, hq, h80, ht, hs1⟩ := tells_goFind (xs := [n.pack]) (by simp [HPL.out]) (by simp) 65537 addr
      obtain ⟨st2, q2, hq2, h1664, ht2, hs2⟩ := tells_goAll (xs := [n.pack]) (by simp [HPL.out]) (by simp) 65537
      obtain rfl := hs1 _ HST.out rfl
      obtain rfl := hs2 _ HST.out rfl
      rw [HRF.out] at ht
      rw [HRA.out] at ht2
      obtain ⟨rh, hrh⟩ : ∃ x, (findP [n.pack] addr 8 65537).1 = x := ⟨_, rfl⟩
      obtain ⟨qn, hqn⟩ : ∃ x, (findP [n.pack] addr 8 65537).2.2 = x := ⟨_, rfl⟩
      obtain ⟨qa, hqa⟩ : ∃ x, (downP [n.pack] 8 65537 [] []).2.2.2 = x := ⟨_, rfl⟩
      obtain ⟨es, hes⟩ : ∃ x, (allP [n.pack] 65537).1 = x := ⟨_, rfl⟩
      obtain ⟨ns, hns⟩ : ∃ x, (allP [n.pack] 65537).2.1 = x := ⟨_, rfl⟩
      rw [hrh, hqn] at ht
      rw [hqa, hes, hns] at ht2
      rw [hqn] at h80
      rw [hqa] at h1664
      have HT2 := Lib.hid ht2
      have HT := Lib.hid (alone_tells 65537 addr false (goFindR 65537 addr) (goFind_free _ _) (runsFind 65537 addr rfl) _ _ _ _ (land16 [n.pack]) none w6 HLA.out ht (by omega) (by rw [land16_count]; omega) (by rw [land16_count]; simp only [List.length_singleton]; omega))
      have HQ1 := Lib.hid hq
      have HQ2 := Lib.hid hq2
      have HQ3 := Lib.hid h1664
      have HQ4 := Lib.hid h80
      clear ht ht2 hs1 hs2 hrh hqn hqa hes hns hq hq2 h80 h1664 HST HRF HRA
      go_wp2_with fail
      refine HT.out.mono ?_
      rintro e w7 ⟨cs, σ2, rfl, ⟨EA, ec, NA, nc, rfl, -, -, -⟩, hla, hsame, hcnt, hstl, hu⟩
      have HB7 := Lib.hid (below_upd HB.out hu (Nat.le_refl _) (by
        have := HZ2.out
        intro x hx
        simp only [List.mem_cons, List.not_mem_nil, or_false] at hx
        omega))
      have HLA7 := Lib.hid hla
      have HLT7 := Lib.hid hla.lt
      have HT7 := Lib.hid (HT2.out.same2 hsame)
      have HCN := Lib.hid (show σ2.mu.count = 28 + (q : Int) by rw [hcnt, land16_count]; simp only [List.length_singleton]; omega)
      have HSTL := Lib.hid (show σ2.ar.stale = false by rw [hstl]; simp [land16, slotAr])
      clear hla hcnt hu HT HLA HB HT2 hsame hstl
      simp only
      replace HB7 := Lib.hid (below_thru HB7.out (below_alloc0 w7 (.cells #[.int .i64 rh, .bool false, .slice EA 0 ec, .slice NA 0 nc] 33)))
      replace HLA7 := Lib.hid (HLA7.out.thru (below_alloc0 w7 (.cells #[.int .i64 rh, .bool false, .slice EA 0 ec, .slice NA 0 nc] 33)))
      have HRB := Lib.hid (Blk.new w7 33 #[.int .i64 rh, .bool false, .slice EA 0 ec, .slice NA 0 nc])
      go_upto_region 12 with fail
      have HZ := Lib.hid (World.size_alloc w7 (.cells #[.int .i64 rh, .bool false, .slice EA 0 ec, .slice NA 0 nc] 33))
      obtain ⟨rb, hrb⟩ : ∃ x, w7.heap.size = x := ⟨_, rfl⟩
      simp only [hrb] at HRB HZ ⊢
      replace hrb := Lib.hid hrb
      generalize w7.alloc (.cells #[.int .i64 rh, .bool false, .slice EA 0 ec, .slice NA 0 nc] 33) = w8 at *
      have HAT := Lib.hid (alone_tells 65537 0 true (goAllR 65537) (goAll_free _) (runsAll 65537 0 rfl) _ _ _ _ σ2 none w8 HLA7.out HT7.out (by have := HQ3.out; omega) (by rw [HCN.out]; omega) (by rw [HCN.out]; have := HQ1.out; have := HQ2.out; omega))
      go_wp2_with fail
      refine HAT.out.mono ?_
      rintro e w9 ⟨cs, σ3, rfl, ⟨EA2, ec2, NA2, nc2, rfl, -, -, -⟩, hla, -, -, hstl, hu⟩
      have HB9 := Lib.hid (below_upd HB7.out hu (Nat.le_refl _) (by
        have := HZ2.out
        intro x hx
        simp only [List.mem_cons, List.not_mem_nil, or_false] at hx
        omega))
      have hne : ∀ x ∈ [w5.heap.size + 1, w5.heap.size, w5.heap.size + 3, w5.heap.size + 2], rb ≠ x := by
        intro x hx
        have h2 := HLT7.out x hx
        have h3 := hrb.out
        omega
      have HR9 := Lib.hid (HRB.out.upd hu (fun hin => hne _ hin rfl))
      have HLA9 := Lib.hid hla
      have HSTL9 := Lib.hid (show σ3.ar.stale = false by rw [hstl, HSTL.out]; rfl)
      clear hla hstl hu hne HAT HLA7 HB7 HRB HLT7
      simp only
      replace HB9 := Lib.hid (below_thru HB9.out (below_alloc0 w9 (.cells #[.int .i64 0, .bool false, .slice EA2 es.length ec2, .slice NA2 ns.length nc2] 33)))
      replace HR9 := Lib.hid (HR9.out.thru (below_alloc0 w9 (.cells #[.int .i64 0, .bool false, .slice EA2 es.length ec2, .slice NA2 ns.length nc2] 33)))
      replace HLA9 := Lib.hid (HLA9.out.thru (below_alloc0 w9 (.cells #[.int .i64 0, .bool false, .slice EA2 es.length ec2, .slice NA2 ns.length nc2] 33)))
      have HSB := Lib.hid (Blk.new w9 33 #[.int .i64 0, .bool false, .slice EA2 es.length ec2, .slice NA2 ns.length nc2])
      go_upto_region 13 with fail
      have HZ := Lib.hid (World.size_alloc w9 (.cells #[.int .i64 0, .bool false, .slice EA2 es.length ec2, .slice NA2 ns.length nc2] 33))
      obtain ⟨sb2, hsb2⟩ : ∃ x, w9.heap.size = x := ⟨_, rfl⟩
      simp only [hsb2] at HSB HZ ⊢
      replace hsb2 := Lib.hid hsb2
      generalize w9.alloc (.cells #[.int .i64 0, .bool false, .slice EA2 es.length ec2, .slice NA2 ns.length nc2] 33) = w10 at *
      have HSO := Lib.hid (show Calls Try.prog 25 #[.pointer (some ⟨w5.heap.size + 3, 0, none⟩)] w10 (fun e w' => e = .returned (.bool false) ∧ w10 = w') by
        have := arena_stale (w5.heap.size + 3) (w5.heap.size + 2) σ3.ar w10 HLA9.out.ar
        rw [HSTL9.out] at this
        exact this)
      have hq80 : (qn : Int) ≤ 80 := by have := HQ4.out; omega
      obtain ⟨m0, m1, m2, m3⟩ := HSB.out.at4
      obtain ⟨p0, p1, p2, p3⟩ := HR9.out.at4
      go_wp2_with fail
      refine HSO.out.mono ?_
      rintro e w11 ⟨rfl, rfl⟩
      go_wp2
      go_ret
      exact ⟨rfl, HB9.out⟩
end Go.Proofs.Ytldccemgfjmcdaa
