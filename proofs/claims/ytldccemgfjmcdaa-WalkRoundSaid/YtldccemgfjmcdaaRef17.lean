/- The reference of layer 17: of, Find. -/
import Derived.Test.YtldccemgfjmcdaaWalkP
import Derived.Test.YtldccemgfjmcdaaRef16
namespace Go.Proofs.Ytldccemgfjmcdaa
open Go.RowKit
set_option linter.unusedSimpArgs false
set_option linter.unusedVariables false

def OfPost (rows : List (RowV Int)) (h : Int) (w : World) (e : Ending) (w' : World) : Prop :=
  w' = w ∧ ((ofP (rows.map (·.zs)) h = none ∧ e = .returned (.tuple #[.slice none 0 0, .bool false])) ∨
    ∃ r, r ∈ rows ∧ ofP (rows.map (·.zs)) h = some r.zs ∧ e = .returned (.tuple #[.slice r.a r.len r.cap, .bool true]))
theorem ofP_no {xs : List (List Int)} {h : Int} (hc : h < 0 ∨ h % 65536 < 1 ∨ (xs.length : Int) < h % 65536) : ofP xs h = none := by
  have hs : ¬ (1 ≤ slotOf h ∧ slotOf h ≤ xs.length) := by unfold slotOf; split <;> omega
  unfold ofP
  rw [if_neg hs]
theorem ofP_yes {xs : List (List Int)} {h : Int} {j : Nat} (h0 : 0 ≤ h) (hj : h % 65536 = (j : Int) + 1) (hl : j < xs.length) : ofP xs h = xs[j]? := by
  have hs : slotOf h = (j : Int) + 1 := by unfold slotOf; rw [if_neg (by omega), hj]
  unfold ofP
  rw [hs, if_pos (by omega)]
  congr 1
  omega
set_option maxRecDepth 100000 in
set_option maxHeartbeats 1000000 in
theorem ref17_of (a : Option Addr) (len cap : Nat) (rows : List (RowV Int)) (h : Int) (w : World) (hr : RowsL w a len cap rows) (hw : WfI h) :
    Calls Try.prog 62 #[.slice a len cap, .int .i64 h] w (OfPost rows h w) := by
  have hle := hr.top.le
  have hm := hr.top.hm
  have hrl := hr.top.hl
  unfold maxLen at hm
  obtain ⟨hb1, hb2⟩ := hw.bounds
  have HL := Lib.hid hr
  have HE := Lib.hid (show (h < 0 ∨ h % 65536 < 1 ∨ (len : Int) < h % 65536) → OfPost rows h w (.returned (.tuple #[.slice none 0 0, .bool false])) w from fun hc => ⟨rfl, .inl ⟨ofP_no (by rw [List.length_map, hrl]; exact hc), rfl⟩⟩)
  rcases Int.lt_or_le h 0 with h0 | h0
  · have HF := Lib.hid (HE.out (.inl h0))
    clear hrl hr
    go_enter Try.func62, Try.ntmps62
    go_wp2
    go_ret2
    exact HF.out
  · have t0 : ¬ h < 0 := by omega
    by_cases t1 : h % 65536 < 1
    · have HF := Lib.hid (HE.out (.inr (.inl t1)))
      clear hrl hr
      go_enter Try.func62, Try.ntmps62
      go_wp2
      go_ret2
      exact HF.out
    · by_cases t2 : (len : Int) < h % 65536
      · have HF := Lib.hid (HE.out (.inr (.inr t2)))
        clear hrl hr
        go_enter Try.func62, Try.ntmps62
        go_wp2
        go_ret2
        exact HF.out
      · obtain ⟨j, hj⟩ : ∃ j : Nat, h % 65536 = (j : Int) + 1 := ⟨(h % 65536 - 1).toNat, by omega⟩
        have hjl : j < len := by omega
        obtain ⟨lb, off, r, ra, hrj, hc, -⟩ := HL.out.row hjl
        subst ra
        have HF := Lib.hid (show OfPost rows h w (.returned (.tuple #[.slice r.a r.len r.cap, .bool true])) w from ⟨rfl, .inr ⟨r, List.mem_of_getElem? hrj, by rw [ofP_yes h0 hj (by rw [List.length_map, hrl]; exact hjl), List.getElem?_map, hrj]; rfl, rfl⟩⟩)
        have HJ := Lib.hid hj
        have hj63 : (j : Int) ≤ 65535 := by omega
        have q1 : ¬ (j : Int) + 1 < 1 := by omega
        have q2 : ¬ (len : Int) < (j : Int) + 1 := by omega
        clear hrl hr HE hrj hj q1 q2
        go_enter Try.func62, Try.ntmps62
        go_upto_region 3 with fail
        clear t1 t2
        rw [HJ.out]
        have hj := HJ.out
        have q3 : (0 : Int) ≤ (j : Int) := by omega
        have q4 : (j : Int) < (len : Int) := by omega
        go_wp2
        go_ret2
        exact HF.out
set_option maxRecDepth 100000 in
set_option maxHeartbeats 1000000 in
theorem ref17_find (a : Option Addr) (len cap : Nat) (rows : List (RowV Int)) (root addr : Int) (w : World) (hr : RowsL w a len cap rows) (h28 : ∀ r ∈ rows, r.len = 28) (hlen : len ≤ 100) (hw : WfI root) :
    Calls Try.prog 20 #[.slice a len cap, .int .i64 root, .int .i64 addr] w fun e w' =>
      e = .returned (.tuple #[.int .i64 (findP (rows.map (·.zs)) addr 8 root).1, .bool (findP (rows.map (·.zs)) addr 8 root).2.1, .int .i64 (findP (rows.map (·.zs)) addr 8 root).2.2]) ∧ ∃ k, w' = w.drewN k := by
  have HL := Lib.hid hr
  have H28 := Lib.hid h28
  have HW := Lib.hid hw
  obtain ⟨xs, hxs⟩ : ∃ xs, rows.map (·.zs) = xs := ⟨_, rfl⟩
  rw [hxs]
  have HXS := Lib.hid hxs
  have HRL := Lib.hid (show ∀ k, RowsL (w.drewN k) a len cap rows from fun k => hr.below (below_drewN0 w k))
  clear hr h28 hw hxs
  go_enter Try.func20, Try.ntmps20
  go_wp2_with fail
  go_loopw [10, 9, 1] (fun i n r wr => ∃ (j m k : Nat) (rt : Int), j ≤ 8 ∧ i = .int .i64 j ∧ n = .int .i64 m ∧ m ≤ 10 * j ∧ r = .int .i64 rt ∧ WfI rt ∧ wr = w.drewN k ∧
    findP xs addr 8 root = ((findP xs addr (8 - j) rt).1, (findP xs addr (8 - j) rt).2.1, m + (findP xs addr (8 - j) rt).2.2)) (fun i _ _ _ => 8 - (intOf i).toNat)
  case atStart => exact ⟨0, 0, 0, root, by omega, rfl, rfl, by omega, rfl, HW.out, rfl, by simp⟩
  case round =>
    clear HW
    obtain ⟨j, m, k, rt, hj, rfl, rfl, hm10, rfl, hwr, rfl, hf⟩ := hrel
    have HF := Lib.hid hf
    have HW := Lib.hid hwr
    clear hf hwr
    by_cases hlt : j < 8
    · have HO := Lib.hid (ref17_of a len cap rows rt (w.drewN k) (HRL.out k) HW.out)
      have HFE := Lib.hid (show findP xs addr (8 - j) rt = findP xs addr ((8 - (j + 1)) + 1) rt by rw [show 8 - j = (8 - (j + 1)) + 1 by omega])
      go_wp2_with fail
      refine HO.out.mono ?_
      rintro e w2 ⟨rfl, hc⟩
      rw [HXS.out] at hc
      rcases hc with ⟨hno, rfl⟩ | ⟨r, hmem, hyes, rfl⟩
      · have HE := Lib.hid (show findP xs addr 8 root = (0, false, m + 1) by rw [HF.out, HFE.out]; simp only [findP, hno])
        clear hno HF HFE HO
        go_wp2
        refine bodyPost_ret (v := .tuple #[.int .i64 0, .bool false, .int .i64 ((m : Int) + 1)]) (by simp [results, Try.results20, go_sem]) rfl ⟨?_, k, rfl⟩
        rw [HE.out]
        rfl
      · have hrl := H28.out r hmem
        obtain ⟨ra, rn, rc, zs⟩ := r
        simp only at hrl hyes
        subst hrl
        have HI := Lib.hid ((HRL.out k).each _ hmem)
        have HK := Lib.hid (ref16_look ra rc zs addr (w.drewN k) HI.out)
        have hle10 := lookP_le zs addr
        have hslot := fun h => lookP_slot (x := zs) (addr := addr) h
        have HWQ := Lib.hid (show (lookP zs addr).2.2.1 = true → WfI (lookP zs addr).1 from fun hq => by
          obtain ⟨i, i1, ei⟩ := hslot hq
          have := headOf_le (zs.getD 0 0)
          rw [ei]
          exact HI.out.wf_at (by simp only; omega))
        have HS := Lib.hid (show findP xs addr (8 - j) rt = if (lookP zs addr).2.2.1 = false then (0, false, (lookP zs addr).2.2.2) else if (lookP zs addr).2.1 = false then ((lookP zs addr).1, true, (lookP zs addr).2.2.2)
          else ((findP xs addr (8 - (j + 1)) (lookP zs addr).1).1, (findP xs addr (8 - (j + 1)) (lookP zs addr).1).2.1, (lookP zs addr).2.2.2 + (findP xs addr (8 - (j + 1)) (lookP zs addr).1).2.2) by rw [HFE.out]; simp only [findP, hyes])
        obtain ⟨Q, hQ⟩ : ∃ Q, lookP zs addr = Q := ⟨_, rfl⟩
        simp only [hQ] at HK hle10 HWQ HS
        obtain ⟨q0, q1, q2, qn⟩ := Q
        simp only at hle10 HWQ HS
        clear hslot hyes hQ HFE HO HI hmem
        go_wp2_with fail
        refine HK.out.mono ?_
        rintro e w2 ⟨rfl, k2, rfl⟩
        have HD := Lib.hid (show (w.drewN k).drewN k2 = w.drewN (k + k2) from World.drewN_drewN _ _ _)
        rw [HD.out]
        clear HK HD
        cases q2 with
        | false =>
          have HE := Lib.hid (show findP xs addr 8 root = (0, false, m + qn) by rw [HF.out, HS.out]; rfl)
          clear HF HS
          go_wp2
          refine bodyPost_ret (v := .tuple #[.int .i64 0, .bool false, .int .i64 ((m : Int) + qn)]) (by simp [results, Try.results20, go_sem]) rfl ⟨?_, _, rfl⟩
          rw [HE.out]
          rfl
        | true =>
          cases q1 with
          | false =>
            have HE := Lib.hid (show findP xs addr 8 root = (q0, true, m + qn) by rw [HF.out, HS.out]; rfl)
            clear HF HS
            go_wp2
            refine bodyPost_ret (v := .tuple #[.int .i64 q0, .bool true, .int .i64 ((m : Int) + qn)]) (by simp [results, Try.results20, go_sem]) rfl ⟨?_, _, rfl⟩
            rw [HE.out]
            rfl
          | true =>
            have HE := Lib.hid (show findP xs addr 8 root = ((findP xs addr (8 - (j + 1)) q0).1, (findP xs addr (8 - (j + 1)) q0).2.1, (m + qn) + (findP xs addr (8 - (j + 1)) q0).2.2) by rw [HF.out, HS.out]; simp [Nat.add_assoc])
            have HW0 := Lib.hid (HWQ.out rfl)
            clear HF HS
            go_wp2
            go_roundw
            case rel => exact ⟨j + 1, m + qn, k + k2, q0, by omega, by go_num, by go_num, by omega, rfl, HW0.out, rfl, HE.out⟩
            case measure => simp [intOf]; omega
    · obtain rfl : j = 8 := by omega
      have HE := Lib.hid (show findP xs addr 8 root = (0, false, m) by rw [HF.out]; rfl)
      clear HF
      go_wp2
      refine bodyPost_ret (v := .tuple #[.int .i64 0, .bool false, .int .i64 (m : Int)]) (by simp [results, Try.results20, go_sem]) rfl ⟨?_, k, rfl⟩
      rw [HE.out]
end Go.Proofs.Ytldccemgfjmcdaa
