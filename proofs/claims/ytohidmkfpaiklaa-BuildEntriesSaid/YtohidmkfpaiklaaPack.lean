/- Layer 15 (slot): filled, Pack, each called alone; and the reference's Formed, Pack. -/
import Derived.Test.YtohidmkfpaiklaaSlot
import Derived.Test.YtohidmkfpaiklaaZeros
import Derived.Deep.AppendLies
namespace Go.Proofs.Ytohidmkfpaiklaa
open Go.RowKit
set_option linter.unusedSimpArgs false
set_option linter.unusedVariables false

theorem under_int : Try.prog.underlying 3 = some (.int .i64) := by kernel_rfl
theorem under_ints : Try.prog.underlying 23 = some (.slice 2) := by kernel_rfl
def i64s (xs : List Int) : List Value := xs.map (Value.int .i64)
theorem i64s_app (xs ys : List Int) : i64s xs ++ i64s ys = i64s (xs ++ ys) := by simp [i64s]
theorem i64s_zeros (k : Nat) : List.replicate k (Value.int .i64 0) = i64s (zeros k) := by simp [i64s, zeros]
theorem i64s_one (xs : List Int) : ∀ u ∈ i64s xs, u.oneCell' = true := by
  intro u hu
  simp only [i64s, List.mem_map] at hu
  obtain ⟨x, _, rfl⟩ := hu
  rfl
theorem i64s_len (xs : List Int) : (i64s xs).length = xs.length := by simp [i64s]
theorem ArgInts.news {w : World} {b o n c : Nat} {zs : List Int} (h : ArgInts .i64 w (some ⟨b, o, none⟩) n c zs) : ∀ j u, (i64s zs)[j]? = some u → w.cell? ((⟨b, o, none⟩ : Addr).add j) = some u := by
  intro j u hu
  rcases h.reads with h0 | ⟨b', off, ha, _, hc⟩
  · simp only [List.map_eq_nil_iff] at h0
    subst h0
    simp [i64s] at hu
  · injection ha with ha
    injection ha with h1 h2
    subst h1 h2
    have hadd : (⟨b, o, none⟩ : Addr).add j = ⟨b, o + j, none⟩ := by unfold Addr.add; split <;> simp_all
    rw [hadd]
    exact hc j u hu

set_option maxRecDepth 100000 in
theorem slot_filled (B g n cap k N : Nat) (xs : List Int) (w : World) (hown : w.ownsRow B 2 1 (.slice (some ⟨g, 0, none⟩) n cap) n (i64s xs)) (hN : n + k = N) (hN1 : N ≤ 1000) (hB : B ≤ w.heap.size) :
    Calls Try.prog 82 #[.slice (some ⟨g, 0, none⟩) n cap, .int .i64 N] w fun e w' =>
      ∃ g' cap', e = .returned (.slice (some ⟨g', 0, none⟩) N cap') ∧ w'.ownsRow B 2 1 (.slice (some ⟨g', 0, none⟩) N cap') N (i64s (xs ++ zeros k)) ∧ w.grownBy w' (some g) ∧ (g' = g ∨ g' = w.heap.size) := by
  obtain ⟨i0, hi, hz0, hz1, hz2⟩ := info_parts info_i64
  have e1 : IntKind.i64.wrap ((N : Int) - n) = k := by rw [IntKind.wrap_i64]; omega
  have e2 : (N : Int) - n = k := by omega
  have HN := Lib.hid hN
  clear hN
  go_enter Try.func82, Try.ntmps82
  go_wp2_with (at_builtin; refine wpList_append_zeros _ rfl (.tmp 5) (.tmp 9) 23 3 rfl B 2 i0 (.int .i64 0) 8 .i64 .i64 under_ints under_int hi hz0 hz1 hz2 rfl rfl g n cap (i64s xs) rfl hown k rfl ?c1 ?c2 hB ?_)
  case c1 => unfold maxLen; have := HN.out; omega
  case c2 => have := HN.out; omega
  intro g' cap' w1 hown' hgrow hg
  rw [i64s_zeros, i64s_app] at hown'
  rw [HN.out] at hown' ⊢
  have HO := Lib.hid hown'
  have HG := Lib.hid hgrow
  clear hown' hgrow hown e1 e2
  go_wp2
  go_ret
  exact ⟨g', cap', rfl, HO.out, HG.out, hg⟩
/-- A row that grew: what was below stays. -/
theorem grown_below {B g : Nat} {w0 w w' : World} (h : Below B w0 w) (hg : w.grownBy w' (some g)) (hB : B ≤ w.heap.size) (hgB : B ≤ g) : Below B w0 w' := h.grown hg hB (fun k hk => by injection hk with hk; omega)
/-- What Pack answers: a node's words, in new memory, or nothing. -/
def PackPost (w : World) (n : NodeV) (e : Ending) (w' : World) : Prop := Below w.heap.size w w' ∧
  ((n.formedB = false ∧ e = .returned (.slice none 0 0)) ∨ (n.formedB = true ∧ ∃ g cap, e = .returned (.slice (some ⟨g, 0, none⟩) 28 cap) ∧ w.heap.size ≤ g ∧ Row w' 2 1 g 28 cap (i64s n.pack)))
set_option maxRecDepth 100000 in
set_option maxHeartbeats 2000000 in
theorem slot_pack (n : NodeV) (a1 a2 a3 : Option Addr) (c1 c2 c3 : Nat) (w : World) (h : NodeR w n a1 a2 a3 c1 c2 c3) :
    Calls Try.prog 55 #[.agg (nodeCells n.inner n.lo a1 a2 a3 n.ends.length n.slots.length n.gaps.length c1 c2 c3)] w (PackPost w n) := by
  have hb : ∀ o : Obj, Below w.heap.size w (w.alloc o) := fun o => (Below.refl _ _).alloc (Nat.le_refl _) _
  have HF := Lib.hid (fun (w1 : World) (hw : Below w.heap.size w w1) => slot_formed n a1 a2 a3 c1 c2 c3 w1 (h.below hw))
  have HH := Lib.hid h
  cases hf : n.formedB with
  | false =>
    rw [hf] at HF
    have HNF := Lib.hid hf
    clear hf h
    unfold nodeCells at HF ⊢
    generalize n.ends.length = k1 at *
    generalize n.slots.length = k2 at *
    generalize n.gaps.length = k3 at *
    go_enter Try.func55, Try.ntmps55
    go_wp2_with fail
    refine (HF.out _ (hb _)).mono ?_
    rintro e w1 ⟨rfl, hb1⟩
    go_wp2
    go_ret
    exact ⟨below_then (hb _) hb1 (Nat.le_refl _), .inl ⟨HNF.out, rfl⟩⟩
  | true =>
    obtain ⟨h1, h2, h3, h4, -⟩ := NodeV.formed_iff hf
    rw [hf] at HF
    have HPK := Lib.hid (show n.pack = [n.head, n.lo] ++ n.ends ++ zeros (8 - n.ends.length) ++ n.slots ++ zeros (8 - n.slots.length) ++ n.gaps ++ zeros (10 - n.gaps.length) from rfl)
    rw [h3, h4] at HF HPK ⊢
    obtain ⟨b1, o1, rfl, -⟩ := h.e.at_ (j := 0) (by omega)
    obtain ⟨b2, o2, rfl, -⟩ := h.s.at_ (j := 0) (by omega)
    obtain ⟨b3, o3, rfl, -⟩ := h.g.at_ (j := 0) (by omega)
    have he := h.e
    have hs := h.s
    have hg := h.g
    rw [h3] at hs
    rw [h4] at hg
    have HE := Lib.hid he
    have HS := Lib.hid hs
    have HG := Lib.hid hg
    have hel := he.hl
    have hsl := hs.hl
    have hgl := hg.hl
    have HHD := Lib.hid (show n.head = (if n.inner = true then 2 else 1) + 16 * (n.ends.length : Int) from rfl)
    obtain ⟨k, hk⟩ : ∃ k, n.ends.length = k := ⟨_, rfl⟩
    rw [hk] at HF HPK HE HS HG HHD h1 h2 ⊢
    rw [hk] at hsl hgl
    have hB0 := Blk.new w 43 (nodeCells n.inner n.lo (some ⟨b1, o1, none⟩) (some ⟨b2, o2, none⟩) (some ⟨b3, o3, none⟩) k k k c1 c2 c3)
    have hw1 := hb (.cells (nodeCells n.inner n.lo (some ⟨b1, o1, none⟩) (some ⟨b2, o2, none⟩) (some ⟨b3, o3, none⟩) k k k c1 c2 c3) 43)
    have HEL := Lib.hid hk
    have HSL := Lib.hid hsl
    have HGL := Lib.hid hgl
    unfold nodeCells at HF hB0 hw1 ⊢
    have HNF := Lib.hid hf
    clear hf h he hs hg h3 h4 hk hel hsl hgl
    generalize n.lo = lo at *
    obtain ⟨hd, hhd⟩ : ∃ hd, n.head = hd := ⟨_, rfl⟩
    rw [hhd] at HHD HPK
    clear hhd
    have hk1 : (k : Int) ≤ 8 := by omega
    have hk0 : (1 : Int) ≤ k := by omega
    obtain ⟨ih, hih⟩ : ∃ ih : Int, (if n.inner = true then 2 else 1) = ih := ⟨_, rfl⟩
    have hih1 : 1 ≤ ih ∧ ih ≤ 2 := by rw [← hih]; split <;> omega
    obtain ⟨hih1, hih2⟩ := hih1
    rw [hih] at HHD
    have HIH := Lib.hid hih
    clear hih
    obtain ⟨i0, hi, hz0, hz1, hz2⟩ := info_parts info_i64
    go_enter Try.func55, Try.ntmps55
    go_wp2_with fail
    refine (HF.out _ hw1).mono ?_
    rintro e w1 ⟨rfl, hb1⟩
    have hw2 := below_then hw1 hb1 (Nat.le_refl _)
    have hB1 := hB0.below hb1 hB0.lt
    clear hw1 hb1 hB0
    obtain ⟨nb, hnb⟩ : ∃ nb, w.heap.size = nb := ⟨_, rfl⟩
    rw [hnb] at hB1 ⊢
    have HNB := Lib.hid hnb
    rw [hnb] at hw2
    clear hnb
    have t0 := hB1.at_ (i := 0) rfl
    have t1 := hB1.at_ (i := 1) rfl
    have t2 := hB1.at_ (i := 2) rfl
    simp only [List.getElem_toArray, List.getElem_cons_succ, List.getElem_cons_zero] at t0 t1 t2
    go_upto_if 9 with fail
    go_cut [3] (fun v wc => v = .int .i64 ih ∧ w1 = wc)
    case first =>
      go_wp2
      all_goals go_meet
      all_goals exact ⟨by first | (rw [← HIH.out, if_pos (by assumption)]; done) | (rw [← HIH.out, if_neg (by simp_all)]; done), rfl⟩
    case rest =>
      rename_i hcut
      obtain ⟨rfl, rfl⟩ := hcut
      go_upto_region 7 with fail
      have hB2 := hB1.alloc (.cells #[.int .i64 (ih + 16 * (k : Int)), .int .i64 lo] 2)
      have hnbw := hw2.size
      rw [HNB.out] at hnbw
      have hw3 := hw2.alloc hnbw (.cells #[.int .i64 (ih + 16 * (k : Int)), .int .i64 lo] 2)
      have hown : (w1.alloc (.cells #[.int .i64 (ih + 16 * (k : Int)), .int .i64 lo] 2)).ownsRow nb 2 1 (.slice (some ⟨w1.heap.size, 0, none⟩) 2 2) 2 (i64s [hd, lo]) := by
        rw [HHD.out]
        exact (Row.made (Blk.new w1 2 #[.int .i64 (ih + 16 * (k : Int)), .int .i64 lo]) (by show 2 ≤ maxLen; unfold maxLen; omega)).toOwn hnbw
      have hgn : nb < w1.heap.size := hB1.lt
      have HLO := Lib.hid t1
      generalize w1.alloc (.cells #[.int .i64 (ih + 16 * (k : Int)), .int .i64 lo] 2) = w3 at *
      generalize w1.heap.size = g0 at *
      clear hB1 hw2 t0 t1 t2 HLO hnbw
      have t1 := hB2.at_ (i := 2) rfl
      simp only [List.getElem_toArray, List.getElem_cons_succ, List.getElem_cons_zero] at t1
      have hnbw1 : nb ≤ w3.heap.size := Nat.le_of_lt hB2.lt
      have hbel1 : Below w.heap.size w w3 := by rw [HNB.out]; exact hw3
      have hnews1 := (HE.out.below hbel1 (Nat.le_refl _)).news
      have hone1 := i64s_one n.ends
      have hlen1 : (i64s n.ends).length = k * 1 := by rw [i64s_len, HEL.out, Nat.mul_one]
      have HN1 := Lib.hid hnews1
      have HL1 := Lib.hid hlen1
      clear hnews1 hlen1 hbel1
      go_wp2_with (at_builtin; refine wpList_append_lies _ rfl (.tmp 19) (.tmp 21) 23 rfl nb 2 i0 (.int .i64 0) 1 8 under_ints hi hz0 hz1 hz2 rfl (by omega) _ 2 (i64s [hd, lo]) rfl hown ⟨b1, o1, none⟩ k c1 (i64s n.ends) rfl HL1.out HN1.out hone1 (by omega) (by unfold maxLen; omega) (by omega) hnbw1 w3.heap.size rfl ?_)
      intro ga1 ca1 w4 howna hgrow hat hlta
      rw [i64s_app] at howna
      obtain ⟨X1, hX1⟩ : ∃ X, [hd, lo] ++ n.ends = X := ⟨_, rfl⟩
      rw [hX1] at howna
      have HX1 := Lib.hid hX1
      clear hX1
      have hat' : ga1 = g0 ∨ ga1 = w3.heap.size := by
        rcases hat with h | h
        · left; simpa [Value.ownBlock] using h.symm
        · right; exact h
      have hga : nb < ga1 := by
        rcases hat' with h | h
        · omega
        · have := hB2.lt; omega
      have hB3 := hB2.grown hgrow (by simp [Value.ownBlock]; omega)
      have hw4 : Below nb w w4 := grown_below hw3 hgrow hnbw1 (show nb ≤ g0 by omega)
      have HFI := Lib.hid (slot_filled nb ga1 (2 + k) ca1 (8 - k) 10 _ w4 howna (by omega) (by omega) (Nat.le_of_lt hB3.lt)) 
      clear hB2 hw3 hown hgrow hat hlta hat' howna t1 HN1 HL1 hone1 hnbw1 hgn
      go_wp2_with fail
      refine HFI.out.mono ?_
      rintro e w5 ⟨gb1, cb1, rfl, hownb, hgrowb, hatb⟩
      have hgn : nb < gb1 := by
        rcases hatb with h | h
        · omega
        · have := hB3.lt; omega
      have hw3 : Below nb w w5 := grown_below hw4 hgrowb (Nat.le_of_lt hB3.lt) (by omega)
      have hB2 := hB3.grown hgrowb (by simp; omega)
      have hown := hownb
      obtain ⟨Y1, hY1⟩ : ∃ Y, X1 ++ zeros (8 - k) = Y := ⟨_, rfl⟩
      rw [hY1] at hown
      have HY1 := Lib.hid hY1
      clear hY1
      clear hB3 hw4 hownb hgrowb hatb hga HFI
      go_upto_region 8 with fail
      have t2 := hB2.at_ (i := 3) rfl
      simp only [List.getElem_toArray, List.getElem_cons_succ, List.getElem_cons_zero] at t2
      have hnbw2 : nb ≤ w5.heap.size := Nat.le_of_lt hB2.lt
      have hbel2 : Below w.heap.size w w5 := by rw [HNB.out]; exact hw3
      have hnews2 := (HS.out.below hbel2 (Nat.le_refl _)).news
      have hone2 := i64s_one n.slots
      have hlen2 : (i64s n.slots).length = k * 1 := by rw [i64s_len, HSL.out, Nat.mul_one]
      have HN2 := Lib.hid hnews2
      have HL2 := Lib.hid hlen2
      clear hnews2 hlen2 hbel2
      go_wp2_with (at_builtin; refine wpList_append_lies _ rfl (.tmp 24) (.tmp 26) 23 rfl nb 2 i0 (.int .i64 0) 1 8 under_ints hi hz0 hz1 hz2 rfl (by omega) _ 10 (i64s Y1) rfl hown ⟨b2, o2, none⟩ k c2 (i64s n.slots) rfl HL2.out HN2.out hone2 (by omega) (by unfold maxLen; omega) (by omega) hnbw2 w5.heap.size rfl ?_)
      intro ga2 ca2 w6 howna hgrow hat hlta
      rw [i64s_app] at howna
      obtain ⟨X2, hX2⟩ : ∃ X, Y1 ++ n.slots = X := ⟨_, rfl⟩
      rw [hX2] at howna
      have HX2 := Lib.hid hX2
      clear hX2
      have hat' : ga2 = gb1 ∨ ga2 = w5.heap.size := by
        rcases hat with h | h
        · left; simpa [Value.ownBlock] using h.symm
        · right; exact h
      have hga : nb < ga2 := by
        rcases hat' with h | h
        · omega
        · have := hB2.lt; omega
      have hB3 := hB2.grown hgrow (by simp [Value.ownBlock]; omega)
      have hw4 : Below nb w w6 := grown_below hw3 hgrow hnbw2 (show nb ≤ gb1 by omega)
      have HFI := Lib.hid (slot_filled nb ga2 (10 + k) ca2 (8 - k) 18 _ w6 howna (by omega) (by omega) (Nat.le_of_lt hB3.lt)) 
      clear hB2 hw3 hown hgrow hat hlta hat' howna t2 HN2 HL2 hone2 hnbw2 hgn
      go_wp2_with fail
      refine HFI.out.mono ?_
      rintro e w7 ⟨gb2, cb2, rfl, hownb, hgrowb, hatb⟩
      have hgn : nb < gb2 := by
        rcases hatb with h | h
        · omega
        · have := hB3.lt; omega
      have hw3 : Below nb w w7 := grown_below hw4 hgrowb (Nat.le_of_lt hB3.lt) (by omega)
      have hB2 := hB3.grown hgrowb (by simp; omega)
      have hown := hownb
      obtain ⟨Y2, hY2⟩ : ∃ Y, X2 ++ zeros (8 - k) = Y := ⟨_, rfl⟩
      rw [hY2] at hown
      have HY2 := Lib.hid hY2
      clear hY2
      clear hB3 hw4 hownb hgrowb hatb hga HFI
      go_upto_region 9 with fail
      have t3 := hB2.at_ (i := 4) rfl
      simp only [List.getElem_toArray, List.getElem_cons_succ, List.getElem_cons_zero] at t3
      have hnbw3 : nb ≤ w7.heap.size := Nat.le_of_lt hB2.lt
      have hbel3 : Below w.heap.size w w7 := by rw [HNB.out]; exact hw3
      have hnews3 := (HG.out.below hbel3 (Nat.le_refl _)).news
      have hone3 := i64s_one n.gaps
      have hlen3 : (i64s n.gaps).length = k * 1 := by rw [i64s_len, HGL.out, Nat.mul_one]
      have HN3 := Lib.hid hnews3
      have HL3 := Lib.hid hlen3
      clear hnews3 hlen3 hbel3
      go_wp2_with (at_builtin; refine wpList_append_lies _ rfl (.tmp 29) (.tmp 31) 23 rfl nb 2 i0 (.int .i64 0) 1 8 under_ints hi hz0 hz1 hz2 rfl (by omega) _ 18 (i64s Y2) rfl hown ⟨b3, o3, none⟩ k c3 (i64s n.gaps) rfl HL3.out HN3.out hone3 (by omega) (by unfold maxLen; omega) (by omega) hnbw3 w7.heap.size rfl ?_)
      intro ga3 ca3 w8 howna hgrow hat hlta
      rw [i64s_app] at howna
      obtain ⟨X3, hX3⟩ : ∃ X, Y2 ++ n.gaps = X := ⟨_, rfl⟩
      rw [hX3] at howna
      have HX3 := Lib.hid hX3
      clear hX3
      have hat' : ga3 = gb2 ∨ ga3 = w7.heap.size := by
        rcases hat with h | h
        · left; simpa [Value.ownBlock] using h.symm
        · right; exact h
      have hga : nb < ga3 := by
        rcases hat' with h | h
        · omega
        · have := hB2.lt; omega
      have hB3 := hB2.grown hgrow (by simp [Value.ownBlock]; omega)
      have hw4 : Below nb w w8 := grown_below hw3 hgrow hnbw3 (show nb ≤ gb2 by omega)
      have HFI := Lib.hid (slot_filled nb ga3 (18 + k) ca3 (10 - k) 28 _ w8 howna (by omega) (by omega) (Nat.le_of_lt hB3.lt)) 
      clear hB2 hw3 hown hgrow hat hlta hat' howna t3 HN3 HL3 hone3 hnbw3 hgn
      go_wp2_with fail
      refine HFI.out.mono ?_
      rintro e w9 ⟨gb3, cb3, rfl, hownb, hgrowb, hatb⟩
      have hgn : nb < gb3 := by
        rcases hatb with h | h
        · omega
        · have := hB3.lt; omega
      have hw3 : Below nb w w9 := grown_below hw4 hgrowb (Nat.le_of_lt hB3.lt) (by omega)
      have hB2 := hB3.grown hgrowb (by simp; omega)
      have hown := hownb
      obtain ⟨Y3, hY3⟩ : ∃ Y, X3 ++ zeros (10 - k) = Y := ⟨_, rfl⟩
      rw [hY3] at hown
      have HY3 := Lib.hid hY3
      clear hY3
      clear hB3 hw4 hownb hgrowb hatb hga HFI
      obtain ⟨hr, -⟩ := Rows'.ofOwn hown
      rcases hr with ⟨h0, _⟩ | ⟨g', cap', h0, hrow⟩
      · cases h0
      · injection h0 with e1 e2 e3
        injection e1 with e1
        injection e1 with e1
        subst e1 e3
        have hY : Y3 = n.pack := by rw [HPK.out, ← HY3.out, ← HX3.out, ← HY2.out, ← HX2.out, ← HY1.out, ← HX1.out]
        rw [hY] at hrow
        clear hY
        have HRR := Lib.hid hrow
        have HW := Lib.hid hw3
        have hgl : nb ≤ gb3 := by omega
        clear hrow hown hw3 hB2
        go_wp2
        go_ret
        exact ⟨by rw [HNB.out]; exact HW.out, .inr ⟨HNF.out, gb3, cb3, rfl, by rw [HNB.out]; exact hgl, HRR.out⟩⟩
end Go.Proofs.Ytohidmkfpaiklaa
