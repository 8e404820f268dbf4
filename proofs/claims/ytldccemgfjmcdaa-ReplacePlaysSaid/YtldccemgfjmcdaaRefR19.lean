/- The reference of layer 19: Reclaim, Reserve. -/
import Derived.Test.YtldccemgfjmcdaaRefN19
namespace Go.Proofs.Ytldccemgfjmcdaa
open Go.RowKit
set_option linter.unusedSimpArgs false
set_option linter.unusedVariables false

theorem kept_one (l : List (Int × Int)) : ∀ u ∈ l.flatMap keptCells, u.oneCell' = true := by
  intro u hu
  obtain ⟨x, -, hx⟩ := List.mem_flatMap.1 hu
  simp only [keptCells, List.mem_cons, List.not_mem_nil, or_false] at hx
  rcases hx with rfl | rfl <;> rfl
/-- What keeps Reclaim's numbers in their bounds. -/
structure RecOk (L : LS) : Prop where
  ring : ∀ e ∈ L.ring, giveOk L e.1 ∧ -100000000000 < e.2 ∧ e.2 < 100000000000
  sum : L.free.length + L.ring.length ≤ 1000
  ll : L.live.length ≤ 1000
  out : 0 ≤ L.out ∧ L.out + L.ring.length < 100000000000
theorem giveOk.of {L L' : LS} {h : Int} (a : giveOk L h) (e : L'.live.length = L.live.length) : giveOk L' h := ⟨a.1, a.2.1, a.2.2.1, by rw [e]; exact a.2.2.2⟩
theorem give_len (L : LS) (h : Int) : (L.give h).live.length = L.live.length := by simp [LS.give]
theorem RecOk.pop {L : LS} (o : RecOk L) {e : Int × Int} {l : List (Int × Int)} (he : L.ring = e :: l) : RecOk (L.pop e l) := by
  have h1 := o.sum
  have h2 := o.out
  rw [he] at h1 h2
  simp only [List.length_cons] at h1 h2
  refine ⟨fun x hx => ?_, ?_, ?_, ?_⟩
  · obtain ⟨g1, g2⟩ := o.ring x (by rw [he]; exact List.mem_cons_of_mem _ hx)
    exact ⟨g1.of (by simp [LS.pop, LS.give]), g2⟩
  · simp only [LS.pop, LS.give, List.length_cons]; omega
  · simp only [LS.pop, LS.give, List.length_set]; exact o.ll
  · simp only [LS.pop]; omega
theorem reclaim_stop {m k : Nat} {L : LS} (h : m = 0 ∨ L.ring = [] ∨ ∃ e l, L.ring = e :: l ∧ ¬ e.2 + 2 ≤ L.epoch) : LS.reclaimGo m k L = (k, L) := by
  cases m with
  | zero => rfl
  | succ m =>
    rcases h with h | h | ⟨e, l, h, hn⟩
    · omega
    · unfold LS.reclaimGo; rw [h]
    · unfold LS.reclaimGo; rw [h]; simp only; rw [if_neg hn]
theorem reclaim_go {m k : Nat} {L : LS} {e : Int × Int} {l : List (Int × Int)} (h : L.ring = e :: l) (he : e.2 + 2 ≤ L.epoch) : LS.reclaimGo (m + 1) k L = LS.reclaimGo m (k + 1) (L.pop e l) := by
  conv => { lhs; unfold LS.reclaimGo }
  rw [h]
  simp only
  rw [if_pos he]
set_option maxRecDepth 100000 in
set_option maxHeartbeats 4000000 in
theorem ref19_reclaim (most : Nat) (hmost : most ≤ 255) (B rb : Nat) (L : LS) (X : List Nat) (w : World) (h : Ref19 w B rb L X) (hX : ∀ b ∈ X, b < w.heap.size) (ho : RecOk L) (hep : WfI L.epoch) :
    Calls Try.prog 48 #[.pointer (some ⟨rb, 0, none⟩), .int .i64 most] w (RefPost w B rb (LS.reclaimGo most 0 L).2 X (.int .i64 ((LS.reclaimGo most 0 L).1 : Nat))) := by
  have HX0 := Lib.hid hX
  have HR0 := Lib.hid h
  have HO0 := Lib.hid ho
  have HEP := Lib.hid hep
  clear h hX ho hep
  obtain ⟨i0, hi0, hz0, hz1, hz2⟩ := info_parts info_kept
  go_enter Try.func48, Try.ntmps48
  go_wp2_with fail
  go_loopw [5] (fun v wr => ∃ (n : Nat) (L' : LS), n ≤ most ∧ v = .int .i64 n ∧ LS.reclaimGo most 0 L = LS.reclaimGo (most - n) n L' ∧ L'.epoch = L.epoch ∧ Ref19 wr B rb L' X ∧ Off B X w wr ∧ RecOk L') (fun v _ => most - (intOf v).toNat)
  case atStart => exact ⟨0, L, Nat.zero_le _, rfl, rfl, rfl, HR0.out, Off.refl, HO0.out⟩
  case round =>
    clear HR0 HO0
    obtain ⟨n, L', hn, rfl, hgo, hepo, ⟨A1, c1, A2, c2, A3, c3, A4, c4, hg⟩, hoff, hrec⟩ := hrel
    have HG := Lib.hid hg
    have HGO := Lib.hid hgo
    have HOF := Lib.hid hoff
    have HRC := Lib.hid hrec
    have HEO := Lib.hid hepo
    have HEW := Lib.hid (show WfI L'.epoch by rw [hepo]; exact HEP.out)
    have k3 := HG.out.field (k := 3) rfl
    simp only [FRow.val] at k3
    have k6 := HG.out.blk.at_ (i := 6) (v := .int .i64 L'.epoch) rfl
    clear hg hgo hoff hrec hepo
    have hsum := HRC.out.sum
    go_upto_region 2 with fail
    by_cases hlt : n < most
    · have hlti : (n : Int) < most := by omega
      cases hring : L'.ring with
      | nil =>
        have hstop := reclaim_stop (m := most - n) (k := n) (.inr (.inl hring))
        rw [hring] at k3
        simp only [List.length_nil] at k3
        have HE := Lib.hid (show RefPost w B rb (LS.reclaimGo most 0 L).2 X (.int .i64 ((LS.reclaimGo most 0 L).1 : Nat)) (.returned (.int .i64 n)) wr by
          rw [HGO.out, hstop]
          exact ⟨rfl, ⟨A1, c1, A2, c2, A3, c3, A4, c4, HG.out⟩, HOF.out⟩)
        clear hstop hring
        go_quiet (fail)
        go_wp2
        go_ret
        obtain ⟨e1, e2, e3⟩ := HE.out
        exact ⟨e1, e2.thru (below_drewN0 _ _), e3.thru (below_drewN0 _ _)⟩
      | cons ev l =>
        obtain ⟨hgo1, ht1, ht2⟩ := HRC.out.ring ev (by rw [hring]; simp)
        have HGI := Lib.hid hgo1
        have HRI := Lib.hid hring
        rw [hring] at k3 hsum
        simp only [List.length_cons] at k3 hsum
        obtain ⟨g4, rfl, e0, -⟩ := HG.out.elem (k := 3) (r := ⟨141, 2, A4, c4, L'.ring.length, L'.ring.flatMap keptCells⟩) rfl (j := 0) (u := .int .i64 ev.1) (by rw [hring]; rfl)
        obtain ⟨g4', hg4, e1, -⟩ := HG.out.elem (k := 3) (r := ⟨141, 2, some ⟨g4, 0, none⟩, c4, L'.ring.length, L'.ring.flatMap keptCells⟩) rfl (j := 1) (u := .int .i64 ev.2) (by rw [hring]; rfl)
        injection hg4 with hg4
        injection hg4 with hg4
        subst hg4
        have ew : IntKind.i64.wrap (ev.2 + 2) = ev.2 + 2 := IntWalk.i64_in _ (by omega)
        clear hring hgo1
        by_cases hle : ev.2 + 2 ≤ L'.epoch
        · go_quiet (fail)
          go_upto_region 3 with fail
          have HRD := Lib.hid (show Ref19 (wr.drewN nq) B rb L' X from Ref19.thru ⟨A1, c1, A2, c2, A3, c3, some ⟨g4, 0, none⟩, c4, HG.out⟩ (below_drewN0 _ _))
          have HOD := Lib.hid (HOF.out.thru (below_drewN0 wr nq))
          replace e0 : (wr.drewN nq).cell? ⟨g4, 0, none⟩ = some (.int .i64 ev.1) := e0
          replace k3 : (wr.drewN nq).cell? ⟨rb, 3, none⟩ = some (.slice (some ⟨g4, 0, none⟩) (l.length + 1) c4) := k3
          clear k6 e1 ew HG HOF
          generalize wr.drewN nq = w1 at *
          have HGV := Lib.hid (ref19_give ev.1 B rb L' X w1 HRD.out (fun b hb => Nat.lt_of_lt_of_le (HX0.out b hb) HOD.out.size) (by omega) HRC.out.ll HGI.out)
          go_wp2_with fail
          refine HGV.out.mono ?_
          rintro e w2 ⟨rfl, ⟨A1, c1, A2, c2, A3, c3, A4, c4, hg⟩, hof⟩
          have HG := Lib.hid hg
          have HOF := Lib.hid (HOD.out.trans hof)
          clear hg hof HGV HRD HOD k3 e0
          have HRI2 := Lib.hid (show (L'.give ev.1).ring = ev :: l from HRI.out)
          have k3 := HG.out.field (k := 3) rfl
          simp only [FRow.val] at k3
          rw [HRI2.out] at k3
          simp only [List.length_cons] at k3
          have hb0 := below_alloc0 w2 (.cells #[] 141)
          have HG1 := Lib.hid (HG.out.thru hb0)
          have k3' := HG1.out.field (k := 3) rfl
          simp only [FRow.val] at k3'
          rw [HRI2.out] at k3'
          simp only [List.length_cons] at k3'
          obtain ⟨g4, rfl, -, -⟩ := HG.out.elem (k := 3) (r := ⟨141, 2, A4, c4, (L'.give ev.1).ring.length, (L'.give ev.1).ring.flatMap keptCells⟩) rfl (j := 0) (u := .int .i64 ev.1) (by rw [HRI2.out]; rfl)
          have hcap := own_cap (HG.out.own ⟨141, 2, some ⟨g4, 0, none⟩, c4, (L'.give ev.1).ring.length, (L'.give ev.1).ring.flatMap keptCells⟩ (by simp [refRows]))
          simp only [HRI2.out, List.length_cons] at hcap
          have hnew := heap_alloc_new w2 (.cells #[] 141)
          have HNW := Lib.hid (show ∀ j u, (l.flatMap keptCells)[j]? = some u → (w2.alloc (.cells #[] 141)).cell? ((if c4 = 1 then (⟨g4, 0, none⟩ : Addr) else ⟨g4, 2, none⟩).add j) = some u by
            intro j u hu
            have hjl : 0 < l.length := by
              cases l with
              | nil => simp at hu
              | cons x l => simp
            rw [if_neg (by omega)]
            obtain ⟨g, hga, hc, -⟩ := HG1.out.elem (k := 3) (r := ⟨141, 2, some ⟨g4, 0, none⟩, c4, (L'.give ev.1).ring.length, (L'.give ev.1).ring.flatMap keptCells⟩) rfl (j := 2 + j) (u := u) (by rw [HRI2.out]; simp only [List.flatMap_cons]; rw [List.getElem?_append_right (by simp [keptCells])]; simpa [keptCells] using hu)
            injection hga with hga
            injection hga with hga
            subst hga
            cases j <;> simpa [Addr.add] using hc)
          have HLO := Lib.hid (show B ≤ w2.heap.size from Nat.le_trans HG.out.lo (Nat.le_of_lt HG.out.blk.lt))
          have HS0 := Lib.hid (show (w2.alloc (.cells #[] 141)).ownsRow B 141 2 (.slice (some ⟨w2.heap.size, 0, none⟩) 0 0) 0 [] from ⟨rfl, .inr ⟨w2.heap.size, 0, #[], rfl, HLO.out, hnew, Nat.le_refl _, Nat.zero_le _, rfl, rfl⟩⟩)
          have HX := Lib.hid (show ∀ b ∈ X, b < w2.heap.size from fun b hb => Nat.lt_of_lt_of_le (HX0.out b hb) HOF.out.size)
          clear hb0 hnew
          go_upto_region 5 with (at_builtin; refine wpList_append_part (P := Try.prog) _ rfl (.tmp 42) (.tmp 47) 102 rfl B 141 i0 _ 2 16 (by kernel_rfl) hi0 hz0 hz1 hz2 rfl (by decide) (some ⟨w2.heap.size, 0, none⟩) 0 0 [] rfl HS0.out _ (if c4 = 1 then (⟨g4, 0, none⟩ : Addr) else ⟨g4, 2, none⟩) l.length (c4 - 1) (l.flatMap keptCells) rfl (by split <;> rfl) (flat_len (f := keptCells) (z := 2) (fun _ => rfl) l) HNW.out (kept_one l) (by unfold maxLen; omega) (by omega) (by simp; have := HLO.out; omega) ?_; intro A' cap w4 hown hu4 hb4; simp only [Nat.zero_add, List.nil_append] at hown; obtain ⟨hg5, ho5, c8, f8⟩ := HG.out.setRow (k := 3) (w4 := w4) (r' := ⟨141, 2, A', cap, l.length, l.flatMap keptCells⟩) rfl (((Upd.refl _ _).alloc _).trans_new hu4 (by intro b hb; simp [blockOf] at hb; subst hb; exact .inr (Nat.le_refl _))) hown (show 141 ≠ 104 by decide) (fun b hb => .inr ((hb4 b hb).elim (fun h => by simp [blockOf] at h; omega) (fun h => by simp at h; omega))) HX.out; simp only [FRow.val] at c8)
          have HG5 := Lib.hid hg5
          have HO5 := Lib.hid (HOF.out.trans ho5)
          clear hg5 ho5 c8 f8 hown hu4 hb4 k3 k3' hcap HNW HS0 HG1 HOF HG
          simp only [FRow.val] at HG5 HO5 ⊢
          generalize w4.setCell ⟨rb, 3, none⟩ (.slice A' l.length cap) = w5 at *
          have f4 := HG5.out.blk.at_ (i := 4) (v := .int .i64 L'.out) rfl
          have z4 := HG5.out.blk.free 4
          have hout := HRC.out.out
          rw [HRI.out] at hout
          simp only [List.length_cons] at hout
          obtain ⟨hg6, ho6⟩ := HG5.out.putTail 0 (.int .i64 (L'.out + 1))
          have HREL := Lib.hid (show _ ∧ _ ∧ _ ∧ _ from (⟨?_, ⟨A1, c1, A2, c2, A3, c3, A', cap, ?_⟩, HO5.out.trans ho6, HRC.out.pop HRI.out⟩ : LS.reclaimGo most 0 L = LS.reclaimGo (most - (n + 1)) (n + 1) (L'.pop ev l) ∧ Ref19 (w5.setCell ⟨rb, 4, none⟩ (.int .i64 (L'.out + 1))) B rb (L'.pop ev l) X ∧ Off B X w (w5.setCell ⟨rb, 4, none⟩ (.int .i64 (L'.out + 1))) ∧ RecOk (L'.pop ev l)))
          · clear hg6 ho6 HG5 HO5
            go_wp2
            all_goals go_roundw
            all_goals first | exact ⟨n + 1, L'.pop ev l, by omega, by go_num, HREL.out.1, HEO.out, HREL.out.2⟩ | (simp [intOf]; omega)
          · rw [HGO.out, show most - n = most - (n + 1) + 1 by omega, reclaim_go HRI.out hle]
          · have := hg6
            unfold refRows at this ⊢
            simp only [List.set_cons_zero, List.set_cons_succ] at this
            exact this
        · have hstop := reclaim_stop (m := most - n) (k := n) (.inr (.inr ⟨ev, l, HRI.out, hle⟩))
          have HE := Lib.hid (show RefPost w B rb (LS.reclaimGo most 0 L).2 X (.int .i64 ((LS.reclaimGo most 0 L).1 : Nat)) (.returned (.int .i64 n)) wr by
            rw [HGO.out, hstop]
            exact ⟨rfl, ⟨A1, c1, A2, c2, A3, c3, some ⟨g4, 0, none⟩, c4, HG.out⟩, HOF.out⟩)
          clear hstop
          go_quiet (fail)
          go_wp2
          go_ret
          obtain ⟨e1, e2, e3⟩ := HE.out
          exact ⟨e1, e2.thru (below_drewN0 _ _), e3.thru (below_drewN0 _ _)⟩
    · have hlti : ¬ (n : Int) < most := by omega
      have hstop := reclaim_stop (m := most - n) (k := n) (L := L') (.inl (by omega))
      have HE := Lib.hid (show RefPost w B rb (LS.reclaimGo most 0 L).2 X (.int .i64 ((LS.reclaimGo most 0 L).1 : Nat)) (.returned (.int .i64 n)) wr by
        rw [HGO.out, hstop]
        exact ⟨rfl, ⟨A1, c1, A2, c2, A3, c3, A4, c4, HG.out⟩, HOF.out⟩)
      clear hstop
      go_quiet (fail)
      go_wp2
      go_ret
      obtain ⟨e1, e2, e3⟩ := HE.out
      exact ⟨e1, e2.thru (below_drewN0 _ _), e3.thru (below_drewN0 _ _)⟩
/-! ### Reserve -/
/-- So many takings. -/
def LS.takes : Nat → LS → List Int × LS
  | 0, L => ([], L)
  | i + 1, L => ((LS.takes i L).1 ++ [(LS.takes i L).2.take.1], (LS.takes i L).2.take.2)
/-- What keeps the takings' numbers in their bounds. -/
structure ResOk (b : Int) (L : LS) : Prop where
  fr : ∀ s ∈ L.free, 1 ≤ s ∧ s ≤ L.gen.length
  ll : L.live.length = L.gen.length
  gl : L.gen.length ≤ 1000
  fl : L.free.length ≤ 1000
  rl : L.ring.length ≤ 1000
  sm : L.Sm b
theorem ResOk.fits {b : Int} {L : LS} (h : ResOk b L) (hb : b < 100000000000) : Fits L := ⟨h.fr, h.ll, h.gl, h.fl, h.rl, h.sm.small hb⟩
theorem take_some {L : LS} {s : Nat} {l : List Nat} (hf : L.free = s :: l) : L.take = (L.gen.getD (s - 1) 0 * 65536 + 65536 + s, { L with free := l, gen := L.gen.set (s - 1) (L.gen.getD (s - 1) 0 + 1), live := L.live.set (s - 1) true }) := by
  unfold LS.take
  rw [hf]
theorem ResOk.take {b : Int} {L : LS} (h : ResOk b L) (hb : b < 100000000000) (hf : L.free ≠ []) : ResOk (b + 1) L.take.2 ∧ giveOk L L.take.1 ∧ L.take.2.live.length = L.live.length ∧ L.take.2.free = L.free.drop 1 := by
  have hsm := h.sm.take
  cases hl : L.free with
  | nil => exact absurd hl hf
  | cons s l =>
    have e := take_some hl
    have hs := h.fr s (by rw [hl]; simp)
    have hfl := h.fl
    have hg := getD_small (i := s - 1) (h.sm.small hb).1
    have hgl := h.gl
    have hll := h.ll
    rw [hl] at hfl
    simp only [List.length_cons] at hfl
    rw [e] at hsm ⊢
    refine ⟨⟨fun x hx => ?_, by simp only [List.length_set]; exact h.ll, by simp only [List.length_set]; exact h.gl, by simp only; omega, h.rl, hsm⟩, ⟨by omega, by omega, by omega, by omega⟩, by simp, rfl⟩
    simp only [List.length_set]
    exact h.fr x (by rw [hl]; exact List.mem_cons_of_mem _ hx)
structure TakesOk (b : Int) (L : LS) (i : Nat) : Prop where
  ok : ResOk (b + i) (LS.takes i L).2
  give : ∀ h ∈ (LS.takes i L).1, giveOk L h
  len : (LS.takes i L).1.length = i
  live : (LS.takes i L).2.live.length = L.live.length
  free : (LS.takes i L).2.free = L.free.drop i
theorem takes_ok {b : Int} {L : LS} (h : ResOk b L) (hb : b + L.free.length < 100000000000) : ∀ i, i ≤ L.free.length → TakesOk b L i
  | 0, _ => ⟨by simpa [LS.takes] using h, by simp [LS.takes], rfl, rfl, rfl⟩
  | i + 1, hi => by
    have ih := takes_ok h hb i (by omega)
    have hne : (LS.takes i L).2.free ≠ [] := by
      rw [ih.free]
      intro e
      have := congrArg List.length e
      simp at this
      omega
    obtain ⟨h1, h2, h3, h4⟩ := ih.ok.take (by omega) hne
    refine ⟨?_, ?_, ?_, ?_, ?_⟩
    · simp only [LS.takes]
      rw [show b + ((i + 1 : Nat) : Int) = b + i + 1 by omega]
      exact h1
    · intro x hx
      simp only [LS.takes, List.mem_append, List.mem_singleton] at hx
      rcases hx with hx | rfl
      · exact ih.give x hx
      · exact h2.of ih.live.symm
    · simp [LS.takes, ih.len]
    · simp only [LS.takes]
      rw [h3, ih.live]
    · simp only [LS.takes]
      rw [h4, ih.free, List.drop_drop]
theorem reserve_takes {b : Int} {L : LS} (h : ResOk b L) (hb : b + L.free.length < 100000000000) (k : Nat) : ∀ i, i ≤ k → i ≤ L.free.length → LS.reserveGo k [] L = LS.reserveGo (k - i) (LS.takes i L).1 (LS.takes i L).2
  | 0, _, _ => rfl
  | i + 1, hk, hi => by
    have ih := reserve_takes h hb k i (by omega) (by omega)
    have ht := takes_ok h hb i (by omega)
    rw [ih, show k - i = k - (i + 1) + 1 by omega]
    conv => { lhs; unfold LS.reserveGo }
    cases hf : (LS.takes i L).2.free with
    | nil =>
      rw [ht.free] at hf
      have := congrArg List.length hf
      simp at this
      omega
    | cons s l => rfl
theorem reserve_some {b : Int} {L : LS} (h : ResOk b L) (hb : b + L.free.length < 100000000000) {k : Nat} (hk : k ≤ L.free.length) : LS.reserveGo k [] L = (some (LS.takes k L).1, (LS.takes k L).2) := by
  rw [reserve_takes h hb k k (Nat.le_refl _) hk, Nat.sub_self]
  rfl
theorem reserve_none {b : Int} {L : LS} (h : ResOk b L) (hb : b + L.free.length < 100000000000) {k : Nat} (hk : L.free.length < k) : LS.reserveGo k [] L = (none, LS.gives (LS.takes L.free.length L).1.reverse (LS.takes L.free.length L).2) := by
  have ht := takes_ok h hb _ (Nat.le_refl _)
  rw [reserve_takes h hb k L.free.length (by omega) (Nat.le_refl _), show k - L.free.length = k - L.free.length - 1 + 1 by omega]
  conv => { lhs; unfold LS.reserveGo }
  have hf : (LS.takes L.free.length L).2.free = [] := by rw [ht.free]; simp
  rw [hf]
theorem gives_snoc : ∀ (l : List Int) (h : Int) (L : LS), LS.gives (l ++ [h]) L = (LS.gives l L).give h
  | [], _, _ => rfl
  | x :: l, h, L => gives_snoc l h (L.give x)
theorem gives_len : ∀ (l : List Int) (L : LS), (LS.gives l L).live.length = L.live.length ∧ (LS.gives l L).free.length = l.length + L.free.length
  | [], _ => ⟨rfl, by simp [LS.gives]⟩
  | x :: l, L => by
    obtain ⟨h1, h2⟩ := gives_len l (L.give x)
    refine ⟨by rw [LS.gives, h1, give_len], ?_⟩
    rw [LS.gives, h2]
    simp [LS.give]
    omega
theorem Off.own {w w' : World} {B z n c : Nat} {t : TypeId} {A : Option Addr} {xs : List Value} {X : List Nat} (h : Off B X w w') (ho : w.ownsRow B t z (.slice A n c) n xs) (hA : ∀ b ∈ blockOf A, b ∈ X) : w'.ownsRow B t z (.slice A n c) n xs := by
  obtain ⟨G, hu, hG⟩ := h
  exact ownsRow_upd ho hu fun b hb hin => (hG b hin).2 (hA b hb)
/-- A list of its own beside the reference's land. -/
structure Beside (w0 w : World) (B rb : Nat) (L : LS) (X : List Nat) (A : Option Addr) (c : Nat) (xs : List Int) : Prop where
  ref : Ref19 w B rb L (blockOf A ++ X)
  own : w.ownsRow B 2 1 (.slice A xs.length c) xs.length (i64s xs)
  new : ∀ b ∈ blockOf A, w0.heap.size ≤ b
  off : Off B X w0 w
section
variable {w0 w w' w4 : World} {B rb c : Nat} {L L' : LS} {X : List Nat} {A : Option Addr} {xs : List Int} {v : Int} {o : Obj} {g cap' : Nat}
theorem Beside.lt (h : Beside w0 w B rb L X A c xs) (hX : ∀ b ∈ X, b < w0.heap.size) : ∀ b ∈ blockOf A ++ X, b < w.heap.size := by
  intro b hb
  rcases List.mem_append.1 hb with hb | hb
  · exact ownsRow_blockLt h.own b hb
  · exact Nat.lt_of_lt_of_le (hX b hb) h.off.size
/-- The reference's land went on. -/
theorem Beside.go (h : Beside w0 w B rb L X A c xs) (hr : Ref19 w' B rb L' (blockOf A ++ X)) (ho : Off B (blockOf A ++ X) w w') : Beside w0 w' B rb L' X A c xs :=
  ⟨hr, ho.own h.own (fun b hb => List.mem_append.2 (.inl hb)), h.new, h.off.trans (ho.less fun b hb => List.mem_append.2 (.inr hb))⟩
/-- The list grew. -/
theorem Beside.push (h : Beside w0 w B rb L X A c xs) (hX : ∀ b ∈ X, b < w0.heap.size) (hown : w4.ownsRow B 2 1 (.slice (some ⟨g, 0, none⟩) (xs.length + 1) cap') (xs.length + 1) (i64s xs ++ [.int .i64 v])) (hgrow : (w.alloc o).grownBy w4 (Value.slice A xs.length c).ownBlock) (hat : (Value.slice A xs.length c).ownBlock = some g ∨ g = w.heap.size + 1) :
    Beside w0 w4 B rb L X (some ⟨g, 0, none⟩) cap' (xs ++ [v]) := by
  have hu : Upd (blockOf A) w w4 := ((Upd.refl _ _).alloc _).grown hgrow fun b hb => .inl (blockOf_own.1 hb)
  have hg : g ∈ blockOf A ∨ w.heap.size ≤ g := by
    rcases hat with e | e
    · exact .inl (blockOf_own.1 e)
    · exact .inr (by omega)
  have hwz := h.off.size
  refine ⟨?_, ?_, ?_, ?_⟩
  · have h1 : Ref19 w B rb L (g :: (blockOf A ++ X)) := h.ref.more (by
      intro b hb
      simp only [List.mem_cons] at hb
      rcases hb with rfl | hb
      · exact hg.imp (fun h => List.mem_append.2 (.inl h)) id
      · exact .inl hb)
    have h2 := h1.other hu (fun b hb => .inl (List.mem_cons_of_mem _ (List.mem_append.2 (.inl hb))))
    exact h2.more fun b hb => .inl (by
      simp only [blockOf, List.cons_append, List.nil_append, List.mem_cons] at hb
      rcases hb with rfl | hb
      · simp
      · exact List.mem_cons_of_mem _ (List.mem_append.2 (.inr hb)))
  · rw [i64s_snoc] at hown
    simpa using hown
  · intro b hb
    simp only [blockOf, List.mem_singleton] at hb
    subst hb
    rcases hg with e | e
    · exact h.new _ e
    · omega
  · refine h.off.trans ⟨blockOf A, hu, fun b hb => ⟨own_lo h.own b hb, fun hin => ?_⟩⟩
    have := h.new b hb
    have := hX b hin
    omega
end
def lenOf : Value → Nat
  | .slice _ n _ => n
  | _ => 0
/-- What Reserve answers: a list of its own. -/
def ResPost (w : World) (B rb : Nat) (L : LS) (X : List Nat) (k : Nat) (e : Ending) (w' : World) : Prop :=
  ∃ A c, e = .returned (.slice A ((LS.reserveGo k [] L).1.getD []).length c) ∧ Beside w w' B rb (LS.reserveGo k [] L).2 X A c ((LS.reserveGo k [] L).1.getD [])
set_option maxRecDepth 100000 in
set_option maxHeartbeats 4000000 in
theorem ref19_reserve (k : Nat) (hk : k ≤ 255) (b : Int) (hb : b + 2000 < 100000000000) (B rb : Nat) (L : LS) (X : List Nat) (w : World) (h : Ref19 w B rb L X) (hX : ∀ b ∈ X, b < w.heap.size) (hB : B ≤ w.heap.size) (ho : ResOk b L) :
    Calls Try.prog 47 #[.pointer (some ⟨rb, 0, none⟩), .int .i64 k] w (ResPost w B rb L X k) := by
  have HX0 := Lib.hid hX
  have HO := Lib.hid ho
  have hfl := ho.fl
  have HLO := Lib.hid hB
  have HN0 := Lib.hid (show Beside w w B rb (LS.takes 0 L).2 X none 0 (LS.takes 0 L).1 from ⟨by simpa [blockOf, LS.takes] using h, World.ownsRow_nil _ _ _ _, by simp [blockOf], Off.refl⟩)
  obtain ⟨A1, c1, A2, c2, A3, c3, A4, c4, hg⟩ := h
  have k0 := hg.field (k := 0) rfl
  simp only [FRow.val] at k0
  clear hX ho hg hB
  obtain ⟨i0, hi0, hz0, hz1, hz2⟩ := info_parts info_i64
  go_enter Try.func47, Try.ntmps47
  by_cases hfk : L.free.length < k
  · have hfki : (L.free.length : Int) < k := by omega
    have HRN := Lib.hid (reserve_none HO.out (by omega) hfk)
    go_wp2_with fail
    obtain ⟨n, hn⟩ : ∃ n, L.free.length = n := ⟨_, rfl⟩
    rw [hn] at hfl
    have HNN := Lib.hid hn
    clear hn
    go_loopw [5] (fun v wr => ∃ (i : Nat) (A : Option Addr) (c : Nat), i ≤ n ∧ v = .slice A (LS.takes i L).1.length c ∧ Beside w wr B rb (LS.takes i L).2 X A c (LS.takes i L).1) (fun v _ => n - lenOf v)
    case atStart => exact ⟨0, none, 0, by omega, rfl, HN0.out⟩
    case round =>
      clear HN0
      obtain ⟨i, A, c, hi, rfl, hbs⟩ := hrel
      have HTK := Lib.hid (takes_ok HO.out (by rw [HNN.out]; omega) i (by rw [HNN.out]; exact hi))
      obtain ⟨xs, hxs⟩ : ∃ xs, (LS.takes i L).1 = xs := ⟨_, rfl⟩
      obtain ⟨L1, hL1⟩ : ∃ L1, (LS.takes i L).2 = L1 := ⟨_, rfl⟩
      have hlen := HTK.out.len
      have hfree : L1.free.length = n - i := by rw [← hL1, HTK.out.free, List.length_drop, HNN.out]
      rw [hxs] at hlen
      rw [hxs, hL1] at hbs
      rw [hxs]
      have HXS := Lib.hid hxs
      have HL1 := Lib.hid hL1
      have HBS := Lib.hid hbs
      clear hxs hL1
      obtain ⟨A1, c1, A2, c2, A3, c3, A4, c4, hg⟩ := hbs.ref
      have k0 := hg.field (k := 0) rfl
      simp only [FRow.val] at k0
      clear hg hbs
      by_cases hlt : i < n
      · have hfr : (0 : Int) < L1.free.length := by omega
        have hxl : xs.length ≤ 1000 := by omega
        have HLN := Lib.hid hlen
        clear hlen hfree
        have HT := Lib.hid (ref19_take B rb L1 (blockOf A ++ X) wr HBS.out.ref (HBS.out.lt HX0.out) (HL1.out ▸ HTK.out.ok.fits (by omega)))
        go_wp2_with fail
        refine HT.out.mono ?_
        rintro e w2 ⟨rfl, hr, hof⟩
        have HB2 := Lib.hid (HBS.out.go hr hof)
        have hsz : w.heap.size ≤ w2.heap.size := HB2.out.off.size
        clear hr hof HT HBS k0
        go_wp2_with (at_builtin; refine wpList_append_lies (P := Try.prog) _ rfl (.tmp 22) (.tmp 25) 31 rfl B 2 i0 _ 1 8 Try.underlying31 hi0 hz0 hz1 hz2 rfl (by decide) (.slice A xs.length c) xs.length (i64s xs) rfl (HB2.out.own.alloc _) ⟨w2.heap.size, 0, none⟩ 1 1 [.int .i64 L1.take.1] rfl rfl (World.news_of_block (cs := #[.int .i64 L1.take.1]) (t := 2) (fr := (0, 0)) (heap_alloc_new w2 _)) (by simp [Value.oneCell']) (by omega) (by unfold maxLen; omega) (by omega) (by simp; have := HLO.out; omega) (w2.heap.size + 1) (by simp) ?_; intro g cap' w4 hown hgrow hat hlt'; have HB4 := Lib.hid (HB2.out.push HX0.out hown hgrow hat); clear hown hgrow hat hlt')
        have HB5 := Lib.hid (show Beside w w4 B rb (LS.takes (i + 1) L).2 X (some ⟨g, 0, none⟩) cap' (LS.takes (i + 1) L).1 from by
          have := HB4.out
          rw [← HL1.out, ← HXS.out] at this
          exact this)
        have HLE := Lib.hid (show (LS.takes (i + 1) L).1.length = xs.length + 1 by rw [← HXS.out]; simp [LS.takes])
        go_roundw
        case rel => exact ⟨i + 1, _, cap', by omega, by rw [HLE.out], HB5.out⟩
        case measure => simp only [lenOf]; have := HLN.out; omega
      · obtain rfl : i = n := by omega
        have hfr : ¬ (0 : Int) < L1.free.length := by omega
        have hnx : (xs.length : Int) ≤ 1000 := by omega
        have HLN := Lib.hid hlen
        clear hfree hlen hlt
        go_wp2_with fail
        clear k0
        go_loopw [6] (fun v wr => ∃ j : Nat, j ≤ xs.length ∧ v = .int .i64 ((xs.length : Int) - 1 - j) ∧ Beside w wr B rb (LS.gives (xs.reverse.take j) L1) X A c xs) (fun v _ => (intOf v + 1).toNat)
        case atStart => exact ⟨0, by omega, by simp, by simpa [LS.gives] using HBS.out⟩
        case round =>
          clear HBS
          obtain ⟨j, hj, rfl, hbs⟩ := hrel
          by_cases hlt : j < xs.length
          · obtain ⟨q, hq⟩ : ∃ q : Nat, (xs.length : Int) - 1 - j = (q : Int) := ⟨xs.length - 1 - j, by omega⟩
            have hql : q < xs.length := by omega
            have hqi : (q : Int) < xs.length := by omega
            rw [hq]
            have hx := i64s_at hql
            obtain ⟨g1, rfl, e1, -⟩ := own_at hbs.own hx
            have hmem : xs.getD q 0 ∈ xs := by rw [List.getD_eq_getElem?_getD, List.getElem?_eq_getElem hql]; exact List.getElem_mem _
            obtain ⟨y, hy⟩ : ∃ y, xs.getD q 0 = y := ⟨_, rfl⟩
            have hgl := gives_len (xs.reverse.take j) L1
            have hgi : giveOk (LS.gives (xs.reverse.take j) L1) y := by
              rw [← hy]
              refine (HTK.out.give _ (by rw [HXS.out]; exact hmem)).of ?_
              rw [hgl.1, ← HL1.out, HTK.out.live]
            have hf0 : L1.free.length = 0 := by omega
            have hll : (LS.gives (xs.reverse.take j) L1).live.length ≤ 1000 := by
              rw [hgl.1, ← HL1.out]
              have := HTK.out.ok.ll
              have := HTK.out.ok.gl
              omega
            have HSN := Lib.hid (show LS.gives (xs.reverse.take (j + 1)) L1 = (LS.gives (xs.reverse.take j) L1).give y by
              rw [List.take_add_one, List.getElem?_reverse hlt, show xs.length - 1 - j = q by omega, List.getElem?_eq_getElem hql, Option.toList_some, gives_snoc, ← hy, List.getD_eq_getElem?_getD, List.getElem?_eq_getElem hql]
              rfl)
            rw [hy] at e1
            have HGV := Lib.hid (ref19_give y B rb _ (blockOf (some (⟨g1, 0, none⟩ : Addr)) ++ X) wr hbs.ref (hbs.lt HX0.out) (by rw [hgl.2, List.length_take]; omega) hll hgi)
            have HBS := Lib.hid hbs
            have HQ := Lib.hid hq
            clear hx hmem hy hgl hgi hll hbs hq hf0
            go_wp2_with fail
            refine HGV.out.mono ?_
            rintro e w2 ⟨rfl, hr, hof⟩
            have HB2 := Lib.hid (HBS.out.go hr hof)
            rw [← HSN.out] at HB2
            clear hr hof HGV HBS e1
            go_wp2
            go_roundw
            case rel => exact ⟨j + 1, by omega, by have := HQ.out; congr 1; omega, HB2.out⟩
            case measure => simp only [intOf]; omega
          · obtain rfl : j = xs.length := by omega
            have hneg : ¬ (0 : Int) ≤ (xs.length : Int) - 1 - xs.length := by omega
            have HE := Lib.hid (show ResPost w B rb L X k (.returned (.slice none 0 0)) wr from by
              unfold ResPost
              rw [HRN.out]
              refine ⟨none, 0, rfl, ?_⟩
              have hb' := hbs
              rw [List.take_of_length_le (by simp)] at hb'
              simp only [Option.getD_none]
              rw [HNN.out, HXS.out, HL1.out]
              exact ⟨hb'.ref.more (fun b hb => .inl (List.mem_append.2 (.inr (by simpa [blockOf] using hb)))), World.ownsRow_nil _ _ _ _, by simp [blockOf], hb'.off⟩)
            clear hbs
            go_wp2
            go_ret
            exact HE.out
  · have hfki : ¬ (L.free.length : Int) < k := by omega
    have HRS := Lib.hid (reserve_some HO.out (by omega) (show k ≤ L.free.length by omega))
    have HKF := Lib.hid (show k ≤ L.free.length by omega)
    go_wp2_with fail
    clear k0
    go_loopw [7, 8] (fun v x wr => ∃ (i : Nat) (A : Option Addr) (c : Nat), i ≤ k ∧ v = .slice A (LS.takes i L).1.length c ∧ x = .int .i64 i ∧ Beside w wr B rb (LS.takes i L).2 X A c (LS.takes i L).1) (fun _ x _ => k - (intOf x).toNat)
    case atStart => exact ⟨0, none, 0, by omega, rfl, rfl, HN0.out⟩
    case round =>
      clear HN0
      obtain ⟨i, A, c, hi, rfl, rfl, hbs⟩ := hrel
      have HTK := Lib.hid (takes_ok HO.out (by omega) i (by have := HKF.out; omega))
      obtain ⟨xs, hxs⟩ : ∃ xs, (LS.takes i L).1 = xs := ⟨_, rfl⟩
      obtain ⟨L1, hL1⟩ : ∃ L1, (LS.takes i L).2 = L1 := ⟨_, rfl⟩
      have hlen := HTK.out.len
      rw [hxs] at hlen
      rw [hxs, hL1] at hbs
      rw [hxs]
      have HXS := Lib.hid hxs
      have HL1 := Lib.hid hL1
      have HBS := Lib.hid hbs
      have HLN := Lib.hid hlen
      have hxl : xs.length ≤ 1000 := by omega
      clear hxs hL1 hbs hlen
      by_cases hlt : i < k
      · have hlti : (i : Int) < k := by omega
        have k0 := True.intro
        have HT := Lib.hid (ref19_take B rb L1 (blockOf A ++ X) wr HBS.out.ref (HBS.out.lt HX0.out) (HL1.out ▸ HTK.out.ok.fits (by omega)))
        go_wp2_with fail
        refine HT.out.mono ?_
        rintro e w2 ⟨rfl, hr, hof⟩
        have HB2 := Lib.hid (HBS.out.go hr hof)
        have hsz : w.heap.size ≤ w2.heap.size := HB2.out.off.size
        clear hr hof HT HBS k0
        go_wp2_with (at_builtin; refine wpList_append_lies (P := Try.prog) _ rfl (.tmp 45) (.tmp 48) 31 rfl B 2 i0 _ 1 8 Try.underlying31 hi0 hz0 hz1 hz2 rfl (by decide) (.slice A xs.length c) xs.length (i64s xs) rfl (HB2.out.own.alloc _) ⟨w2.heap.size, 0, none⟩ 1 1 [.int .i64 L1.take.1] rfl rfl (World.news_of_block (cs := #[.int .i64 L1.take.1]) (t := 2) (fr := (0, 0)) (heap_alloc_new w2 _)) (by simp [Value.oneCell']) (by omega) (by unfold maxLen; omega) (by omega) (by simp; have := HLO.out; omega) (w2.heap.size + 1) (by simp) ?_; intro g cap' w4 hown hgrow hat hlt'; have HB4 := Lib.hid (HB2.out.push HX0.out hown hgrow hat); clear hown hgrow hat hlt')
        have HB5 := Lib.hid (show Beside w w4 B rb (LS.takes (i + 1) L).2 X (some ⟨g, 0, none⟩) cap' (LS.takes (i + 1) L).1 from by
          have := HB4.out
          rw [← HL1.out, ← HXS.out] at this
          exact this)
        have HLE := Lib.hid (show (LS.takes (i + 1) L).1.length = xs.length + 1 by rw [← HXS.out]; simp [LS.takes])
        go_roundw
        case rel => exact ⟨i + 1, _, cap', by omega, by rw [HLE.out], by go_num, HB5.out⟩
        case measure => simp only [intOf]; omega
      · obtain rfl : i = k := by omega
        have HE := Lib.hid (show ResPost w B rb L X i (.returned (.slice A xs.length c)) wr from by
          unfold ResPost
          rw [HRS.out, HXS.out, HL1.out]
          exact ⟨A, c, rfl, HBS.out⟩)
        clear HBS
        go_wp2
        go_ret
        exact HE.out
end Go.Proofs.Ytldccemgfjmcdaa
