/- Law 17's words: 28 words of each slot; few. -/
import Derived.Test.YtldccemgfjmcdaaRef17
namespace Go.Proofs.Ytldccemgfjmcdaa
open Go.RowKit
set_option linter.unusedSimpArgs false
set_option linter.unusedVariables false

def rowVals (rows : List (RowV Int)) : List Value := rows.map fun r => .slice r.a r.len r.cap
/-- A row of 28 words of its own. -/
def Own28 (B : Nat) (w : World) (r : RowV Int) : Prop := r.len = 28 ∧ r.cap = 28 ∧ r.zs.length = 28 ∧ (∀ x ∈ r.zs, WfI x) ∧ ∃ g, r.a = some ⟨g, 0, none⟩ ∧ B ≤ g ∧ Row w 2 1 g 28 28 (i64s r.zs)
structure WordsAt (w wr : World) (A : Option Addr) (c : Nat) (rows : List (RowV Int)) : Prop where
  low : Below w.heap.size w wr
  own : wr.ownsRow w.heap.size 31 1 (.slice A rows.length c) rows.length (rowVals rows)
  each : ∀ r ∈ rows, Own28 w.heap.size wr r
section
variable {w wr w' w4 : World} {A : Option Addr} {c : Nat} {rows : List (RowV Int)}
theorem Own28.upd {B : Nat} {r : RowV Int} {G : List Nat} (h : Own28 B w r) (hu : Upd G w w') (hG : ∀ g, r.a = some ⟨g, 0, none⟩ → g ∉ G) : Own28 B w' r := by
  obtain ⟨h1, h2, h3, h4, g, ha, hB, hr⟩ := h
  exact ⟨h1, h2, h3, h4, g, ha, hB, hr.upd hu (hG g ha)⟩
theorem WordsAt.lt (h : WordsAt w wr A c rows) : ∀ b ∈ blockOf A, b < wr.heap.size := fun b hb => ownsRow_blockLt h.own b hb
theorem WordsAt.rlt (h : WordsAt w wr A c rows) : ∀ r ∈ rows, ∀ g, r.a = some ⟨g, 0, none⟩ → g < wr.heap.size ∧ g ∉ blockOf A := by
  intro r hr g hg
  obtain ⟨-, -, -, -, g', ha, -, hrow⟩ := h.each r hr
  rw [hg] at ha
  injection ha with e
  injection e with e
  subst e
  obtain ⟨_, hb, _⟩ := hrow
  exact ⟨hb.lt, blk_notin h.own hb (by decide)⟩
theorem WordsAt.upd {G : List Nat} (h : WordsAt w wr A c rows) (hu : Upd G wr w') (h0 : ∀ b ∈ G, w.heap.size ≤ b) (h1 : ∀ b ∈ blockOf A, b ∉ G) (h2 : ∀ r ∈ rows, ∀ g, r.a = some ⟨g, 0, none⟩ → g ∉ G) : WordsAt w w' A c rows :=
  ⟨below_upd h.low hu (Nat.le_refl _) h0, ownsRow_upd h.own hu h1, fun r hr => (h.each r hr).upd hu (h2 r hr)⟩
theorem WordsAt.thru (h : WordsAt w wr A c rows) (hb : Below wr.heap.size wr w') : WordsAt w w' A c rows := h.upd (Upd.of_below hb (F := [])) (by simp) (by simp) (by simp)
/-- A row is put behind the others. -/
theorem WordsAt.push (h : WordsAt w wr A c rows) (o : Obj) {g g' cap' : Nat} {zs : List Int} (hz : zs.length = 28) (hw : ∀ x ∈ zs, WfI x) (hg : w.heap.size ≤ g) (hr : Row wr 2 1 g 28 28 (i64s zs))
    (hown : w4.ownsRow w.heap.size 31 1 (.slice (some ⟨g', 0, none⟩) (rows.length + 1) cap') (rows.length + 1) (rowVals rows ++ [.slice (some ⟨g, 0, none⟩) 28 28])) (hgrow : (wr.alloc o).grownBy w4 (Value.slice A rows.length c).ownBlock) (hat : (Value.slice A rows.length c).ownBlock = some g' ∨ g' = wr.heap.size + 1) :
    WordsAt w w4 (some ⟨g', 0, none⟩) cap' (rows ++ [⟨some ⟨g, 0, none⟩, 28, 28, zs⟩]) := by
  obtain ⟨hu4, hg4⟩ := own_step hgrow hat
  have hB : ∀ b ∈ blockOf A, w.heap.size ≤ b := fun b hb => by
    refine (Rows'.ofOwn h.own).2 b ?_
    cases A with
    | none => simp [blockOf] at hb
    | some a => simp [blockOf] at hb; simp [Value.ownBlock, hb]
  have hgA : g ∉ blockOf A := by
    obtain ⟨_, hb, _⟩ := hr
    exact blk_notin h.own hb (by decide)
  refine ⟨below_upd h.low hu4 (Nat.le_refl _) hB, ?_, ?_⟩
  · simpa [rowVals] using hown
  · intro r hrm
    rcases List.mem_append.1 hrm with hrm | hrm
    · exact (h.each r hrm).upd hu4 fun q hq => (h.rlt r hrm q hq).2
    · simp only [List.mem_singleton] at hrm
      subst hrm
      exact ⟨rfl, rfl, hz, hw, g, rfl, hg, hr.upd hu4 hgA⟩
theorem Own28.ints {B : Nat} {r : RowV Int} (h : Own28 B w r) : Ints w r.a r.len r.cap r.zs := by
  obtain ⟨h1, h2, h3, h4, g, ha, hB, hr⟩ := h
  rw [h1, h2, ha]
  exact ArgInts.ofRow hr h4
theorem WordsAt.rowsL (h : WordsAt w wr A c rows) : RowsL wr A rows.length c rows := by
  refine ⟨?_, fun r hr => (h.each r hr).ints⟩
  obtain ⟨h1, -⟩ := Rows'.ofOwn h.own
  rcases h1 with ⟨hv, hn, -⟩ | ⟨g, cap, hv, hr⟩
  · injection hv with e1 e2 e3
    subst e1 e3
    obtain rfl : rows = [] := List.eq_nil_of_length_eq_zero hn
    exact ⟨rfl, Nat.le_refl _, Nat.zero_le _, fun _ _ => trivial, .inl rfl⟩
  · injection hv with e1 e2 e3
    subst e1 e3
    have hr' := hr
    obtain ⟨cur, hb, h1, h2, h3, h4, h5⟩ := hr
    refine ⟨rfl, h3, h4, fun _ _ => trivial, .inr ⟨g, 0, rfl, hb.lt, fun i x hx j u hu => ?_⟩⟩
    match j, hu with
    | 0, hu =>
      simp [RowV.cells] at hu
      subst hu
      have := hr'.cell (j := i) (u := .slice x.a x.len x.cap) (by simp [rowVals, hx])
      simpa using this
    | j + 1, hu => simp [RowV.cells] at hu
end
theorem info_ints : (Try.prog.info? 31).map (fun i => (i.zero, i.size, i.bytes)) = some (some (.slice none 0 0), 1, 24) := by kernel_rfl
/-- Inside: a row is being filled. -/
structure FillAt (w wr : World) (A : Option Addr) (c : Nat) (rows : List (RowV Int)) (g k : Nat) (zs : List Int) : Prop where
  ws : WordsAt w wr A c rows
  new : w.heap.size ≤ g
  fa : g ∉ blockOf A
  fr : ∀ r ∈ rows, r.a ≠ some ⟨g, 0, none⟩
  blk : Blk wr g 2 (nums .i64 (zs.take k ++ zeros (28 - k)))
section
variable {w wr w' : World} {A : Option Addr} {c g k : Nat} {rows : List (RowV Int)} {zs : List Int}
theorem FillAt.start (h : WordsAt w wr A c rows) (zs : List Int) : FillAt w (wr.alloc (.cells (madeCells #[.int .i64 0] 28) 2)) A c rows wr.heap.size 0 zs := by
  refine ⟨h.thru (below_alloc0 wr _), h.low.size, fun hin => Nat.lt_irrefl _ (h.lt _ hin), fun r hr e => Nat.lt_irrefl _ (h.rlt r hr _ e).1, ?_⟩
  have := Blk.new wr 2 (madeCells #[.int .i64 0] 28)
  rw [nums_zeros] at this
  rw [nums_zeros]
  exact this
theorem FillAt.put (h : FillAt w wr A c rows g k zs) (hk : k < 28) (hz : k < zs.length) : FillAt w (wr.setCell ⟨g, k, none⟩ (.int .i64 (zs.getD k 0))) A c rows g (k + 1) zs ∧ wr.cell? ⟨g, k, none⟩ = some (.int .i64 0) ∧ wr.frozen? ⟨g, k, none⟩ = false := by
  have hl : (zs.take k).length = k := by simp; omega
  have e : (nums .i64 (zs.take k ++ zeros (28 - k))).setIfInBounds k (.int .i64 (zs.getD k 0)) = nums .i64 (zs.take (k + 1) ++ zeros (28 - (k + 1))) := by
    rw [nums_set, List.set_append_right _ _ (by omega), hl, Nat.sub_self, show 28 - k = (28 - (k + 1)) + 1 by omega]
    simp only [zeros, List.replicate_succ, List.set_cons_zero]
    rw [List.take_succ_eq_append_getElem hz, List.append_assoc]
    simp [List.getD, hz]
  have hu : Upd [g] wr (wr.setCell ⟨g, k, none⟩ (.int .i64 (zs.getD k 0))) := (Upd.refl _ _).put (.inl (by simp)) _
  have hp := h.blk.put k (.int .i64 (zs.getD k 0))
  rw [e] at hp
  refine ⟨⟨h.ws.upd hu (by intro b hb; simp at hb; exact hb ▸ h.new) (fun b hb hin => h.fa (by simp at hin; exact hin ▸ hb)) (fun r hr q hq hin => h.fr r hr (by simp at hin; exact hin ▸ hq)), h.new, h.fa, h.fr, hp⟩, ?_, h.blk.free k⟩
  refine h.blk.at_ ?_
  rw [nums_get .i64 _ k (by simp [zeros]; omega)]
  simp only [List.getD_eq_getElem?_getD]
  rw [List.getElem?_append_right (by omega), hl, Nat.sub_self, show 28 - k = (28 - (k + 1)) + 1 by omega]
  simp [zeros, List.replicate_succ]
theorem FillAt.row (h : FillAt w wr A c rows g k zs) (hor : k = 28 ∨ k = zs.length) (hk : k ≤ 28) (hkz : k ≤ zs.length) : Row wr 2 1 g 28 28 (i64s (pad28 zs)) := by
  have h1 := Row.made h.blk (by rw [nums_size]; simp [zeros, maxLen]; omega)
  rw [nums_size] at h1
  have hl : (zs.take k ++ zeros (28 - k)).length = 28 := by simp [zeros]; omega
  rw [hl] at h1
  have e : zs.take k ++ zeros (28 - k) = pad28 zs := by
    unfold pad28
    rcases hor with rfl | rfl
    · rw [show 28 - zs.length = 0 by omega]
    · rw [List.take_of_length_le (Nat.le_refl _), List.take_of_length_le (by omega)]
  rw [e] at h1
  exact h1
end
theorem pad28_wf' {zs : List Int} (h : ∀ x ∈ zs, WfI x) : ∀ x ∈ pad28 zs, WfI x := by
  intro x hx
  simp only [pad28, List.mem_append] at hx
  rcases hx with hx | hx
  · exact h x (List.mem_of_mem_take hx)
  · exact zeros_wf _ x hx
set_option maxRecDepth 100000 in
set_option maxHeartbeats 2000000 in
theorem words17 (a : Option Addr) (len cap : Nat) (rs : List (RowV Int)) (w : World) (h : RowsL w a len cap rs) (hlen : len ≤ 8) :
    Calls Try.prog 17 #[.slice a len cap] w fun e w' => ∃ A c rows, e = .returned (.slice A rows.length c) ∧ WordsAt w w' A c rows ∧ rows.map (·.zs) = rs.map (fun r => pad28 r.zs) ∧ rows.length = len := by
  have HL := Lib.hid h
  have HN := Lib.hid (show rs.length = len from h.top.hl)
  have hlc := h.top.le
  have hcm := h.top.hm
  unfold maxLen at hcm
  have hmk : ∀ w, (Instr.makeSlice 31 (.int .i64 28) (.int .i64 28)).run Try.prog w = .ok (.slice (some ⟨w.heap.size, 0, none⟩) 28 28) (w.alloc (.cells (madeCells #[.int .i64 0] 28) 2)) :=
    run_make_row' (P := Try.prog) 31 2 (.int .i64 0) 8 Try.underlying31 info_i64 rfl .i64 .i64 28 (by omega) (by omega)
  clear h
  go_enter Try.func17, Try.ntmps17
  go_wp2_with fail
  go_loopw [4, 3] (fun v s wr => ∃ (i : Nat) (A : Option Addr) (c : Nat) (rows : List (RowV Int)), i ≤ len ∧ v = .int .i64 i ∧ rows.length = i ∧ s = .slice A i c ∧ WordsAt w wr A c rows ∧ rows.map (·.zs) = (rs.take i).map (fun r => pad28 r.zs)) (fun v _ _ => len - (intOf v).toNat)
  case atStart => exact ⟨0, none, 0, [], Nat.zero_le _, rfl, rfl, rfl, ⟨Below.refl _ _, World.ownsRow_nil _ _ _ _, by simp⟩, rfl⟩
  case round =>
    obtain ⟨i, A, c, rows, hi, rfl, hrl, rfl, hws, hmap⟩ := hrel
    have HW := Lib.hid hws
    have HMAP := Lib.hid hmap
    have HRL := Lib.hid hrl
    have hii : (i : Int) ≤ 8 := by omega
    clear hws hmap hrl
    by_cases hlt : i < len
    · obtain ⟨lb, off, r, ra, hr, hc, hints⟩ := HL.out.row hlt
      subst ra
      have HR := Lib.hid hr
      have HIN := Lib.hid hints
      have hle := hints.le
      have hcm2 := hints.hm
      unfold maxLen at hcm2
      have HZL := Lib.hid hints.hl
      have HF := Lib.hid (FillAt.start HW.out r.zs)
      have HGE := Lib.hid HW.out.low.size
      clear hr hc hints
      go_upto_region 6 with fail
      obtain ⟨g, hg⟩ : ∃ g, wr.heap.size = g := ⟨_, rfl⟩
      rw [hg] at HF ⊢
      clear hg HW
      generalize wr.alloc (.cells (madeCells #[.int .i64 0] 28) 2) = w2 at *
      go_wp2_with fail
      go_loopw [6] (fun v wr => ∃ k : Nat, k ≤ 28 ∧ k ≤ r.len ∧ v = .int .i64 k ∧ FillAt w wr A c rows g k r.zs) (fun v _ => 28 - (intOf v).toNat)
      case atStart => exact ⟨0, Nat.zero_le _, Nat.zero_le _, rfl, HF.out⟩
      case round =>
        clear HF
        obtain ⟨k, hk, hkl, rfl, hf⟩ := hrel
        have HF := Lib.hid hf
        clear hf
        obtain ⟨lb', off', r', ra', hr', hc', hints'⟩ := (HL.out.below HF.out.ws.low).row hlt
        injection ra' with ra'
        injection ra' with e1 e2
        subst e1 e2
        obtain rfl : r' = r := by rw [HR.out] at hr'; injection hr' with e; exact e.symm
        by_cases h28 : k < 28
        · by_cases hlk : k < r'.len
          · obtain ⟨b', o', hra', hbl', hcell⟩ := hints'.at_ (j := k) hlk
            obtain ⟨hf2, hz, hfz⟩ := HF.out.put h28 (by rw [HZL.out]; exact hlk)
            have HF2 := Lib.hid hf2
            rw [hra'] at hc'
            clear hf2 hints' hr' HF
            generalize r'.zs.getD k 0 = x at *
            go_wp2
            go_roundw
            case rel => exact ⟨k + 1, by omega, by omega, by go_num, HF2.out⟩
            case measure => simp [intOf]; omega
          · obtain rfl : k = r'.len := by omega
            have HROW := Lib.hid (HF.out.row (.inr HZL.out.symm) hk (by rw [HZL.out]; exact Nat.le_refl _))
            have HWS := Lib.hid HF.out.ws
            have HNEW := Lib.hid HF.out.new
            clear hints' hr'
            obtain ⟨i0, hi0, hz0, hz1, hz2⟩ := info_parts info_ints
            have hown := HWS.out.own
            rw [HRL.out] at hown
            have hge := HWS.out.low.size
            clear HF
            go_wp2_with (at_builtin; refine wpList_append_lies (P := Try.prog) _ rfl (.tmp 37) (.tmp 39) 22 rfl w.heap.size 31 i0 _ 1 24 Try.underlying22 hi0 hz0 hz1 hz2 rfl (by decide) (.slice A i c) i (rowVals rows) rfl (hown.alloc _) ⟨wr.heap.size, 0, none⟩ 1 1 [.slice (some ⟨g, 0, none⟩) 28 28] rfl rfl (World.news_of_block (cs := #[.slice (some ⟨g, 0, none⟩) 28 28]) (t := 31) (fr := (0, 0)) (heap_alloc_new wr _)) (by simp [Value.oneCell']) (by omega) (by unfold maxLen; omega) (by omega) (by simp; omega) (wr.heap.size + 1) (by simp) ?_; intro g' cap' w4 hown' hgrow hat hlt'; rw [← HRL.out] at hown' hgrow hat; have hps := HWS.out.push _ (pad28_len _) (pad28_wf' HIN.out.wf) HNEW.out HROW.out hown' hgrow hat; have PS := Lib.hid hps; clear hps hown hown' hgrow hat)
            clear HWS HROW HNEW
            go_roundw
            case rel => exact ⟨i + 1, _, cap', rows ++ [⟨some ⟨g, 0, none⟩, 28, 28, pad28 r'.zs⟩], by omega, by go_num, by rw [List.length_append, HRL.out]; rfl, rfl, PS.out, by rw [List.map_append, HMAP.out, List.take_succ_eq_append_getElem (by rw [HN.out]; exact hlt), List.map_append]; have := HR.out; rw [List.getElem?_eq_getElem (by rw [HN.out]; exact hlt)] at this; injection this with e; rw [e]; rfl⟩
            case measure => simp [intOf]; omega
        · obtain rfl : k = 28 := by omega
          have HROW := Lib.hid (HF.out.row (.inl rfl) hk (by rw [HZL.out]; exact hkl))
          have HWS := Lib.hid HF.out.ws
          have HNEW := Lib.hid HF.out.new
          clear hints' hr'
          obtain ⟨i0, hi0, hz0, hz1, hz2⟩ := info_parts info_ints
          have hown := HWS.out.own
          rw [HRL.out] at hown
          have hge := HWS.out.low.size
          clear HF
          go_wp2_with (at_builtin; refine wpList_append_lies (P := Try.prog) _ rfl (.tmp 37) (.tmp 39) 22 rfl w.heap.size 31 i0 _ 1 24 Try.underlying22 hi0 hz0 hz1 hz2 rfl (by decide) (.slice A i c) i (rowVals rows) rfl (hown.alloc _) ⟨wr.heap.size, 0, none⟩ 1 1 [.slice (some ⟨g, 0, none⟩) 28 28] rfl rfl (World.news_of_block (cs := #[.slice (some ⟨g, 0, none⟩) 28 28]) (t := 31) (fr := (0, 0)) (heap_alloc_new wr _)) (by simp [Value.oneCell']) (by omega) (by unfold maxLen; omega) (by omega) (by simp; omega) (wr.heap.size + 1) (by simp) ?_; intro g' cap' w4 hown' hgrow hat hlt'; rw [← HRL.out] at hown' hgrow hat; have hps := HWS.out.push _ (pad28_len _) (pad28_wf' HIN.out.wf) HNEW.out HROW.out hown' hgrow hat; have PS := Lib.hid hps; clear hps hown hown' hgrow hat)
          clear HWS HROW HNEW
          go_roundw
          case rel => exact ⟨i + 1, _, cap', rows ++ [⟨some ⟨g, 0, none⟩, 28, 28, pad28 r'.zs⟩], by omega, by go_num, by rw [List.length_append, HRL.out]; rfl, rfl, PS.out, by rw [List.map_append, HMAP.out, List.take_succ_eq_append_getElem (by rw [HN.out]; exact hlt), List.map_append]; have := HR.out; rw [List.getElem?_eq_getElem (by rw [HN.out]; exact hlt)] at this; injection this with e; rw [e]; rfl⟩
          case measure => simp [intOf]; omega
    · obtain rfl : i = len := by omega
      have HE := Lib.hid (show ∃ A' c' rows', Ending.returned (.slice A i c) = .returned (.slice A' rows'.length c') ∧ WordsAt w wr A' c' rows' ∧ rows'.map (·.zs) = rs.map (fun r => pad28 r.zs) ∧ rows'.length = i from
        ⟨A, c, rows, by rw [HRL.out], HW.out, by rw [HMAP.out, List.take_of_length_le (by rw [HN.out]; exact Nat.le_refl _)], HRL.out⟩)
      clear HW HMAP
      go_wp2
      go_ret
      exact HE.out
def FewPost (len : Nat) (w : World) (e : Ending) (w' : World) : Prop := w' = w ∧ ∃ b, e = .returned (.bool b) ∧ (b = true → len ≤ 8)
set_option maxRecDepth 100000 in
set_option maxHeartbeats 1000000 in
theorem few17 (a : Option Addr) (len cap : Nat) (rs : List (RowV Int)) (w : World) (h : RowsL w a len cap rs) :
    Calls Try.prog 16 #[.slice a len cap] w (FewPost len w) := by
  have HL := Lib.hid h
  have hlc := h.top.le
  have hcm := h.top.hm
  unfold maxLen at hcm
  clear h
  go_enter Try.func16, Try.ntmps16
  go_wp2_with fail
  go_loop [3] (fun v => ∃ i : Nat, i ≤ 10 ∧ i ≤ len ∧ v = .int .i64 i) (fun v => 10 - (intOf v).toNat)
  case atStart => exact ⟨0, by omega, by omega, rfl⟩
  case round =>
    obtain ⟨i, hi, hil, rfl⟩ := hrel
    by_cases hlt : i < len
    · by_cases h10 : i < 10
      · obtain ⟨lb, off, r, ra, hr, hc, hints⟩ := HL.out.row hlt
        subst ra
        by_cases h60 : (60 : Int) < r.len
        · clear hr hints
          go_wp2
          go_ret
          exact ⟨rfl, _, rfl, by simp⟩
        · clear hr hints
          go_wp2
          go_round
          case rel => exact ⟨i + 1, by omega, by omega, by go_num⟩
          case measure => simp [intOf]; omega
      · obtain rfl : i = 10 := by omega
        go_wp2
        go_ret
        exact ⟨rfl, _, rfl, fun h => by have := of_decide_eq_true h; omega⟩
    · obtain rfl : i = len := by omega
      go_wp2
      go_ret
      exact ⟨rfl, _, rfl, fun h => by have := of_decide_eq_true h; omega⟩
end Go.Proofs.Ytldccemgfjmcdaa
