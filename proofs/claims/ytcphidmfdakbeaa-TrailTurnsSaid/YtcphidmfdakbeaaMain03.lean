/- TrailTurns: the statement's own walk. -/
import Derived.Test.YtcphidmfdakbeaaTurns03
namespace Go.Proofs.Ytcphidmfdakbeaa
open Go.RowKit
set_option linter.unusedSimpArgs false
set_option linter.unusedVariables false

theorem info_trails : (Try.prog.info? 30).map (fun i => (i.zero, i.size, i.bytes)) = some (some (.pointer none), 1, 8) := by kernel_rfl
theorem under_trails : Try.prog.underlying 52 = some (.slice 30) := by kernel_rfl
theorem info_thread03 : (Try.prog.info? 57).map (fun i => (i.zero, i.size, i.bytes)) = some (some (.agg #[.int .i64 0, .int .i64 0, .int .i64 0, .slice none 0 0]), 4, 48) := by kernel_rfl
theorem under_threads03 : Try.prog.underlying 53 = some (.slice 57) := by kernel_rfl
def q30 (l : List OpV) : Q3 := (⟨l, ⟨0, 0, 0, []⟩, false⟩, none, 0)
theorem rarr_zero (ls : List (List OpV)) : madeCells #[.int .i64 0, .int .i64 0, .int .i64 0, .slice none 0 0] (ls.length * 4) = rarr (ls.map q30) := by
  rw [made_rarr ls.length (q30 []) rfl]
  unfold rarr
  congr 1
  induction ls with
  | nil => rfl
  | cons l ls ih =>
    rw [List.length_cons, List.replicate_succ, List.flatMap_cons, List.map_cons, List.flatMap_cons, ih]
    rfl
theorem make_threads03 (ls : List (List OpV)) (N : Nat) (hN : ls.length = N) (h6 : N ≤ 6) (w : World) : (Instr.makeSlice 53 (.int .i64 (N : Int)) (.int .i64 (N : Int))).run Try.prog w = .ok (.slice (some ⟨w.heap.size, 0, none⟩) N N) (w.alloc (.cells (rarr (ls.map q30)) 57)) := by
  obtain ⟨i0, hi, hz0, hz1, hz2⟩ := info_parts info_thread03
  have h := run_make (P := Try.prog) w 53 57 i0 _ under_threads03 hi hz0 .i64 .i64 N N (by omega) (Int.le_refl _) (by rw [hz2]; omega) (by omega)
  subst hN
  rw [hz1, Int.toNat_natCast, show (Value.agg #[.int .i64 0, .int .i64 0, .int .i64 0, .slice none 0 0]).cells = #[.int .i64 0, .int .i64 0, .int .i64 0, .slice none 0 0] by rfl, rarr_zero] at h
  exact h
theorem made_zero64 (n i : Nat) (h : i < n) : (madeCells #[.int .i64 0] n)[i]? = some (.int .i64 0) := by simp [madeCells, h, Nat.mod_one]
abbrev RowsIn (w : World) (a : Option Addr) (len cap : Nat) (rows : List (RowV OpV)) : Prop := ArgOf RowV.cells 1 (fun r : RowV OpV => ArgOf OpV.cells 5 OpV.Ok w r.a r.len r.cap r.zs) w a len cap rows
theorem rows_hdrs {w w' : World} {a : Option Addr} {len cap : Nat} {rows : List (RowV OpV)} (h : RowsIn w a len cap rows) (hb : Below w.heap.size w w') : ArgOf HdrV.cells 1 (fun h => h.n ≤ maxLen) w' a len cap (rows.map fun r => ⟨r.a, r.len, r.cap⟩) := by
  have h' := h.below hb (Nat.le_refl _)
  refine ⟨by rw [List.length_map]; exact h.hl, h.le, h.hm, fun x hx => ?_, ?_⟩
  · simp only [List.mem_map] at hx
    obtain ⟨r, hr, rfl⟩ := hx
    have := h.good r hr
    exact Nat.le_trans this.le this.hm
  · rcases h'.reads with h0 | ⟨b, off, ha, hlt, hc⟩
    · exact .inl (by rw [h0]; rfl)
    · refine .inr ⟨b, off, ha, hlt, fun i x hx j u hu => ?_⟩
      rw [List.getElem?_map] at hx
      cases hr : rows[i]? with
      | none => rw [hr] at hx; cases hx
      | some r =>
        rw [hr] at hx
        injection hx with hx
        subst hx
        exact hc i r hr j u hu

/-- What is left of a turn, behind both sides' steps. -/
def Both03 (w0 : World) (m c pb r g wb tg k cap1 : Nat) (ts : List Nat) (ls : List (List OpV)) (p : Nat) (v : Value) (wc : World) : Prop :=
  ∃ (qs : List Q3) (q : Q3) (μ : MemS), TT w0 wc m c pb r g wb tg k cap1 ts (qs.map (·.1)) qs μ μ ∧ qs.map (fun q => q.1.l) = ls ∧ qs[p]? = some q ∧ q.1.b = true ∧ v = .bool q.1.place.isRet ∧ μ.cells.length ≤ 100
theorem acc_len (o : OpV) (sum : Int) (μ : MemS) : (o.acc sum μ).2.2.cells.length = μ.cells.length := by
  unfold OpV.acc
  repeat' split
  all_goals simp only [dLoad, dStore, dAdd, dSwap, dWait, MemS.load, MemS.store, MemS.add, MemS.swap]
  all_goals repeat' split
  all_goals simp [MemS.tick, MemS.set]
theorem step_len (u : R3) (l : List OpV) (time : Int) (μ : MemS) : (u.step l time μ).2.cells.length = μ.cells.length := by
  unfold R3.step
  split
  · rfl
  · split
    · exact acc_len _ _ _
    · exact acc_len _ _ _
theorem set_id {α : Type} {l : List α} {i : Nat} {x : α} (h : l[i]? = some x) : l.set i x = l := by
  apply List.ext_getElem?
  intro j
  by_cases hj : i = j
  · subst hj
    rw [List.getElem?_set_self (List.getElem?_eq_some_iff.1 h).1, h]
  · rw [List.getElem?_set_ne hj]
theorem q30_nil (ls : List (List OpV)) : (ls.map q30).flatMap (fun q => blockOf q.2.1) = [] := by
  induction ls with
  | nil => rfl
  | cons l ls ih => rw [List.map_cons, List.flatMap_cons, ih]; rfl
theorem q30_get {ls : List (List OpV)} {i : Nat} {q : Q3} (h : (ls.map q30)[i]? = some q) : ∃ l, q = q30 l := by
  rw [List.getElem?_map] at h
  cases hl : ls[i]? with
  | none => rw [hl] at h; cases h
  | some l => rw [hl] at h; exact ⟨l, (Option.some.inj h).symm⟩
theorem TT.first {w0 w : World} {m c pb r g wb tg k cap1 : Nat} {ts : List Nat} {ls : List (List OpV)} {μ : MemS}
    (h : GThsB TS3.place TS3.task TS3.b R3s (.int .i64 0) 2 (Value.int .i64) w0.heap.size w m c pb [tg, wb, r, g] k ts ((ls.map q30).map (·.1)) μ) (hl : ls.length = k) (hrow : Row w 30 1 tg k cap1 (ts.map ptrTo)) (hblk : Blk w wb 57 (rarr (ls.map q30)))
    (hr : RefAt w r g μ) (hnew : ∀ x ∈ [tg, wb, r, g], w0.heap.size ≤ x ∧ x < w.heap.size) (hd : wb ≠ g ∧ wb ≠ r ∧ tg ≠ wb ∧ tg ≠ r ∧ tg ≠ g) (hw : Below w0.heap.size w0 w) :
    TT w0 w m c pb r g wb tg k cap1 ts ((ls.map q30).map (·.1)) (ls.map q30) μ μ := by
  refine ⟨by unfold others; rw [q30_nil]; exact h, by simpa using hl, hrow, hblk, fun i q hq => ?_, fun i q hq x hx => ?_, fun i j a b _ hq _ x hx => ?_, fun i q hq x hx => ?_, hr, hnew, hd, hw⟩
  · obtain ⟨l, rfl⟩ := q30_get hq
    exact World.ownsRow_nil _ _ _ _
  · obtain ⟨l, rfl⟩ := q30_get hq
    simp [q30, blockOf] at hx
  · obtain ⟨l, rfl⟩ := q30_get hq
    simp [q30, blockOf] at hx
  · obtain ⟨l, rfl⟩ := q30_get hq
    simp [q30, blockOf] at hx

set_option maxRecDepth 100000 in
set_option maxHeartbeats 2000000 in
theorem turns03 (cv : Int) (a : Option Addr) (len cap : Nat) (rows : List (RowV OpV)) (b : Option Addr) (tlen tcap : Nat) (tz : List Int) (w : World) (hcv : (Lit.int .u8 cv).wf = true) (ha : RowsIn w a len cap rows) (ht : ArgInts .u8 w b tlen tcap tz) :
    Calls Try.prog 6 #[.int .u8 cv, .slice a len cap, .slice b tlen tcap] w fun e w' => e = .returned (.bool true) ∧ Below w.heap.size w w' := by
  have HA := Lib.hid awake03
  have hcm := ha.hm
  have hcl := ha.le
  have hzl := ha.hl
  have htm := ht.hm
  have htl := ht.le
  unfold maxLen at hcm htm
  have HFW := Lib.hid (fun (w' : World) (hb : Below w.heap.size w w') => few03 a len cap _ 6 w' (rows_hdrs ha hb))
  by_cases hout : fewB (rows.map fun r => ⟨r.a, r.len, r.cap⟩) 6 = false ∨ len = 0 ∨ 300 < tlen
  · clear ha ht
    cases hf : fewB (rows.map fun r => ⟨r.a, r.len, r.cap⟩) 6 with
    | false =>
      rw [hf] at HFW
      clear hf hout
      go_enter Try.func6, Try.ntmps6
      go_wp2_with fail
      refine (HA.out _).mono ?_
      rintro e w1 ⟨rfl, hb1⟩
      have HF := Lib.hid (HFW.out w1 hb1)
      go_wp2_with fail
      refine HF.out.mono ?_
      rintro e w2 ⟨rfl, rfl⟩
      go_wp2_with fail
      refine (HA.out _).mono ?_
      rintro e w2 ⟨rfl, hb2⟩
      go_wp2
      go_ret
      exact ⟨rfl, below_then hb1 hb2 (Nat.le_refl _)⟩
    | true =>
      rw [hf] at HFW hout
      clear hf
      by_cases h0 : len = 0
      · subst h0
        clear hout
        go_enter Try.func6, Try.ntmps6
        go_wp2_with fail
        refine (HA.out _).mono ?_
        rintro e w1 ⟨rfl, hb1⟩
        have HF := Lib.hid (HFW.out w1 hb1)
        go_wp2_with fail
        refine HF.out.mono ?_
        rintro e w2 ⟨rfl, rfl⟩
        go_wp2_with fail
        refine (HA.out _).mono ?_
        rintro e w2 ⟨rfl, hb2⟩
        go_wp2
        go_ret
        exact ⟨rfl, below_then hb1 hb2 (Nat.le_refl _)⟩
      · have h300 : 300 < tlen := by simpa [h0] using hout
        have hne : ((len : Int) == 0) = false := beq_eq_false_iff_ne.2 (by omega)
        clear hout h0
        go_enter Try.func6, Try.ntmps6
        go_wp2_with fail
        refine (HA.out _).mono ?_
        rintro e w1 ⟨rfl, hb1⟩
        have HF := Lib.hid (HFW.out w1 hb1)
        go_wp2_with fail
        refine HF.out.mono ?_
        rintro e w2 ⟨rfl, rfl⟩
        go_wp2_with fail
        refine (HA.out _).mono ?_
        rintro e w2 ⟨rfl, hb2⟩
        go_wp2
        go_ret
        exact ⟨rfl, below_then hb1 hb2 (Nat.le_refl _)⟩
  · have hfew : fewB (rows.map fun r => ⟨r.a, r.len, r.cap⟩) 6 = true := by
      cases hf : fewB (rows.map fun r => ⟨r.a, r.len, r.cap⟩) 6 with
      | true => rfl
      | false => exact absurd (.inl hf) hout
    have h0 : 0 < len := by omega
    have h300 : tlen ≤ 300 := by omega
    have hne : ((len : Int) == 0) = false := beq_eq_false_iff_ne.2 (by omega)
    rw [hfew] at HFW
    have h6 : len ≤ 6 ∧ ∀ r ∈ rows, r.len ≤ 25 := by
      unfold fewB at hfew
      rw [Bool.and_eq_true, decide_eq_true_eq, List.length_map, hzl] at hfew
      have hl6 : len ≤ 6 := by omega
      refine ⟨hl6, fun r hr => ?_⟩
      have := hfew.1
      rw [List.take_of_length_le (by simp; omega), List.all_eq_true] at this
      have := this ⟨r.a, r.len, r.cap⟩ (List.mem_map.2 ⟨r, hr, rfl⟩)
      simpa using this
    obtain ⟨h6, h25⟩ := h6
    obtain ⟨N, hN, hN21⟩ : ∃ N : Nat, wrap64 (cv.tmod 21) = N ∧ N < 21 := by
      have h0 := bounds_u8 hcv
      refine ⟨(cv % 21).toNat, ?_, by omega⟩
      rw [Int.tmod_eq_emod_of_nonneg h0.1]
      generalize hx : cv % 21 = x
      unfold wrap64
      omega
    have HW := Lib.hid hN
    have H25 := Lib.hid h25
    have hcap : (capn (N : Int)).toNat = N := by unfold capn; rw [if_neg (by omega), if_neg (by omega)]; rfl
    have HCAP := Lib.hid hcap
    clear hout hfew hN h25 hcap
    obtain ⟨i0, hi, hz0, hz1, hz2⟩ := info_parts info_trails
    have hmk := run_make_row' (P := Try.prog) 54 2 (.int .i64 0) 8 Try.underlying54 info_i64 rfl .i64 .i64 len (by omega) (by omega)
    have hmt := make_threads03 (rows.map (·.zs)) len (by simpa using hzl) h6
    obtain ⟨Q0, hQ0⟩ : ∃ Q0, (rows.map (·.zs)).map q30 = Q0 := ⟨_, rfl⟩
    rw [hQ0] at hmt
    have HQ0 := Lib.hid hQ0
    clear hQ0
    go_enter Try.func6, Try.ntmps6
    go_wp2_with fail
    refine (HA.out _).mono ?_
    rintro e w0 ⟨rfl, hb0⟩
    have HF := Lib.hid (HFW.out w0 hb0)
    go_wp2_with fail
    refine HF.out.mono ?_
    rintro e w0' ⟨rfl, rfl⟩
    clear HF HFW
    go_wp2_with fail
    rw [HW.out]
    refine (cell_new N _).mono ?_
    rintro e w1 ⟨rfl, hm, hb1, -⟩
    rw [HCAP.out] at hm
    have hB0 := hb0.size
    have hb := below_then hb0 hb1 (Nat.le_refl _)
    generalize hx1 : w0.heap.size + 1 = m at *
    generalize hc : w0.heap.size = c at *
    have hbm : w.heap.size ≤ m ∧ w.heap.size ≤ c := by omega
    clear hx1 hc hb0 hb1
    go_wp2_with fail
    rw [HW.out]
    refine (ref_new N (by omega) _).mono ?_
    rintro e w2 ⟨rfl, hb2, g, hg1, hg2, hr⟩
    rw [Int.toNat_natCast] at hr
    have hmr : m < w1.heap.size ∧ c < w1.heap.size := ⟨hm.1.lt, hm.2.1.lt⟩
    have hm2 := hm.below hb2 hm.1.lt hm.2.1.lt
    have hb12 := below_then hb hb2 (Nat.le_refl _)
    have hB1 := hb.size
    have hB2 := hb2.size
    have hrl : w1.heap.size < w2.heap.size := by obtain ⟨_, _, hbb, _⟩ := hr; exact hbb.lt
    clear hm hb2 hb
    generalize w1.heap.size = r at *
    have hB12 := hb12.size
    go_upto_region 7 with fail
    have hr3 := (hr.alloc (.cells (rarr Q0) 57)).alloc (.cells (madeCells #[.int .i64 0] len) 2)
    have hT := (Blk.new w2 57 (rarr Q0)).alloc (.cells (madeCells #[.int .i64 0] len) 2)
    have hP := Blk.new (w2.alloc (.cells (rarr Q0) 57)) 2 (madeCells #[.int .i64 0] len)
    simp only [World.size_alloc] at hP
    have hm3 := (hm2.alloc (.cells (rarr Q0) 57)).alloc (.cells (madeCells #[.int .i64 0] len) 2)
    have hb3 : Below w.heap.size w ((w2.alloc (.cells (rarr Q0) 57)).alloc (.cells (madeCells #[.int .i64 0] len) 2)) :=
      (hb12.alloc hB12 _).alloc (by simp; omega) _
    generalize ((w2.alloc (.cells (rarr Q0) 57)).alloc (.cells (madeCells #[.int .i64 0] len) 2)) = w3 at *
    have hpb := hP.lt
    have hwb := hT.lt
    have hcz : (⟨List.replicate N 0, 0⟩ : MemS).cells.length ≤ 100 := by simp; omega
    have HCZ := Lib.hid hcz
    have hths : GThsB TS3.place TS3.task TS3.b R3s (.int .i64 0) 2 (Value.int .i64) w.heap.size w3 m c (w2.heap.size + 1) (blockOf' none ++ [w2.heap.size, r, g]) len [] [] ⟨List.replicate N 0, 0⟩ := by
      refine GThsB.begin_ (ThsB.none hm3 hP ?_ ?_ ?_) (by rw [size_madeCells])
      · simp; omega
      · intro x hx
        simp [blockOf'] at hx
        rcases hx with e | e | e <;> subst e <;> refine ⟨by omega, ?_⟩ <;> simp <;> omega
      · intro x hx
        simp only [List.mem_cons, List.not_mem_nil, or_false] at hx
        rcases hx with e | e | e
        · omega
        · rw [e]; exact hbm.1
        · rw [e]; exact hbm.2
    generalize (⟨List.replicate N 0, 0⟩ : MemS) = μ0 at *
    have hge : w.heap.size ≤ w2.heap.size ∧ w.heap.size ≤ r ∧ w.heap.size ≤ g := by omega
    have hdist : w2.heap.size ≠ g ∧ w2.heap.size ≠ r := by omega
    generalize hpbe : w2.heap.size + 1 = pb at *
    generalize w2.heap.size = wb at *
    obtain ⟨S, hS⟩ : ∃ S, S = w3.heap.size := ⟨_, rfl⟩
    have hlt4 : wb < S ∧ r < S ∧ g < S ∧ pb < S := by
      obtain ⟨_, _, hbb, _⟩ := hr3
      have := hbb.lt
      omega
    have hSw : w.heap.size ≤ S := by rw [hS]; exact hb3.size
    have HS := Lib.hid hS
    clear hS hpbe hm2 hb12 hr hrl hB1 hB2 hB12 hm3 hpb hwb hg1 hg2 hmr hcz hB0
    go_wp2_with fail
    go_loopw [9, 12] (fun v i wr => ∃ (k : Nat) (A : Option Addr) (cap' : Nat) (ts : List Nat), k ≤ len ∧ i = .int .i64 k ∧ v = .slice A k cap' ∧ wr.ownsRow S 30 1 (.slice A k cap') k (ts.map ptrTo) ∧ ts.length = k ∧
      GThsB TS3.place TS3.task TS3.b R3s (.int .i64 0) 2 (Value.int .i64) w.heap.size wr m c pb (blockOf' A ++ [wb, r, g]) len ts ((Q0.take k).map (·.1)) μ0 ∧ Blk wr wb 57 (rarr Q0) ∧ RefAt wr r g μ0 ∧ Blk wr pb 2 (madeCells #[.int .i64 0] len) ∧ S ≤ wr.heap.size ∧ Below w.heap.size w wr) (fun _ i _ => len - (intOf i).toNat)
    case atStart => exact ⟨0, none, 0, [], Nat.zero_le _, rfl, rfl, World.ownsRow_nil _ _ _ _, rfl, hths, hT, hr3, hP, Nat.le_of_eq HS.out, hb3⟩
    case round =>
      clear hths hT hr3 hP hb3 hmk hmt
      obtain ⟨k, A, cap', ts, hk, rfl, rfl, hown, hl, hths, hT, hr, hP, hSr, hw⟩ := hrel
      have HL := Lib.hid hl
      clear hl
      by_cases hlt : k < len
      · have hmm := hths.mem
        go_wp2_with fail
        refine (t_new m c _ _ hmm).mono ?_
        rintro e w4 ⟨rfl, htm4, hb4⟩
        obtain ⟨row, hrow, hQk⟩ : ∃ row, row ∈ rows ∧ Q0[k]? = some (q30 row.zs) := by
          have hkr : k < rows.length := by omega
          exact ⟨rows[k], List.getElem_mem _, by rw [← HQ0.out]; simp [List.getElem?_map, List.getElem?_eq_getElem hkr]⟩
        have harg := ha.good row hrow
        have hst := TS3.start row.zs (fun o ho => harg.good o ho) (by have := H25.out row hrow; have := harg.hl; omega)
        have hths4 := hths.push (q30 row.zs).1 (fun i cs hi2 _ hcs => by rw [(hcs.inj hP).2]; exact made_zero64 len i hi2) hb4 htm4 (Nat.le_refl _) (by rw [HL.out]; omega) hw.size hst.2 rfl ⟨hst.1, rfl, rfl⟩
        rw [show (Q0.take k).map (·.1) ++ [(q30 row.zs).1] = (Q0.take (k + 1)).map (·.1) by rw [List.take_add_one, hQk, List.map_append]; rfl] at hths4
        have hown4 : w4.ownsRow S 30 1 (.slice A k cap') k (ts.map ptrTo) := ownsRow_upd hown (Upd.of_below hb4 (F := [])) (by simp)
        have hw4 := below_then hw hb4 (Nat.le_refl _)
        have hB4 := hw4.size
        have hS4 := Nat.le_trans hSr hb4.size
        have hT4 := hT.below hb4 hT.lt
        have hr4 := hr.upd (Upd.of_below hb4 (F := [])) (by simp) (by simp)
        have hP4 := hP.below hb4 hP.lt
        clear hmm htm4 hb4 hths hown hw hT hr hP hSr hrow hQk harg hst
        generalize wr.heap.size = t at *
        have HU := Lib.hid hths4
        clear hths4
        go_wp2_with (at_builtin; refine wpList_append_own_at (P := Try.prog) _ rfl (.tmp 56) (.tmp 59) 52 rfl S 30 i0 (.pointer none) 1 8 under_trails hi hz0 hz1 hz2 rfl (by decide) _ _ _ rfl (hown4.alloc _) ⟨w4.heap.size, 0, none⟩ 1 1 [ptrTo t] rfl rfl ?c1 ?c2 ?c3 ?c4 ?c5 ?_)
        case c1 => exact cell_one_new _ _ _
        case c2 => intro u hu; simp at hu; subst hu; rfl
        case c3 => unfold maxLen; omega
        case c4 => omega
        case c5 => simp; omega
        intro v' w5 hown' hgrow _ hat'
        obtain ⟨tg, cap2, rfl⟩ := own_some hown'
        have hU5 := HU.out.grew hgrow (by simpa using hat') hown' rfl
        have hne5 : ∀ x, x < S → some x ≠ (Value.slice A k cap').ownBlock := by
          intro x hx e
          have := (hown4.lt _ e.symm).1
          omega
        have hT5 := (hT4.alloc (.cells #[ptrTo t] 30)).grown hgrow (hne5 _ hlt4.1)
        have hP5 := (hP4.alloc (.cells #[ptrTo t] 30)).grown hgrow (hne5 _ hlt4.2.2.2)
        have hu5 : Upd (blockOf A) w4 w5 := ((Upd.refl _ _).alloc _).grown hgrow (fun b hb => by
          cases A with
          | none => simp [Value.ownBlock] at hb
          | some a => simp [Value.ownBlock] at hb; exact .inl (by simp [blockOf, hb]))
        have hAS : ∀ x ∈ blockOf A, S ≤ x := by
          intro x hx
          cases A with
          | none => simp [blockOf] at hx
          | some a => simp [blockOf] at hx; subst hx; exact (hown4.lt _ rfl).1
        have hr5 := hr4.upd hu5 (fun hin => by have := hAS _ hin; omega) (fun hin => by have := hAS _ hin; omega)
        have hw5 : Below w.heap.size w w5 := (hw4.alloc hB4 _).grown hgrow (by simp; omega) (fun g hg => by have := (hown4.lt _ hg).1; omega)
        have hS5 : S ≤ w5.heap.size := by have := hgrow.size; simp at this; omega
        rw [show ts.map ptrTo ++ [ptrTo t] = (ts ++ [t]).map ptrTo by simp] at hown'
        have HU5 := Lib.hid hU5
        have HO := Lib.hid hown'
        have HT := Lib.hid hT5
        have HP := Lib.hid hP5
        have HR := Lib.hid hr5
        have HW5 := Lib.hid hw5
        clear HU hgrow hat' hown4 hw4 hT4 hr4 hP4 hne5 hu5 hAS hU5 hown' hT5 hP5 hr5 hw5
        go_wp2
        go_roundw
        case rel => exact ⟨k + 1, some ⟨tg, 0, none⟩, cap2, ts ++ [t], by omega, by go_num, rfl, HO.out, by rw [List.length_append, HL.out]; rfl, HU5.out, HT.out, HR.out, HP.out, hS5, HW5.out⟩
        case measure => simp [intOf]; omega
      · obtain rfl : k = len := by omega
        obtain ⟨hrow', -⟩ := Rows'.ofOwn hown
        obtain ⟨tg, hA, hrow⟩ : ∃ tg, A = some ⟨tg, 0, none⟩ ∧ Row wr 30 1 tg k cap' (ts.map ptrTo) := by
          rcases hrow' with ⟨_, h, _⟩ | ⟨g, cap', h, hr⟩
          · omega
          · injection h with h1 h2 h3
            subst h3
            exact ⟨g, h1, hr⟩
        subst hA
        have htgS := hown.lt tg rfl
        have hQl : (rows.map (·.zs)).length = k := by simpa using hzl
        rw [← HQ0.out, List.take_of_length_le (by rw [List.length_map]; omega)] at hths
        rw [← HQ0.out] at hT
        have hTT : TT w wr m c pb r g wb tg k cap' ts (((rows.map (·.zs)).map q30).map (·.1)) ((rows.map (·.zs)).map q30) μ0 μ0 :=
          TT.first hths hQl hrow hT hr (fun x hx => by
            simp only [List.mem_cons, List.not_mem_nil, or_false] at hx
            rcases hx with e | e | e | e <;> subst e
            · omega
            · omega
            · omega
            · omega) ⟨hdist.1, hdist.2, by omega, by omega, by omega⟩ hw
        have hls : ((rows.map (·.zs)).map q30).map (fun q => q.1.l) = rows.map (·.zs) := by rw [List.map_map]; exact List.map_id _
        have HLS := Lib.hid hls
        have HTT := Lib.hid hTT
        have HAR := Lib.hid ha
        have HTR := Lib.hid ht
        clear hrow' hown hlt hSr hths hT hr hP hw hrow htgS hQl hTT hls ha ht hzl
        go_wp2_with fail
        go_loopw [13] (fun i wr => ∃ (n : Nat) (qs : List Q3) (μ : MemS), n ≤ tlen ∧ i = .int .i64 n ∧ TT w wr m c pb r g wb tg k cap' ts (qs.map (·.1)) qs μ μ ∧ qs.map (fun q => q.1.l) = rows.map (·.zs) ∧ μ.cells.length ≤ 100) (fun i _ => tlen - (intOf i).toNat)
        case atStart => exact ⟨0, _, μ0, Nat.zero_le _, rfl, HTT.out, HLS.out, HCZ.out⟩
        case round =>
          clear HTT HLS HCZ
          obtain ⟨n, qs, μ, hn, rfl, hTT, hls, hc100⟩ := hrel
          have HLS := Lib.hid hls
          clear hls
          by_cases hlt : n < tlen
          · have hlow := hTT.low
            obtain ⟨zb, zo, rfl, -, hzc⟩ := (HTR.out.below hlow (Nat.le_refl _)).at_ hlt
            obtain ⟨zn, hzn, hz255⟩ : ∃ zn : Nat, tz.getD n 0 = zn ∧ zn ≤ 255 := by
              have hl := HTR.out.hl
              have := bounds_u8 (HTR.out.wf (tz.getD n 0) (by rw [List.getD_eq_getElem?_getD, List.getElem?_eq_getElem (by omega)]; simp))
              exact ⟨(tz.getD n 0).toNat, by omega, by omega⟩
            rw [hzn] at hzc
            obtain ⟨p, hp⟩ : ∃ p, zn % k = p := ⟨_, rfl⟩
            have hpk : p < k := by rw [← hp]; exact Nat.mod_lt _ (by omega)
            have HIX := Lib.hid (show (wrap64 (zn : Int)).tmod (k : Int) = (p : Nat) by rw [show wrap64 (zn : Int) = zn by unfold wrap64; omega, Int.tmod_eq_emod_of_nonneg (by omega), ← hp]; rfl)
            clear hzn hp hz255
            obtain ⟨ab, ao, row, hae, hab, hrow, -, hac⟩ := (HAR.out.below hlow (Nat.le_refl _)).at_ hpk
            have hrowin := List.mem_of_getElem? hrow
            have harg := HAR.out.good row hrowin
            have hrl25 := H25.out row hrowin
            have hqk : p < qs.length := by have := hTT.len; omega
            obtain ⟨q, hq⟩ : ∃ q, qs[p]? = some q := ⟨_, List.getElem?_eq_getElem hqk⟩
            have hql : q.1.l = row.zs := by
              have e : (qs.map (fun q => q.1.l))[p]? = (rows.map (·.zs))[p]? := by rw [HLS.out]
              rw [List.getElem?_map, List.getElem?_map, hq, hrow] at e
              exact Option.some.inj e
            have hx : (qs.map (·.1))[p]? = some q.1 := by rw [List.getElem?_map, hq]; rfl
            have htl : ts.length = k := HL.out
            obtain ⟨t, ht⟩ : ∃ t, ts[p]? = some t := ⟨_, List.getElem?_eq_getElem (by omega)⟩
            have hcell := hTT.row.cell (j := p) (u := ptrTo t) (by rw [List.getElem?_map, ht]; rfl)
            have d0 := hac 0 _ rfl
            simp only [Nat.mul_one, Nat.add_zero] at d0
            have hne' : (k : Int) ≠ 0 := by omega
            have hpi : (p : Int) < k := by omega
            have hpi0 : (0 : Int) ≤ p := by omega
            obtain ⟨s0, F0, htm0, hov0, -, hR0⟩ := hTT.ths.over ht hx
            have hok := hR0.1
            subst hae
            rw [← hql] at harg
            have HTT := Lib.hid hTT
            have HARG := Lib.hid harg
            have HOK := Lib.hid hok
            have HOV := Lib.hid (t_over m c t μ s0 F0 wr htm0)
            rw [hov0] at HOV
            have HROW := Lib.hid hrow
            clear hac hlow hrow hrowin hrl25 hql hx htl htm0 hov0 hR0 hok harg hTT
            have HQ := Lib.hid hq
            have HT := Lib.hid ht
            obtain ⟨ws, x', μ', hws, hx'⟩ : ∃ ws x' μ', (q.1.b && q.1.place.isRet) = ws ∧ ((q.1.b && q.1.place.isRet) = true ∧ x' = q.1 ∧ μ' = μ ∨ (q.1.b && q.1.place.isRet) = false ∧ x' = q.1.next n μ ∧ μ' = (q.1.u.step q.1.l n μ).2) := by
              cases hb : (q.1.b && q.1.place.isRet) with
              | true => exact ⟨true, q.1, μ, rfl, .inl ⟨rfl, rfl, rfl⟩⟩
              | false => exact ⟨false, _, _, rfl, .inr ⟨rfl, rfl, rfl⟩⟩
            rw [hws] at HOV
            have HX := Lib.hid hx'
            have HWS := Lib.hid hws
            clear hq ht hws hx'
            go_upto_region 15 with fail
            rw [HIX.out]
            go_wp2_with fail
            refine HOV.out.mono ?_
            rintro e w5 ⟨rfl, rfl⟩
            clear hzc hcell
            go_upto_region 17 with fail
            go_still_tail 11, (by kernel_rfl)
            change wpList _ _ _ _ _ wr.drew
            have hT1 := HTT.out.later (Upd.drew (Upd.refl [] wr))
            have habd : ab < wr.drew.heap.size := hab
            clear d0 HTT HOV hab
            generalize wr.drew = w5 at *
            have HS17 := Lib.hid (TT.stepT (n : Int) hT1 HT.out (by rw [List.getElem?_map, HQ.out]; rfl) HARG.out x' μ' HX.out)
            clear hT1
            go_wp2_with fail
            refine HS17.out.mono ?_
            rintro e w6 ⟨rfl, hT6⟩
            have HT6 := Lib.hid hT6
            clear hT6 HS17
            obtain ⟨ov, hov⟩ : ∃ ov, x'.place.isRet = ov := ⟨_, rfl⟩
            rw [hov]
            have HOV := Lib.hid hov
            clear hov
            go_upto_if 94 with fail
            go_cut [] (fun wc => Both03 w m c pb r g wb tg k cap' ts (rows.map (·.zs)) p (.bool ov) wc)
            case first =>
              cases ws with
              | true =>
                obtain ⟨rfl, rfl⟩ : x' = q.1 ∧ μ' = μ := by
                  rcases HX.out with ⟨_, h1, h2⟩ | ⟨h, _⟩
                  · exact ⟨h1, h2⟩
                  · rw [HWS.out] at h; cases h
                have hqb : q.1.b = true := by have := HWS.out; rw [Bool.and_eq_true] at this; exact this.1
                have HQB := Lib.hid hqb
                clear hqb
                go_wp2
                go_meet
                have h := HT6.out
                rw [set_id (by rw [List.getElem?_map, HQ.out]; rfl)] at h
                exact ⟨qs, q, _, h, HLS.out, HQ.out, HQB.out, by rw [HOV.out], hc100⟩
              | false =>
                obtain ⟨rfl, rfl⟩ : x' = q.1.next n μ ∧ μ' = (q.1.u.step q.1.l n μ).2 := by
                  rcases HX.out with ⟨h, _⟩ | ⟨_, h1, h2⟩
                  · rw [HWS.out] at h; cases h
                  · exact ⟨h1, h2⟩
                obtain ⟨ab2, ao2, row2, hae2, hab2, hrow2, -, hac2⟩ := (HAR.out.below HT6.out.low (Nat.le_refl _)).at_ hpk
                obtain ⟨rfl, rfl⟩ : ab2 = ab ∧ ao2 = ao := by simpa using hae2.symm
                obtain rfl : row2 = row := by rw [HROW.out] at hrow2; exact (Option.some.inj hrow2).symm
                have d0 := hac2 0 _ rfl
                simp only [Nat.mul_one, Nat.add_zero] at d0
                clear hae2 hrow2 hac2
                go_upto_region 19 with fail
                go_still_tail 9, (by kernel_rfl)
                change wpList _ _ _ _ _ w6.drew
                have hT7 := HT6.out.later (Upd.drew (Upd.refl [] w6))
                clear d0 HT6 hab2
                generalize w6.drew = w7 at *
                have HS19 := Lib.hid (TT.stepR (n : Int) hT7 HQ.out HOK.out HARG.out)
                clear hT7
                go_wp2_with fail
                refine HS19.out.mono ?_
                rintro e w8 ⟨rfl, A', cap2, hT8⟩
                have HB := Lib.hid (show Both03 w m c pb r g wb tg k cap' ts (rows.map (·.zs)) p (.bool ov) w8 by
                  refine ⟨qs.set p (q.1.next n μ, A', cap2), (q.1.next n μ, A', cap2), (q.1.u.step q.1.l n μ).2, ?_, ?_, List.getElem?_set_self hqk, rfl, by rw [HOV.out], by rw [step_len]; exact hc100⟩
                  · rw [List.map_set]
                    exact hT8
                  · rw [List.map_set]
                    refine (set_id ?_).trans HLS.out
                    rw [List.getElem?_map, HQ.out]
                    rfl)
                clear HS19 hT8
                go_wp2
                go_meet
                exact HB.out
            case rest =>
              rename_i hcut
              clear HX HT6 HWS HARG HOK HQ HLS hqk hc100 habd
              obtain ⟨qs', q', μ2, hT, hls, hq', hb', hv, hc2⟩ := hcut
              injection hv with hv
              have HLS := Lib.hid hls
              have HC2 := Lib.hid hc2
              have hx' : (qs'.map (·.1))[p]? = some q'.1 := by rw [List.getElem?_map, hq']; rfl
              obtain ⟨s1, F1, htm1, hov1, hdr1, hR1⟩ := hT.ths.over HT.out hx'
              have hok1 := hR1.1
              rw [hb', Bool.true_and, ← hv] at hov1
              have hql1 : q'.1.l = row.zs := by
                have e : (qs'.map (fun q => q.1.l))[p]? = (rows.map (·.zs))[p]? := by rw [hls]
                rw [List.getElem?_map, List.getElem?_map, hq', HROW.out] at e
                exact Option.some.inj e
              obtain ⟨ab2, ao2, row2, hae2, hab2, hrow2, hrarg, hac2⟩ := (HAR.out.below hT.low (Nat.le_refl _)).at_ hpk
              obtain ⟨rfl, rfl⟩ : ab2 = ab ∧ ao2 = ao := by simpa using hae2.symm
              obtain rfl : row2 = row := by rw [HROW.out] at hrow2; exact (Option.some.inj hrow2).symm
              have d0 := hac2 0 _ rfl
              simp only [Nat.mul_one, Nat.add_zero] at d0
              have harg1 := (hrarg.below hT.low (Nat.le_refl _))
              have w0c := hT.blk.at_ ((rarr_get hq' (j := 0) (by omega)).trans rfl)
              have w1c := hT.blk.at_ ((rarr_get hq' (j := 1) (by omega)).trans rfl)
              have w2c := hT.blk.at_ ((rarr_get hq' (j := 2) (by omega)).trans rfl)
              simp only [Nat.add_zero] at w0c
              obtain ⟨_, _, hrb, -⟩ := hT.ref
              have r1c := hrb.at_ (i := 1) rfl
              simp only [List.getElem_toArray, List.getElem_cons_succ, List.getElem_cons_zero] at r1c
              have hsk : (skip (row2.zs.drop q'.1.u.at_)).isEmpty = ov := by rw [hv, hok1.ret, hql1]
              have hatl : q'.1.u.at_ ≤ row2.len := by have := hok1.at_; rw [hql1] at this; have := hrarg.hl; omega
              have HOV1 := Lib.hid (fun x => t_over m c t μ2 s1 F1 (wc.drewN x) (htm1.drewN x))
              have HST1 := Lib.hid (fun x => t_steps m c t μ2 s1 F1 (wc.drewN x) (htm1.drewN x))
              have HDR1 := Lib.hid (fun x => t_dry m c t μ2 s1 F1 (wc.drewN x) (htm1.drewN x))
              have HCN1 := Lib.hid (fun x => cell_count m c μ2 (wc.drewN x) (htm1.mem.drewN x))
              have HRO1 := Lib.hid (fun x => ref03_over wb (p * 4) q'.1.u.at_ row2.a row2.len row2.cap row2.zs (wc.drewN x) w0c (harg1.upd ((Upd.refl [] wc).drewN x) (by simp)) hatl)
              rw [hov1] at HOV1
              rw [hdr1, hov1] at HDR1
              rw [hR1.2.1] at HST1
              rw [hsk] at HRO1
              have hsum : ov = true → wc.cell? ⟨pb, p, none⟩ = some (.int .i64 q'.1.u.sum) := fun ho => by
                rw [hv] at ho
                exact hT.ths.cell_ret HT.out hx' hb' (hok1.over ho)
              have HTT := Lib.hid hT
              have gt : ((q'.1.u.told : Int) != (q'.1.u.told : Int)) = false := by simp
              have gs : (q'.1.u.sum != q'.1.u.sum) = false := by simp
              have gc : (μ2.count != μ2.count) = false := by simp
              clear hls hq' hb' hv hx' htm1 hov1 hdr1 hR1 hok1 hrow2 hrarg hac2 hae2 hql1 harg1 hrb hsk hatl hT hc2
              cases ov with
              | true =>
                have pc := hsum rfl
                clear hsum
                go_upto_region 20 with fail
                go_quiet ((first | (go_at_call 22; exact quiet_own (HOV1.out _)) | (go_at_call 31; exact quiet_own (HRO1.out _)) | (go_at_call 21; exact quiet_own (HST1.out _)) | (go_at_call 24; exact quiet_own (HCN1.out _)) | (go_at_call 23; exact quiet_own (HDR1.out _))))
                clear d0 w0c w1c w2c r1c pc
                go_wp2
                go_roundw
                case rel => exact ⟨n + 1, qs', μ2, by omega, by go_num, HTT.out.later ((Upd.refl [] wc).drewN _), HLS.out, HC2.out⟩
                case measure => simp [intOf]; omega
              | false =>
                clear hsum
                go_upto_region 20 with fail
                go_quiet ((first | (go_at_call 22; exact quiet_own (HOV1.out _)) | (go_at_call 31; exact quiet_own (HRO1.out _)) | (go_at_call 21; exact quiet_own (HST1.out _)) | (go_at_call 24; exact quiet_own (HCN1.out _)) | (go_at_call 23; exact quiet_own (HDR1.out _))))
                clear d0 w0c w1c w2c r1c
                go_wp2
                go_roundw
                case rel => exact ⟨n + 1, qs', μ2, by omega, by go_num, HTT.out.later ((Upd.refl [] wc).drewN _), HLS.out, HC2.out⟩
                case measure => simp [intOf]; omega
          · obtain rfl : n = tlen := by omega
            have hal : ∀ i, i < k → AlikeAt wr tg wb i := by
              intro i hi
              have hql := hTT.len
              obtain ⟨q, hq⟩ : ∃ q, qs[i]? = some q := ⟨_, List.getElem?_eq_getElem (by omega)⟩
              have htl : ts.length = k := HL.out
              obtain ⟨t, ht⟩ : ∃ t, ts[i]? = some t := ⟨_, List.getElem?_eq_getElem (by omega)⟩
              have hx : (qs.map (·.1))[i]? = some q.1 := by rw [List.getElem?_map, hq]; rfl
              obtain ⟨s0, F0, htm0, hov0, -, hR0⟩ := hTT.ths.over ht hx
              have hm := hR0.2.2
              have hok := hR0.1
              refine ⟨t, m, c, μ, s0, F0, q.2.1, q.2.2, hTT.row.cell (by rw [List.getElem?_map, ht]; rfl), htm0, ?_, ?_, ?_⟩
              · rw [hm]; have := hok.told; have := hok.at_; have := hok.few; omega
              · rw [hm]; exact hTT.blk.at_ ((rarr_get hq (j := 3) (by omega)).trans rfl)
              · rw [hm]; exact hTT.own i q hq
            have HALK := Lib.hid (alike03 k tg cap' wb k (by omega) wr hal)
            have hmm := hTT.ths.mem
            have href := hTT.ref
            have HLOW := Lib.hid hTT.low
            clear hTT hal
            go_wp2_with fail
            refine HALK.out.mono ?_
            rintro e w5 ⟨rfl, hb5⟩
            have hm5 := hmm.below hb5 hmm.1.lt hmm.2.1.lt
            have hr5 := href.upd (Upd.of_below hb5 (F := [])) (by simp) (by simp)
            have HC20 := Lib.hid (cells20_03 m c r g μ w5 hm5 hr5 hc100)
            have HB5 := Lib.hid hb5
            clear hm5 hr5 hmm href hb5 HALK
            go_wp2_with fail
            refine HC20.out.mono ?_
            rintro e w6 ⟨rfl, hb6⟩
            have HB6 := Lib.hid (below_then (below_then HLOW.out HB5.out (Nat.le_refl _)) hb6 (Nat.le_refl _))
            clear hb6
            go_wp2
            go_ret
            exact ⟨rfl, HB6.out⟩
end Go.Proofs.Ytcphidmfdakbeaa
