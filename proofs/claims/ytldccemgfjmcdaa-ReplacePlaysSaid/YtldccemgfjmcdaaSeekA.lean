/- Layer 16's seek: Area, as a task on a land. -/
import Derived.Test.YtldccemgfjmcdaaSeek
import Derived.Test.YtldccemgfjmcdaaArea5
namespace Go.Proofs.Ytldccemgfjmcdaa
open Go.RowKit
set_option linter.unusedSimpArgs false
set_option linter.unusedVariables false

/-- What a call leaves of other blocks. -/
def Keeps (w w' : World) (p : Pl) (F F' : List Nat) : Prop := Upd (p.all F) w w' ∧ ∀ b ∈ F', b ∈ F ∨ w.heap.size ≤ b
section
variable {w0 w w' : World} {p : Pl} {σ σ' : LandS} {s s' : TrS} {F0 F F' : List Nat} {n : Nat}
theorem AtL.doesK {β : Type} {R : World → β → Value → Prop} {r : Res LandS β} {e : Ending} (a : AtL w0 w p σ s F0 F n) (h : DoesL R w p σ s F r e w') :
    ∃ v x σ' s' F', e = .returned x ∧ R w' v x ∧ Sim (r.run σ s) (v, σ', s') ∧ AtL w0 w' p σ' s' F0 F' n ∧ Keeps w w' p F F' := by
  obtain ⟨v, x, σ', s', he, hR, hs, F', ht, hF, hu⟩ := h
  obtain ⟨F2, a'⟩ := a.step hs ⟨F', ht, hF, hu⟩
  refine ⟨v, x, σ', s', F', he, hR, hs, ?_, hu, hF⟩
  refine ⟨ht, fun b hb => ?_, a'.upd, a'.inn, a'.over⟩
  rcases hF b hb with h | h
  · exact a.sub b h
  · exact .inr (Nat.le_trans a.upd.size h)
theorem Keeps.notin (h : Keeps w w' p F F') {b : Nat} (hlt : b < w.heap.size) (hn : b ∉ p.all F) : b ∉ p.all F' := by
  intro hin
  simp only [Pl.all, List.mem_cons, not_or] at hin hn
  obtain ⟨h1, h2, h3, h4, h5⟩ := hn
  rcases hin with e | e | e | e | e
  · exact h1 e
  · exact h2 e
  · exact h3 e
  · exact h4 e
  · rcases h.2 b e with h | h
    · exact h5 h
    · omega
theorem Keeps.blk (h : Keeps w w' p F F') {b : Nat} {ty : TypeId} {cs : Array Value} (hb : Blk w b ty cs) (hn : b ∉ p.all F) : Blk w' b ty cs := hb.upd h.1 hn
theorem Keeps.row (h : Keeps w w' p F F') {b n c z : Nat} {ty : TypeId} {xs : List Value} (hb : Row w ty z b n c xs) (hn : b ∉ p.all F) : Row w' ty z b n c xs := hb.upd h.1 hn
/-- A block that is new since w0 lies apart from the task's. -/
theorem AtL.fresh_notin (a : AtL w0 w p σ s F0 F n) (h0 : TL w0 p σ' s' F0) : w.heap.size ∉ p.all F := by
  intro hin
  exact Nat.lt_irrefl _ (a.tl.lt _ hin)
theorem AtL.put (a : AtL w0 w p σ s F0 F n) {q : Addr} (hq : q.block ∉ p.all F) (hnew : w0.heap.size ≤ q.block) (u : Value) : AtL w0 (w.setCell q u) p σ s F0 F n :=
  ⟨a.tl.upd ((Upd.refl [q.block] w).put (.inl (by simp)) u) (fun b hb hb2 => by simp at hb2; exact hq (hb2 ▸ hb)), a.sub, a.upd.put (.inr hnew) u, a.inn, a.over⟩
theorem AtL.put6 (a : AtL w0 w p σ s F0 F n) {b : Nat} (hq : b ∉ p.all F) (hnew : w0.heap.size ≤ b) (v0 v1 v2 v3 v4 v5 : Value) :
    AtL w0 ((((((w.setCell ⟨b, 0, none⟩ v0).setCell ⟨b, 1, none⟩ v1).setCell ⟨b, 2, none⟩ v2).setCell ⟨b, 3, none⟩ v3).setCell ⟨b, 4, none⟩ v4).setCell ⟨b, 5, none⟩ v5) p σ s F0 F n :=
  (((((a.put (q := ⟨b, 0, none⟩) hq hnew v0).put (q := ⟨b, 1, none⟩) hq hnew v1).put (q := ⟨b, 2, none⟩) hq hnew v2).put (q := ⟨b, 3, none⟩) hq hnew v3).put (q := ⟨b, 4, none⟩) hq hnew v4).put (q := ⟨b, 5, none⟩) hq hnew v5
end

/-- So many words from the i-th on. -/
def wordsR (hd : Int) (i : Nat) : Nat → List Int → Res LandS (List Int)
  | 0, acc => .ret acc
  | k + 1, acc => (readR hd (i : Int)).bind fun v => wordsR hd (i + 1) k (acc ++ [v])
def areaAns (ws : List Int) : AreaV × Bool × Bool := match unpackA (ws ++ zeros 20) with
  | some q => (q.1, q.2, true)
  | none => (⟨0, 0, 0, false, 0, 0⟩, false, false)
def areaR (hd : Int) : Res LandS (AreaV × Bool × Bool) := (wordsR hd 0 8 []).bind fun ws => .ret (areaAns ws)
def AV : World → AreaV × Bool × Bool → Value → Prop := fun _ v x => x = .tuple #[.agg (areaCells v.1), .bool v.2.1, .bool v.2.2]
theorem words_good (hd : Int) : ∀ k i acc, (wordsR hd i k acc).Good WfL
  | 0, _, _ => trivial
  | k + 1, i, acc => Good.bind (read_good _ _) fun v => words_good hd k (i + 1) _
theorem words_free (hd : Int) : ∀ k i acc, (wordsR hd i k acc).free
  | 0, _, _ => trivial
  | k + 1, i, acc => Res.bind_free (readR_free _ _) fun v => words_free hd k (i + 1) _
theorem area_good (hd : Int) : (areaR hd).Good WfL := Good.bind (words_good hd 8 0 []) fun _ => trivial
theorem area_free (hd : Int) : (areaR hd).free := Res.bind_free (words_free hd 8 0 []) fun _ => trivial
theorem nums_put {acc : List Int} {j : Nat} (hl : acc.length = j) (hj : j < 28) (v : Int) : (nums .i64 (acc ++ zeros (28 - j))).setIfInBounds j (.int .i64 v) = nums .i64 (acc ++ [v] ++ zeros (28 - (j + 1))) := by
  rw [nums_set, List.set_append_right _ _ (by omega), hl, Nat.sub_self, show 28 - j = (28 - (j + 1)) + 1 by omega]
  simp [zeros, List.replicate_succ]
theorem zeros_wf' (k : Nat) : ∀ x ∈ zeros k, WfI x := zeros_wf k
/-- Where the loop over the words is. -/
structure AreaInv (w wr : World) (p : Pl) (σ : LandS) (s : TrS) (F : List Nat) (n : Nat) (hd : Int) (rb : Nat) (j : Nat) (σ' : LandS) (s' : TrS) (F' : List Nat) (acc : List Int) : Prop where
  at_ : AtL w wr p σ' s' F F' n
  goes : GoesL (areaR hd) σ s ((wordsR hd j (8 - j) acc).bind fun ws => .ret (areaAns ws)) σ' s'
  len : acc.length = j
  wf : ∀ x ∈ acc, WfI x
  res : Blk wr rb 57 #[.int .i64 0, .int .i64 0, .int .i64 0, .bool false, .int .i64 0, .int .i64 0]
  row : Blk wr (rb + 1) 2 (nums .i64 (acc ++ zeros (28 - j)))
  n1 : rb ∉ p.all F'
  n2 : rb + 1 ∉ p.all F'
theorem Blk.put6 {w : World} {b : Nat} {ty : TypeId} {a0 a1 a2 a3 a4 a5 : Value} (h : Blk w b ty #[a0, a1, a2, a3, a4, a5]) (v0 v1 v2 v3 v4 v5 : Value) : Blk ((((((w.setCell ⟨b, 0, none⟩ v0).setCell ⟨b, 1, none⟩ v1).setCell ⟨b, 2, none⟩ v2).setCell ⟨b, 3, none⟩ v3).setCell ⟨b, 4, none⟩ v4).setCell ⟨b, 5, none⟩ v5) b ty #[v0, v1, v2, v3, v4, v5] :=
  (((((h.put 0 v0).put 1 v1).put 2 v2).put 3 v3).put 4 v4).put 5 v5
set_option maxRecDepth 100000 in
set_option maxHeartbeats 2000000 in
theorem seek_area (hd : Int) (p : Pl) (σ : LandS) (s : TrS) (F : List Nat) (n : Nat) (w : World) (h : TL w p σ s F) (hi : s.In n) (hn : n ≤ 1000000) (hov : s.over = false) (hh : hd < 9223372036854775808) :
    Calls Try.prog 79 #[.pointer (some ⟨p.t, 0, none⟩), .pointer (some ⟨p.a, 0, none⟩), .int .i64 hd] w (DoesL AV w p σ s F (areaR hd)) := by
  have hmk : ∀ w, (Instr.makeSlice 31 (.int .i64 28) (.int .i64 28)).run Try.prog w = .ok (.slice (some ⟨w.heap.size, 0, none⟩) 28 28) (w.alloc (.cells (madeCells #[.int .i64 0] 28) 2)) :=
    run_make_row' (P := Try.prog) 31 2 (.int .i64 0) 8 Try.underlying31 info_i64 rfl .i64 .i64 28 (by omega) (by omega)
  have A0 := Lib.hid (AtL.first h hi hov)
  have HLT := Lib.hid h.lt
  clear h hi hov
  go_enter Try.func79, Try.ntmps79
  replace A0 := Lib.hid (A0.out.thru (below_alloc0 w (.cells #[.int .i64 0, .int .i64 0, .int .i64 0, .bool false, .int .i64 0, .int .i64 0] 57)))
  have HRB := Lib.hid (Blk.new w 57 #[.int .i64 0, .int .i64 0, .int .i64 0, .bool false, .int .i64 0, .int .i64 0])
  go_upto_region 2 with fail
  have HZ := Lib.hid (World.size_alloc w (.cells #[.int .i64 0, .int .i64 0, .int .i64 0, .bool false, .int .i64 0, .int .i64 0] 57))
  obtain ⟨rb, hrb⟩ : ∃ x, w.heap.size = x := ⟨_, rfl⟩
  simp only [hrb] at HRB HZ ⊢
  replace hrb := Lib.hid hrb
  generalize w.alloc (.cells #[.int .i64 0, .int .i64 0, .int .i64 0, .bool false, .int .i64 0, .int .i64 0] 57) = w1 at *
  have HG := Lib.hid (show Blk (w1.alloc (.cells (madeCells #[.int .i64 0] 28) 2)) (rb + 1) 2 (nums .i64 ([] ++ zeros (28 - 0))) by
    have := Blk.new w1 2 (madeCells #[.int .i64 0] 28)
    rw [HZ.out, nums_zeros] at this
    rw [nums_zeros]
    exact this)
  replace A0 := Lib.hid (A0.out.thru (below_alloc0 w1 (.cells (madeCells #[.int .i64 0] 28) 2)))
  replace HRB := Lib.hid (HRB.out.thru (below_alloc0 w1 (.cells (madeCells #[.int .i64 0] 28) 2)))
  have HNW := Lib.hid (show w.heap.size ≤ rb by rw [hrb.out]; exact Nat.le_refl _)
  have HNW2 := Lib.hid (show w.heap.size ≤ rb + 1 by rw [hrb.out]; omega)
  have HN1 := Lib.hid (show rb ∉ p.all F from fun hin => by have := HLT.out _ hin; have := hrb.out; omega)
  have HN2 := Lib.hid (show rb + 1 ∉ p.all F from fun hin => by have := HLT.out _ hin; have := hrb.out; omega)
  clear HZ HLT hmk
  generalize w1.alloc (.cells (madeCells #[.int .i64 0] 28) 2) = w2 at *
  have H0 := Lib.hid (show AreaInv w w2 p σ s F n hd rb 0 σ s F [] from ⟨A0.out, GoesL.refl _ _ _, rfl, by simp, HRB.out, HG.out, HN1.out, HN2.out⟩)
  clear A0 HRB HG HN1 HN2
  go_wp2_with fail
  go_loopw [12] (fun i wr => ∃ j σ' s' F' acc, j ≤ 8 ∧ i = .int .i64 (j : Nat) ∧ AreaInv w wr p σ s F n hd rb j σ' s' F' acc) (fun i _ => 8 - (intOf i).toNat)
  case atStart => exact ⟨0, σ, s, F, [], Nat.zero_le _, rfl, H0.out⟩
  case round =>
    clear H0
    obtain ⟨j, σ', s', F', acc, hj, rfl, hinv⟩ := hrel
    have HI := Lib.hid hinv
    clear hinv
    by_cases hlt : j < 8
    · have hlt28 : j < 28 := by omega
      have hjz : (0 : Int) ≤ j := by omega
      have HR := Lib.hid (seek_read hd (j : Int) p σ' s' F' wr HI.out.at_.tl (HI.out.at_.ok hn) hh)
      have e : wordsR hd j (8 - j) acc = (readR hd (j : Int)).bind fun v => wordsR hd (j + 1) (8 - (j + 1)) (acc ++ [v]) := by
        rw [show 8 - j = (8 - (j + 1)) + 1 by omega]
        rfl
      have HX := Lib.hid e
      clear e
      go_wp2_with fail
      refine HR.out.mono ?_
      rintro e w3 hd3
      obtain ⟨v, x, σ3, s3, F3, rfl, ⟨rfl, hwf⟩, hsim, a3, hk⟩ := HI.out.at_.doesK hd3
      have hnot1 := hk.notin HI.out.res.lt HI.out.n1
      have hnot2 := hk.notin HI.out.row.lt HI.out.n2
      have hrow := hk.blk HI.out.row HI.out.n2
      have hres := hk.blk HI.out.res HI.out.n1
      have hgo : GoesL (areaR hd) σ s ((wordsR hd (j + 1) (8 - (j + 1)) (acc ++ [v])).bind fun ws => .ret (areaAns ws)) σ3 s3 := by
        refine HI.out.goes.trans ?_
        rw [HX.out]
        have e2 : ((readR hd (j : Int)).bind fun v => wordsR hd (j + 1) (8 - (j + 1)) (acc ++ [v])).bind (fun ws => Res.ret (areaAns ws)) = (readR hd (j : Int)).bind fun v => (wordsR hd (j + 1) (8 - (j + 1)) (acc ++ [v])).bind fun ws => .ret (areaAns ws) := by
          simp [readR, Res.bind]
        rw [e2]
        exact GoesL.bind hsim
      have hcell := hrow.at_ (i := j) (nums_get .i64 _ j (by simp [HI.out.len, zeros]; omega))
      have hfree := hrow.free j
      have hrow' := hrow.put j (.int .i64 v)
      rw [nums_put HI.out.len hlt28 v] at hrow'
      have H4 := Lib.hid (show AreaInv w (w3.setCell ⟨rb + 1, j, none⟩ (.int .i64 v)) p σ s F n hd rb (j + 1) σ3 s3 F3 (acc ++ [v]) from
        ⟨a3.put (q := ⟨rb + 1, j, none⟩) hnot2 HNW2.out _, hgo, by simp [HI.out.len], by
          intro y hy
          rcases List.mem_append.1 hy with hy | hy
          · exact HI.out.wf y hy
          · simp only [List.mem_singleton] at hy
            exact hy ▸ hwf, hres.far (p := ⟨rb + 1, j, none⟩) (by simp) _, hrow', hnot1, hnot2⟩)
      clear hwf hsim a3 hk hnot1 hnot2 hrow hres hgo hrow' hd3 HR HX HI
      go_wp2
      go_roundw
      case rel => exact ⟨j + 1, σ3, s3, F3, _, by omega, by go_num, H4.out⟩
      case measure => simp [intOf]; omega
    · obtain rfl : j = 8 := by omega
      have A := Lib.hid HI.out.at_
      have HR := Lib.hid HI.out.res
      have HN1 := Lib.hid HI.out.n1
      have HG := Lib.hid (show GoesL (areaR hd) σ s (.ret (areaAns acc)) σ' s' from HI.out.goes)
      have HROW := Lib.hid (show Ints wr (some ⟨rb + 1, 0, none⟩) 28 28 (acc ++ zeros 20) by
        have h1 := Row.made HI.out.row (by rw [nums_size]; simp [HI.out.len, zeros, maxLen])
        rw [nums_size] at h1
        have hl : (acc ++ zeros (28 - 8)).length = 28 := by simp [HI.out.len, zeros]
        rw [hl] at h1
        exact ArgInts.ofRow h1 (fun y hy => by
          rcases List.mem_append.1 hy with hy | hy
          · exact HI.out.wf y hy
          · exact zeros_wf _ y hy))
      have HD := Lib.hid (t_dry p.m p.c p.t σ'.mu s' F' wr HI.out.at_.tl.tm)
      rw [HI.out.at_.over, Bool.not_false, Bool.and_true] at HD
      clear HI
      cases hdry : s'.dry with
      | true =>
        rw [hdry] at HD
        have HX := Lib.hid (HG.out.end_dry hdry (⟨0, 0, 0, false, 0, 0⟩, false, false))
        clear hdry
        go_wp2_with fail
        refine HD.out.mono ?_
        rintro e w3 ⟨rfl, rfl⟩
        obtain ⟨m0, m1, m2, m3, m4, m5⟩ := HR.out.at6
        obtain ⟨f0, f1, f2, f3, f4, f5⟩ := HR.out.fr6
        go_wp2
        have hz := HR.out.put6 (.int .i64 0) (.int .i64 0) (.int .i64 0) (.bool false) (.int .i64 0) (.int .i64 0)
        have HAF := Lib.hid (A.out.put6 HN1.out HNW.out (.int .i64 0) (.int .i64 0) (.int .i64 0) (.bool false) (.int .i64 0) (.int .i64 0))
        have hrun := run_loadVar_row (P := Try.prog) ((((((wr.setCell ⟨rb, 0, none⟩ (.int .i64 0)).setCell ⟨rb, 1, none⟩ (.int .i64 0)).setCell ⟨rb, 2, none⟩ (.int .i64 0)).setCell ⟨rb, 3, none⟩ (.bool false)).setCell ⟨rb, 4, none⟩ (.int .i64 0)).setCell ⟨rb, 5, none⟩ (.int .i64 0)) rb 57 57 #[.int .i64 0, .int .i64 0, .int .i64 0, .bool false, .int .i64 0, .int .i64 0] (0, 0) _ hz Try.underlying57 rfl h6
        generalize ((((((wr.setCell ⟨rb, 0, none⟩ (.int .i64 0)).setCell ⟨rb, 1, none⟩ (.int .i64 0)).setCell ⟨rb, 2, none⟩ (.int .i64 0)).setCell ⟨rb, 3, none⟩ (.bool false)).setCell ⟨rb, 4, none⟩ (.int .i64 0)).setCell ⟨rb, 5, none⟩ (.int .i64 0)) = wz at *
        exact bodyPost_ret (v := .tuple #[.agg #[.int .i64 0, .int .i64 0, .int .i64 0, .bool false, .int .i64 0, .int .i64 0], .bool false, .bool false]) (by simp [results, Try.results79, asAddr, hrun]) rfl ⟨(⟨0, 0, 0, false, 0, 0⟩, false, false), _, _, _, rfl, rfl, HX.out, HAF.out.tls⟩
      | false =>
        rw [hdry] at HD
        clear hdry
        have HU := Lib.hid (slot_unpackArea (some ⟨rb + 1, 0, none⟩) 28 28 (acc ++ zeros 20) wr HROW.out)
        go_wp2_with fail
        refine HD.out.mono ?_
        rintro e w3 ⟨rfl, rfl⟩
        go_wp2_with fail
        refine (HU.out).mono ?_
        rintro e w4 ⟨hb, hcase⟩
        replace A := Lib.hid (A.out.thru hb)
        replace HR := Lib.hid (HR.out.thru hb)
        clear hb
        rcases hcase with ⟨hno, rfl⟩ | ⟨⟨sa, so, pr, sh, ba, oo⟩, dd, hyes, rfl⟩
        · have HX := Lib.hid (show Sim ((areaR hd).run σ s) ((⟨0, 0, 0, false, 0, 0⟩, false, false), σ', s') by
            have := HG.out.end_ret
            unfold areaAns at this
            rw [hno] at this
            exact this)
          unfold noArea
          clear hno
          obtain ⟨m0, m1, m2, m3, m4, m5⟩ := HR.out.at6
          obtain ⟨f0, f1, f2, f3, f4, f5⟩ := HR.out.fr6
          go_wp2
          have hz := HR.out.put6 (.int .i64 0) (.int .i64 0) (.int .i64 0) (.bool false) (.int .i64 0) (.int .i64 0)
          have HAF := Lib.hid (A.out.put6 HN1.out HNW.out (.int .i64 0) (.int .i64 0) (.int .i64 0) (.bool false) (.int .i64 0) (.int .i64 0))
          have hrun := run_loadVar_row (P := Try.prog) ((((((w4.setCell ⟨rb, 0, none⟩ (.int .i64 0)).setCell ⟨rb, 1, none⟩ (.int .i64 0)).setCell ⟨rb, 2, none⟩ (.int .i64 0)).setCell ⟨rb, 3, none⟩ (.bool false)).setCell ⟨rb, 4, none⟩ (.int .i64 0)).setCell ⟨rb, 5, none⟩ (.int .i64 0)) rb 57 57 #[.int .i64 0, .int .i64 0, .int .i64 0, .bool false, .int .i64 0, .int .i64 0] (0, 0) _ hz Try.underlying57 rfl h6
          generalize ((((((w4.setCell ⟨rb, 0, none⟩ (.int .i64 0)).setCell ⟨rb, 1, none⟩ (.int .i64 0)).setCell ⟨rb, 2, none⟩ (.int .i64 0)).setCell ⟨rb, 3, none⟩ (.bool false)).setCell ⟨rb, 4, none⟩ (.int .i64 0)).setCell ⟨rb, 5, none⟩ (.int .i64 0)) = wz at *
          exact bodyPost_ret (v := .tuple #[.agg #[.int .i64 0, .int .i64 0, .int .i64 0, .bool false, .int .i64 0, .int .i64 0], .bool false, .bool false]) (by simp [results, Try.results79, asAddr, hrun]) rfl ⟨(⟨0, 0, 0, false, 0, 0⟩, false, false), _, _, _, rfl, rfl, HX.out, HAF.out.tls⟩
        · have HX := Lib.hid (show Sim ((areaR hd).run σ s) ((⟨sa, so, pr, sh, ba, oo⟩, dd, true), σ', s') by
            have := HG.out.end_ret
            unfold areaAns at this
            rw [hyes] at this
            exact this)
          simp only [areaCells]
          clear hyes
          obtain ⟨m0, m1, m2, m3, m4, m5⟩ := HR.out.at6
          obtain ⟨f0, f1, f2, f3, f4, f5⟩ := HR.out.fr6
          go_wp2
          have hz := HR.out.put6 (.int .i64 sa) (.int .i64 so) (.int .i64 pr) (.bool sh) (.int .i64 ba) (.int .i64 oo)
          have HAF := Lib.hid (A.out.put6 HN1.out HNW.out (.int .i64 sa) (.int .i64 so) (.int .i64 pr) (.bool sh) (.int .i64 ba) (.int .i64 oo))
          have hrun := run_loadVar_row (P := Try.prog) ((((((w4.setCell ⟨rb, 0, none⟩ (.int .i64 sa)).setCell ⟨rb, 1, none⟩ (.int .i64 so)).setCell ⟨rb, 2, none⟩ (.int .i64 pr)).setCell ⟨rb, 3, none⟩ (.bool sh)).setCell ⟨rb, 4, none⟩ (.int .i64 ba)).setCell ⟨rb, 5, none⟩ (.int .i64 oo)) rb 57 57 #[.int .i64 sa, .int .i64 so, .int .i64 pr, .bool sh, .int .i64 ba, .int .i64 oo] (0, 0) _ hz Try.underlying57 rfl h6
          generalize ((((((w4.setCell ⟨rb, 0, none⟩ (.int .i64 sa)).setCell ⟨rb, 1, none⟩ (.int .i64 so)).setCell ⟨rb, 2, none⟩ (.int .i64 pr)).setCell ⟨rb, 3, none⟩ (.bool sh)).setCell ⟨rb, 4, none⟩ (.int .i64 ba)).setCell ⟨rb, 5, none⟩ (.int .i64 oo)) = wz at *
          exact bodyPost_ret (v := .tuple #[.agg #[.int .i64 sa, .int .i64 so, .int .i64 pr, .bool sh, .int .i64 ba, .int .i64 oo], .bool dd, .bool true]) (by simp [results, Try.results79, asAddr, hrun]) rfl ⟨(⟨sa, so, pr, sh, ba, oo⟩, dd, true), _, _, _, rfl, rfl, HX.out, HAF.out.tls⟩
end Go.Proofs.Ytldccemgfjmcdaa
