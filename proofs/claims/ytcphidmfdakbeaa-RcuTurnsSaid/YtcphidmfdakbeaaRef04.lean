/- The chapter's Task.Step, walked. -/
import Derived.Test.YtcphidmfdakbeaaRcuTurns
set_option linter.unusedSimpArgs false
set_option linter.unusedVariables false
namespace Go.Proofs.Ytcphidmfdakbeaa
open Go.RowKit

def tset (cs : Array Value) (off : Nat) (t : TS) : Array Value := (((cs.setIfInBounds (off + 2) (.int .i64 t.at_)).setIfInBounds (off + 3) (.int .i64 t.saw)).setIfInBounds (off + 4) (.bool t.over)).setIfInBounds (off + 5) (.bool t.went)

theorem blk_tset {w' : World} {tb off : Nat} {ty : TypeId} {cs cs' : Array Value} {t : TS} (h : Blk w' tb ty cs') (_hs : off + 5 < cs.size) (e0 : cs'[off + 2]? = some (.int .i64 t.at_)) (e1 : cs'[off + 3]? = some (.int .i64 t.saw)) (e2 : cs'[off + 4]? = some (.bool t.over)) (e3 : cs'[off + 5]? = some (.bool t.went))
    (hr : ∀ j, j ≠ off + 2 → j ≠ off + 3 → j ≠ off + 4 → j ≠ off + 5 → cs'[j]? = cs[j]?) : Blk w' tb ty (tset cs off t) := by
  have e : tset cs off t = cs' := by
    apply Array.ext_getElem?
    intro j
    unfold tset
    by_cases h3 : off + 5 = j
    · subst h3
      rw [Array.getElem?_setIfInBounds_self_of_lt (by simp; omega), e3]
    · rw [Array.getElem?_setIfInBounds_ne h3]
      by_cases h2 : off + 4 = j
      · subst h2
        rw [Array.getElem?_setIfInBounds_self_of_lt (by simp; omega), e2]
      · rw [Array.getElem?_setIfInBounds_ne h2]
        by_cases h1 : off + 3 = j
        · subst h1
          rw [Array.getElem?_setIfInBounds_self_of_lt (by simp; omega), e1]
        · rw [Array.getElem?_setIfInBounds_ne h1]
          by_cases h0 : off + 2 = j
          · subst h0
            rw [Array.getElem?_setIfInBounds_self_of_lt (by omega), e0]
          · rw [Array.getElem?_setIfInBounds_ne h0]
            exact (hr j (fun e => h0 e.symm) (fun e => h1 e.symm) (fun e => h2 e.symm) (fun e => h3 e.symm)).symm
  rw [e]
  exact h

def TaskPost04 (tb off bb : Nat) (cs : Array Value) (t : TS) (e : Int) (b : List Int) (w : World) (ed : Ending) (w' : World) : Prop :=
  ed = .returned (.tuple #[]) ∧ Blk w' tb 77 (tset cs off t) ∧ Blk w' bb 72 (nums .i64 (e :: b)) ∧ Upd [tb, bb] w w'

theorem TaskPost04.drew {tb off bb : Nat} {cs : Array Value} {t : TS} {e : Int} {b : List Int} {w w' : World} {ed : Ending} (h : TaskPost04 tb off bb cs t e b w ed w') : TaskPost04 tb off bb cs t e b w ed w'.drew :=
  ⟨h.1, h.2.1.drew, h.2.2.1.drew, h.2.2.2.drew⟩
theorem set_1x {α : Type} (e : α) (b : List α) (x : Nat) (v : α) : (e :: b).set (1 + x) v = e :: b.set x v := by rw [Nat.add_comm, List.set_cons_succ]

set_option maxRecDepth 100000 in
set_option maxHeartbeats 1000000 in
theorem ref04_over (tb off bb : Nat) (cs : Array Value) (kd : Int) (t : TS) (e : Int) (b : List Int) (w : World) (hT : Blk w tb 77 cs) (h0 : cs[off]? = some (.int .u8 kd)) (h1 : cs[off + 1]? = some (.int .i64 t.x)) (h2 : cs[off + 2]? = some (.int .i64 t.at_)) (h3 : cs[off + 3]? = some (.int .i64 t.saw)) (h4 : cs[off + 4]? = some (.bool t.over)) (h5 : cs[off + 5]? = some (.bool t.went)) (hB : Blk w bb 72 (nums .i64 (e :: b))) (hb : b.length = 16) (hok : t.Ok) (hkd : kd.tmod 3 = t.kind) (ho : t.over = true) :
    Calls Try.prog 37 #[.pointer (some ⟨tb, off, none⟩), .pointer (some ⟨bb, 0, none⟩)] w (TaskPost04 tb off bb cs (t.step e b).1 (t.step e b).2.1 (t.step e b).2.2 w) := by
  have n1 : tb ≠ bb := hT.ne_ hB (by decide)
  have hsz : off + 5 < cs.size := (Array.getElem?_eq_some_iff.1 h5).1
  have c0 := hT.at_ h0
  have c1 := hT.at_ h1
  have c2 := hT.at_ h2
  have c3 := hT.at_ h3
  have c4 := hT.at_ h4
  have f2 := hT.free (off + 2)
  have f3 := hT.free (off + 3)
  have f4 := hT.free (off + 4)
  have f5 := hT.free (off + 5)
  have c5 := hT.at_ h5
  have d0 : w.cell? ⟨bb, 0, none⟩ = some (.int .i64 e) := hB.at_ rfl
  have g0 := hB.free 0
  obtain ⟨kind, x, a, saw, over, went⟩ := t
  have hx := hok.x
  have hkk := hok.kind
  have k0 := hok.k0
  have k1 := hok.k1
  have k2 := hok.k2
  have hwent := hok.went
  simp only at c1 c2 c3 c4 c5 h1 h2 h3 h4 h5 hx hkk k0 k1 k2 hkd hwent
  simp only at ho
  subst ho
  have e1 : (TS.step ⟨kind, x, a, saw, true, went⟩ e b) = (⟨kind, x, a, saw, true, went⟩, e, b) := by rfl
  rw [e1]
  clear e1
  have hfin : TaskPost04 tb off bb cs ⟨kind, x, a, saw, true, went⟩ e b w (.returned (.tuple #[])) w := by
    refine ⟨rfl, blk_tset hT hsz ?_ ?_ ?_ ?_ ?_, ?_, (Upd.refl _ _)⟩
    · first | (simp [show off + 2 < cs.size by omega]; done) | ((repeat rw [Array.getElem?_setIfInBounds_ne (by omega)]); exact h2) | (rw [Array.getElem?_setIfInBounds_ne (by omega), Array.getElem?_setIfInBounds_self_of_lt (by omega)]; rfl)
    · first | (simp [show off + 3 < cs.size by omega]; done) | ((repeat rw [Array.getElem?_setIfInBounds_ne (by omega)]); exact h3) | (rw [Array.getElem?_setIfInBounds_ne (by omega), Array.getElem?_setIfInBounds_self_of_lt (by omega)]; rfl)
    · first | (simp [show off + 4 < cs.size by omega]; done) | ((repeat rw [Array.getElem?_setIfInBounds_ne (by omega)]); exact h4) | (rw [Array.getElem?_setIfInBounds_ne (by omega), Array.getElem?_setIfInBounds_self_of_lt (by omega)]; rfl)
    · first | (simp [show off + 5 < cs.size by omega]; done) | ((repeat rw [Array.getElem?_setIfInBounds_ne (by omega)]); exact h5) | (rw [Array.getElem?_setIfInBounds_ne (by omega), Array.getElem?_setIfInBounds_self_of_lt (by omega)]; rfl)
    · intro j j0 j1 j2 j3
      simp [Array.getElem?_setIfInBounds_ne, Ne.symm j0, Ne.symm j1, Ne.symm j2, Ne.symm j3]
    · have h := hB
      first | exact h | (rw [nums_set] at h; exact h) | (rw [nums_set, set_1x] at h; exact h)
  have HF := Lib.hid hfin
  clear hfin hT hB h0 h1 h2 h3 h4 h5 hok k0 k1 k2 hwent
  go_enter Try.func37, Try.ntmps37
  go_wp2
  go_end0
  first | exact HF.out | exact HF.out.drew | exact HF.out.drew.drew

set_option maxRecDepth 100000 in
set_option maxHeartbeats 1000000 in
theorem ref04_00 (tb off bb : Nat) (cs : Array Value) (kd : Int) (t : TS) (e : Int) (b : List Int) (w : World) (hT : Blk w tb 77 cs) (h0 : cs[off]? = some (.int .u8 kd)) (h1 : cs[off + 1]? = some (.int .i64 t.x)) (h2 : cs[off + 2]? = some (.int .i64 t.at_)) (h3 : cs[off + 3]? = some (.int .i64 t.saw)) (h4 : cs[off + 4]? = some (.bool t.over)) (h5 : cs[off + 5]? = some (.bool t.went)) (hB : Blk w bb 72 (nums .i64 (e :: b))) (hb : b.length = 16) (hok : t.Ok) (hkd : kd.tmod 3 = t.kind) (ho : t.over = false) (hk : t.kind = 0) (ha : t.at_ = 0) :
    Calls Try.prog 37 #[.pointer (some ⟨tb, off, none⟩), .pointer (some ⟨bb, 0, none⟩)] w (TaskPost04 tb off bb cs (t.step e b).1 (t.step e b).2.1 (t.step e b).2.2 w) := by
  have n1 : tb ≠ bb := hT.ne_ hB (by decide)
  have hsz : off + 5 < cs.size := (Array.getElem?_eq_some_iff.1 h5).1
  have c0 := hT.at_ h0
  have c1 := hT.at_ h1
  have c2 := hT.at_ h2
  have c3 := hT.at_ h3
  have c4 := hT.at_ h4
  have f2 := hT.free (off + 2)
  have f3 := hT.free (off + 3)
  have f4 := hT.free (off + 4)
  have f5 := hT.free (off + 5)
  have c5 := hT.at_ h5
  have d0 : w.cell? ⟨bb, 0, none⟩ = some (.int .i64 e) := hB.at_ rfl
  have g0 := hB.free 0
  obtain ⟨kind, x, a, saw, over, went⟩ := t
  have hx := hok.x
  have hkk := hok.kind
  have k0 := hok.k0
  have k1 := hok.k1
  have k2 := hok.k2
  have hwent := hok.went
  simp only at c1 c2 c3 c4 c5 h1 h2 h3 h4 h5 hx hkk k0 k1 k2 hkd hwent
  simp only at ho hk ha
  subst ho hk ha
  have hw := hwent rfl
  subst hw
  have hkd0 : kd.tmod 3 = 0 := hkd
  clear hkd
  have e1 : (TS.step ⟨0, x, 0, saw, false, false⟩ e b) = (⟨0, x, 1, e, false, false⟩, e, b) := by rfl
  rw [e1]
  clear e1
  have hfin : TaskPost04 tb off bb cs ⟨0, x, 1, e, false, false⟩ e b w (.returned (.tuple #[])) ((w.setCell ⟨tb, off + 2, none⟩ (.int .i64 1)).setCell ⟨tb, off + 3, none⟩ (.int .i64 e)) := by
    refine ⟨rfl, blk_tset ((hT.put (off + 2) (.int .i64 1)).put (off + 3) (.int .i64 e)) hsz ?_ ?_ ?_ ?_ ?_, ?_, (((Upd.refl _ _).put (.inl (by simp)) _).put (.inl (by simp)) _)⟩
    · first | (simp [show off + 2 < cs.size by omega]; done) | ((repeat rw [Array.getElem?_setIfInBounds_ne (by omega)]); exact h2) | (rw [Array.getElem?_setIfInBounds_ne (by omega), Array.getElem?_setIfInBounds_self_of_lt (by omega)]; rfl)
    · first | (simp [show off + 3 < cs.size by omega]; done) | ((repeat rw [Array.getElem?_setIfInBounds_ne (by omega)]); exact h3) | (rw [Array.getElem?_setIfInBounds_ne (by omega), Array.getElem?_setIfInBounds_self_of_lt (by omega)]; rfl)
    · first | (simp [show off + 4 < cs.size by omega]; done) | ((repeat rw [Array.getElem?_setIfInBounds_ne (by omega)]); exact h4) | (rw [Array.getElem?_setIfInBounds_ne (by omega), Array.getElem?_setIfInBounds_self_of_lt (by omega)]; rfl)
    · first | (simp [show off + 5 < cs.size by omega]; done) | ((repeat rw [Array.getElem?_setIfInBounds_ne (by omega)]); exact h5) | (rw [Array.getElem?_setIfInBounds_ne (by omega), Array.getElem?_setIfInBounds_self_of_lt (by omega)]; rfl)
    · intro j j0 j1 j2 j3
      simp [Array.getElem?_setIfInBounds_ne, Ne.symm j0, Ne.symm j1, Ne.symm j2, Ne.symm j3]
    · have h := ((hB.far (p := ⟨tb, off + 2, none⟩) (fun e => n1 e.symm) (.int .i64 1)).far (p := ⟨tb, off + 3, none⟩) (fun e => n1 e.symm) (.int .i64 e))
      first | exact h | (rw [nums_set] at h; exact h) | (rw [nums_set, set_1x] at h; exact h)
  have HF := Lib.hid hfin
  clear hfin hT hB h0 h1 h2 h3 h4 h5 hok k0 k1 k2 hwent
  go_enter Try.func37, Try.ntmps37
  go_wp2
  go_end0
  first | exact HF.out | exact HF.out.drew | exact HF.out.drew.drew

set_option maxRecDepth 100000 in
set_option maxHeartbeats 1000000 in
theorem ref04_01 (tb off bb : Nat) (cs : Array Value) (kd : Int) (t : TS) (e : Int) (b : List Int) (w : World) (hT : Blk w tb 77 cs) (h0 : cs[off]? = some (.int .u8 kd)) (h1 : cs[off + 1]? = some (.int .i64 t.x)) (h2 : cs[off + 2]? = some (.int .i64 t.at_)) (h3 : cs[off + 3]? = some (.int .i64 t.saw)) (h4 : cs[off + 4]? = some (.bool t.over)) (h5 : cs[off + 5]? = some (.bool t.went)) (hB : Blk w bb 72 (nums .i64 (e :: b))) (hb : b.length = 16) (hok : t.Ok) (hkd : kd.tmod 3 = t.kind) (ho : t.over = false) (hk : t.kind = 0) (ha : t.at_ = 1) :
    Calls Try.prog 37 #[.pointer (some ⟨tb, off, none⟩), .pointer (some ⟨bb, 0, none⟩)] w (TaskPost04 tb off bb cs (t.step e b).1 (t.step e b).2.1 (t.step e b).2.2 w) := by
  have n1 : tb ≠ bb := hT.ne_ hB (by decide)
  have hsz : off + 5 < cs.size := (Array.getElem?_eq_some_iff.1 h5).1
  have c0 := hT.at_ h0
  have c1 := hT.at_ h1
  have c2 := hT.at_ h2
  have c3 := hT.at_ h3
  have c4 := hT.at_ h4
  have f2 := hT.free (off + 2)
  have f3 := hT.free (off + 3)
  have f4 := hT.free (off + 4)
  have f5 := hT.free (off + 5)
  have c5 := hT.at_ h5
  have d0 : w.cell? ⟨bb, 0, none⟩ = some (.int .i64 e) := hB.at_ rfl
  have g0 := hB.free 0
  obtain ⟨kind, x, a, saw, over, went⟩ := t
  have hx := hok.x
  have hkk := hok.kind
  have k0 := hok.k0
  have k1 := hok.k1
  have k2 := hok.k2
  have hwent := hok.went
  simp only at c1 c2 c3 c4 c5 h1 h2 h3 h4 h5 hx hkk k0 k1 k2 hkd hwent
  simp only at ho hk ha
  subst ho hk ha
  have hw := hwent rfl
  subst hw
  have hkd0 : kd.tmod 3 = 0 := hkd
  clear hkd
  have e1 : (TS.step ⟨0, x, 1, saw, false, false⟩ e b) = (⟨0, x, 2, saw, true, false⟩, e, (b.set x (wrap64 (saw + 1)))) := by rfl
  rw [e1]
  clear e1
  have hfin : TaskPost04 tb off bb cs ⟨0, x, 2, saw, true, false⟩ e (b.set x (wrap64 (saw + 1))) w (.returned (.tuple #[])) (((w.setCell ⟨tb, off + 2, none⟩ (.int .i64 2)).setCell ⟨bb, 1 + x, none⟩ (.int .i64 (wrap64 (saw + 1)))).setCell ⟨tb, off + 4, none⟩ (.bool true)) := by
    refine ⟨rfl, blk_tset (((hT.put (off + 2) (.int .i64 2)).far (p := ⟨bb, 1 + x, none⟩) n1 (.int .i64 (wrap64 (saw + 1)))).put (off + 4) (.bool true)) hsz ?_ ?_ ?_ ?_ ?_, ?_, ((((Upd.refl _ _).put (.inl (by simp)) _).put (.inl (by simp)) _).put (.inl (by simp)) _)⟩
    · first | (simp [show off + 2 < cs.size by omega]; done) | ((repeat rw [Array.getElem?_setIfInBounds_ne (by omega)]); exact h2) | (rw [Array.getElem?_setIfInBounds_ne (by omega), Array.getElem?_setIfInBounds_self_of_lt (by omega)]; rfl)
    · first | (simp [show off + 3 < cs.size by omega]; done) | ((repeat rw [Array.getElem?_setIfInBounds_ne (by omega)]); exact h3) | (rw [Array.getElem?_setIfInBounds_ne (by omega), Array.getElem?_setIfInBounds_self_of_lt (by omega)]; rfl)
    · first | (simp [show off + 4 < cs.size by omega]; done) | ((repeat rw [Array.getElem?_setIfInBounds_ne (by omega)]); exact h4) | (rw [Array.getElem?_setIfInBounds_ne (by omega), Array.getElem?_setIfInBounds_self_of_lt (by omega)]; rfl)
    · first | (simp [show off + 5 < cs.size by omega]; done) | ((repeat rw [Array.getElem?_setIfInBounds_ne (by omega)]); exact h5) | (rw [Array.getElem?_setIfInBounds_ne (by omega), Array.getElem?_setIfInBounds_self_of_lt (by omega)]; rfl)
    · intro j j0 j1 j2 j3
      simp [Array.getElem?_setIfInBounds_ne, Ne.symm j0, Ne.symm j1, Ne.symm j2, Ne.symm j3]
    · have h := (((hB.far (p := ⟨tb, off + 2, none⟩) (fun e => n1 e.symm) (.int .i64 2)).put (1 + x) (.int .i64 (wrap64 (saw + 1)))).far (p := ⟨tb, off + 4, none⟩) (fun e => n1 e.symm) (.bool true))
      first | exact h | (rw [nums_set] at h; exact h) | (rw [nums_set, set_1x] at h; exact h)
  have HF := Lib.hid hfin
  have HT1 := Lib.hid (hT.put (off + 2) (.int .i64 2))
  have HB1 := Lib.hid (hB.far (p := ⟨tb, off + 2, none⟩) (fun e => n1 e.symm) (.int .i64 2))
  have H1 := Lib.hid h1
  have H3 := Lib.hid h3
  have H4 := Lib.hid h4
  have hxi : (x : Int) < 16 := by omega
  have hxi0 : (0 : Int) ≤ x := by omega
  clear c5
  clear hfin hT hB h0 h1 h2 h3 h4 h5 hok k0 k1 k2 hwent
  go_enter Try.func37, Try.ntmps37
  go_upto_region 14 with fail
  clear c0 c1 c2 c3 c4 d0 g0 f2 f3 f4 f5
  generalize w.setCell ⟨tb, off + 2, none⟩ (.int .i64 2) = w1 at *
  have q1 : w1.cell? ⟨tb, off + 1, none⟩ = some (.int .i64 x) := HT1.out.at_ (by rw [Array.getElem?_setIfInBounds_ne (by omega)]; exact H1.out)
  have q3 : w1.cell? ⟨tb, off + 3, none⟩ = some (.int .i64 saw) := HT1.out.at_ (by rw [Array.getElem?_setIfInBounds_ne (by omega)]; exact H3.out)
  have q4 : w1.cell? ⟨tb, off + 4, none⟩ = some (.bool false) := HT1.out.at_ (by rw [Array.getElem?_setIfInBounds_ne (by omega)]; exact H4.out)
  have qf := HT1.out.free (off + 4)
  have dx : w1.cell? ⟨bb, 1 + x, none⟩ = some (.int .i64 (b.getD x 0)) := HB1.out.at_ (by rw [Nat.add_comm]; exact nums_get _ (e :: b) _ (by simp; omega))
  have gx := HB1.out.free (1 + x)
  go_still_tail 13, (by kernel_rfl)
  change wpList _ _ _ _ _ w1.drew
  go_wp2
  go_end0
  first | exact HF.out | exact HF.out.drew | exact HF.out.drew.drew

set_option maxRecDepth 100000 in
set_option maxHeartbeats 1000000 in
theorem ref04_1 (tb off bb : Nat) (cs : Array Value) (kd : Int) (t : TS) (e : Int) (b : List Int) (w : World) (hT : Blk w tb 77 cs) (h0 : cs[off]? = some (.int .u8 kd)) (h1 : cs[off + 1]? = some (.int .i64 t.x)) (h2 : cs[off + 2]? = some (.int .i64 t.at_)) (h3 : cs[off + 3]? = some (.int .i64 t.saw)) (h4 : cs[off + 4]? = some (.bool t.over)) (h5 : cs[off + 5]? = some (.bool t.went)) (hB : Blk w bb 72 (nums .i64 (e :: b))) (hb : b.length = 16) (hok : t.Ok) (hkd : kd.tmod 3 = t.kind) (ho : t.over = false) (hk : t.kind = 1) (ha : t.at_ = 0) :
    Calls Try.prog 37 #[.pointer (some ⟨tb, off, none⟩), .pointer (some ⟨bb, 0, none⟩)] w (TaskPost04 tb off bb cs (t.step e b).1 (t.step e b).2.1 (t.step e b).2.2 w) := by
  have n1 : tb ≠ bb := hT.ne_ hB (by decide)
  have hsz : off + 5 < cs.size := (Array.getElem?_eq_some_iff.1 h5).1
  have c0 := hT.at_ h0
  have c1 := hT.at_ h1
  have c2 := hT.at_ h2
  have c3 := hT.at_ h3
  have c4 := hT.at_ h4
  have f2 := hT.free (off + 2)
  have f3 := hT.free (off + 3)
  have f4 := hT.free (off + 4)
  have f5 := hT.free (off + 5)
  have c5 := hT.at_ h5
  have d0 : w.cell? ⟨bb, 0, none⟩ = some (.int .i64 e) := hB.at_ rfl
  have g0 := hB.free 0
  obtain ⟨kind, x, a, saw, over, went⟩ := t
  have hx := hok.x
  have hkk := hok.kind
  have k0 := hok.k0
  have k1 := hok.k1
  have k2 := hok.k2
  have hwent := hok.went
  simp only at c1 c2 c3 c4 c5 h1 h2 h3 h4 h5 hx hkk k0 k1 k2 hkd hwent
  simp only at ho hk ha
  subst ho hk ha
  have hw := hwent rfl
  subst hw
  have hkd0 : kd.tmod 3 = 1 := hkd
  clear hkd
  have e1 : (TS.step ⟨1, x, 0, saw, false, false⟩ e b) = (⟨1, x, 1, saw, true, false⟩, e, (b.set x 0)) := by rfl
  rw [e1]
  clear e1
  have hfin : TaskPost04 tb off bb cs ⟨1, x, 1, saw, true, false⟩ e (b.set x 0) w (.returned (.tuple #[])) (((w.setCell ⟨tb, off + 2, none⟩ (.int .i64 1)).setCell ⟨bb, 1 + x, none⟩ (.int .i64 0)).setCell ⟨tb, off + 4, none⟩ (.bool true)) := by
    refine ⟨rfl, blk_tset (((hT.put (off + 2) (.int .i64 1)).far (p := ⟨bb, 1 + x, none⟩) n1 (.int .i64 0)).put (off + 4) (.bool true)) hsz ?_ ?_ ?_ ?_ ?_, ?_, ((((Upd.refl _ _).put (.inl (by simp)) _).put (.inl (by simp)) _).put (.inl (by simp)) _)⟩
    · first | (simp [show off + 2 < cs.size by omega]; done) | ((repeat rw [Array.getElem?_setIfInBounds_ne (by omega)]); exact h2) | (rw [Array.getElem?_setIfInBounds_ne (by omega), Array.getElem?_setIfInBounds_self_of_lt (by omega)]; rfl)
    · first | (simp [show off + 3 < cs.size by omega]; done) | ((repeat rw [Array.getElem?_setIfInBounds_ne (by omega)]); exact h3) | (rw [Array.getElem?_setIfInBounds_ne (by omega), Array.getElem?_setIfInBounds_self_of_lt (by omega)]; rfl)
    · first | (simp [show off + 4 < cs.size by omega]; done) | ((repeat rw [Array.getElem?_setIfInBounds_ne (by omega)]); exact h4) | (rw [Array.getElem?_setIfInBounds_ne (by omega), Array.getElem?_setIfInBounds_self_of_lt (by omega)]; rfl)
    · first | (simp [show off + 5 < cs.size by omega]; done) | ((repeat rw [Array.getElem?_setIfInBounds_ne (by omega)]); exact h5) | (rw [Array.getElem?_setIfInBounds_ne (by omega), Array.getElem?_setIfInBounds_self_of_lt (by omega)]; rfl)
    · intro j j0 j1 j2 j3
      simp [Array.getElem?_setIfInBounds_ne, Ne.symm j0, Ne.symm j1, Ne.symm j2, Ne.symm j3]
    · have h := (((hB.far (p := ⟨tb, off + 2, none⟩) (fun e => n1 e.symm) (.int .i64 1)).put (1 + x) (.int .i64 0)).far (p := ⟨tb, off + 4, none⟩) (fun e => n1 e.symm) (.bool true))
      first | exact h | (rw [nums_set] at h; exact h) | (rw [nums_set, set_1x] at h; exact h)
  have HF := Lib.hid hfin
  have HT1 := Lib.hid (hT.put (off + 2) (.int .i64 1))
  have HB1 := Lib.hid (hB.far (p := ⟨tb, off + 2, none⟩) (fun e => n1 e.symm) (.int .i64 1))
  have H1 := Lib.hid h1
  have H3 := Lib.hid h3
  have H4 := Lib.hid h4
  have hxi : (x : Int) < 16 := by omega
  have hxi0 : (0 : Int) ≤ x := by omega
  clear c5
  clear hfin hT hB h0 h1 h2 h3 h4 h5 hok k0 k1 k2 hwent
  go_enter Try.func37, Try.ntmps37
  go_upto_region 17 with fail
  clear c0 c1 c2 c3 c4 d0 g0 f2 f3 f4 f5
  generalize w.setCell ⟨tb, off + 2, none⟩ (.int .i64 1) = w1 at *
  have q1 : w1.cell? ⟨tb, off + 1, none⟩ = some (.int .i64 x) := HT1.out.at_ (by rw [Array.getElem?_setIfInBounds_ne (by omega)]; exact H1.out)
  have q3 : w1.cell? ⟨tb, off + 3, none⟩ = some (.int .i64 saw) := HT1.out.at_ (by rw [Array.getElem?_setIfInBounds_ne (by omega)]; exact H3.out)
  have q4 : w1.cell? ⟨tb, off + 4, none⟩ = some (.bool false) := HT1.out.at_ (by rw [Array.getElem?_setIfInBounds_ne (by omega)]; exact H4.out)
  have qf := HT1.out.free (off + 4)
  have dx : w1.cell? ⟨bb, 1 + x, none⟩ = some (.int .i64 (b.getD x 0)) := HB1.out.at_ (by rw [Nat.add_comm]; exact nums_get _ (e :: b) _ (by simp; omega))
  have gx := HB1.out.free (1 + x)
  go_still_tail 8, (by kernel_rfl)
  change wpList _ _ _ _ _ w1.drew
  go_wp2
  go_end0
  first | exact HF.out | exact HF.out.drew | exact HF.out.drew.drew

set_option maxRecDepth 100000 in
set_option maxHeartbeats 1000000 in
theorem ref04_20 (tb off bb : Nat) (cs : Array Value) (kd : Int) (t : TS) (e : Int) (b : List Int) (w : World) (hT : Blk w tb 77 cs) (h0 : cs[off]? = some (.int .u8 kd)) (h1 : cs[off + 1]? = some (.int .i64 t.x)) (h2 : cs[off + 2]? = some (.int .i64 t.at_)) (h3 : cs[off + 3]? = some (.int .i64 t.saw)) (h4 : cs[off + 4]? = some (.bool t.over)) (h5 : cs[off + 5]? = some (.bool t.went)) (hB : Blk w bb 72 (nums .i64 (e :: b))) (hb : b.length = 16) (hok : t.Ok) (hkd : kd.tmod 3 = t.kind) (ho : t.over = false) (hk : t.kind = 2) (ha : t.at_ = 0) :
    Calls Try.prog 37 #[.pointer (some ⟨tb, off, none⟩), .pointer (some ⟨bb, 0, none⟩)] w (TaskPost04 tb off bb cs (t.step e b).1 (t.step e b).2.1 (t.step e b).2.2 w) := by
  have n1 : tb ≠ bb := hT.ne_ hB (by decide)
  have hsz : off + 5 < cs.size := (Array.getElem?_eq_some_iff.1 h5).1
  have c0 := hT.at_ h0
  have c1 := hT.at_ h1
  have c2 := hT.at_ h2
  have c3 := hT.at_ h3
  have c4 := hT.at_ h4
  have f2 := hT.free (off + 2)
  have f3 := hT.free (off + 3)
  have f4 := hT.free (off + 4)
  have f5 := hT.free (off + 5)
  have c5 := hT.at_ h5
  have d0 : w.cell? ⟨bb, 0, none⟩ = some (.int .i64 e) := hB.at_ rfl
  have g0 := hB.free 0
  obtain ⟨kind, x, a, saw, over, went⟩ := t
  have hx := hok.x
  have hkk := hok.kind
  have k0 := hok.k0
  have k1 := hok.k1
  have k2 := hok.k2
  have hwent := hok.went
  simp only at c1 c2 c3 c4 c5 h1 h2 h3 h4 h5 hx hkk k0 k1 k2 hkd hwent
  simp only at ho hk ha
  subst ho hk ha
  have hw := hwent rfl
  subst hw
  have hkd0 : kd.tmod 3 = 2 := hkd
  clear hkd
  have e1 : (TS.step ⟨2, x, 0, saw, false, false⟩ e b) = (⟨2, x, 1, e, false, false⟩, e, b) := by rfl
  rw [e1]
  clear e1
  have hfin : TaskPost04 tb off bb cs ⟨2, x, 1, e, false, false⟩ e b w (.returned (.tuple #[])) ((w.setCell ⟨tb, off + 2, none⟩ (.int .i64 1)).setCell ⟨tb, off + 3, none⟩ (.int .i64 e)) := by
    refine ⟨rfl, blk_tset ((hT.put (off + 2) (.int .i64 1)).put (off + 3) (.int .i64 e)) hsz ?_ ?_ ?_ ?_ ?_, ?_, (((Upd.refl _ _).put (.inl (by simp)) _).put (.inl (by simp)) _)⟩
    · first | (simp [show off + 2 < cs.size by omega]; done) | ((repeat rw [Array.getElem?_setIfInBounds_ne (by omega)]); exact h2) | (rw [Array.getElem?_setIfInBounds_ne (by omega), Array.getElem?_setIfInBounds_self_of_lt (by omega)]; rfl)
    · first | (simp [show off + 3 < cs.size by omega]; done) | ((repeat rw [Array.getElem?_setIfInBounds_ne (by omega)]); exact h3) | (rw [Array.getElem?_setIfInBounds_ne (by omega), Array.getElem?_setIfInBounds_self_of_lt (by omega)]; rfl)
    · first | (simp [show off + 4 < cs.size by omega]; done) | ((repeat rw [Array.getElem?_setIfInBounds_ne (by omega)]); exact h4) | (rw [Array.getElem?_setIfInBounds_ne (by omega), Array.getElem?_setIfInBounds_self_of_lt (by omega)]; rfl)
    · first | (simp [show off + 5 < cs.size by omega]; done) | ((repeat rw [Array.getElem?_setIfInBounds_ne (by omega)]); exact h5) | (rw [Array.getElem?_setIfInBounds_ne (by omega), Array.getElem?_setIfInBounds_self_of_lt (by omega)]; rfl)
    · intro j j0 j1 j2 j3
      simp [Array.getElem?_setIfInBounds_ne, Ne.symm j0, Ne.symm j1, Ne.symm j2, Ne.symm j3]
    · have h := ((hB.far (p := ⟨tb, off + 2, none⟩) (fun e => n1 e.symm) (.int .i64 1)).far (p := ⟨tb, off + 3, none⟩) (fun e => n1 e.symm) (.int .i64 e))
      first | exact h | (rw [nums_set] at h; exact h) | (rw [nums_set, set_1x] at h; exact h)
  have HF := Lib.hid hfin
  clear hfin hT hB h0 h1 h2 h3 h4 h5 hok k0 k1 k2 hwent
  go_enter Try.func37, Try.ntmps37
  go_wp2
  go_end0
  first | exact HF.out | exact HF.out.drew | exact HF.out.drew.drew

set_option maxRecDepth 100000 in
set_option maxHeartbeats 1000000 in
theorem ref04_217 (tb off bb : Nat) (cs : Array Value) (kd : Int) (t : TS) (e : Int) (b : List Int) (w : World) (hT : Blk w tb 77 cs) (h0 : cs[off]? = some (.int .u8 kd)) (h1 : cs[off + 1]? = some (.int .i64 t.x)) (h2 : cs[off + 2]? = some (.int .i64 t.at_)) (h3 : cs[off + 3]? = some (.int .i64 t.saw)) (h4 : cs[off + 4]? = some (.bool t.over)) (h5 : cs[off + 5]? = some (.bool t.went)) (hB : Blk w bb 72 (nums .i64 (e :: b))) (hb : b.length = 16) (hok : t.Ok) (hkd : kd.tmod 3 = t.kind) (ho : t.over = false) (hk : t.kind = 2) (ha : t.at_ = 17) :
    Calls Try.prog 37 #[.pointer (some ⟨tb, off, none⟩), .pointer (some ⟨bb, 0, none⟩)] w (TaskPost04 tb off bb cs (t.step e b).1 (t.step e b).2.1 (t.step e b).2.2 w) := by
  have n1 : tb ≠ bb := hT.ne_ hB (by decide)
  have hsz : off + 5 < cs.size := (Array.getElem?_eq_some_iff.1 h5).1
  have c0 := hT.at_ h0
  have c1 := hT.at_ h1
  have c2 := hT.at_ h2
  have c3 := hT.at_ h3
  have c4 := hT.at_ h4
  have f2 := hT.free (off + 2)
  have f3 := hT.free (off + 3)
  have f4 := hT.free (off + 4)
  have f5 := hT.free (off + 5)
  have c5 := hT.at_ h5
  have d0 : w.cell? ⟨bb, 0, none⟩ = some (.int .i64 e) := hB.at_ rfl
  have g0 := hB.free 0
  obtain ⟨kind, x, a, saw, over, went⟩ := t
  have hx := hok.x
  have hkk := hok.kind
  have k0 := hok.k0
  have k1 := hok.k1
  have k2 := hok.k2
  have hwent := hok.went
  simp only at c1 c2 c3 c4 c5 h1 h2 h3 h4 h5 hx hkk k0 k1 k2 hkd hwent
  simp only at ho hk ha
  subst ho hk ha
  have hw := hwent rfl
  subst hw
  have hkd0 : kd.tmod 3 = 2 := hkd
  clear hkd
  have e1 : (TS.step ⟨2, x, 17, saw, false, false⟩ e b) = (⟨2, x, 18, saw, true, true⟩, (wrap64 (saw + 1)), b) := by rfl
  rw [e1]
  clear e1
  have hfin : TaskPost04 tb off bb cs ⟨2, x, 18, saw, true, true⟩ (wrap64 (saw + 1)) b w (.returned (.tuple #[])) ((((w.setCell ⟨tb, off + 2, none⟩ (.int .i64 18)).setCell ⟨bb, 0, none⟩ (.int .i64 (wrap64 (saw + 1)))).setCell ⟨tb, off + 4, none⟩ (.bool true)).setCell ⟨tb, off + 5, none⟩ (.bool true)) := by
    refine ⟨rfl, blk_tset ((((hT.put (off + 2) (.int .i64 18)).far (p := ⟨bb, 0, none⟩) n1 (.int .i64 (wrap64 (saw + 1)))).put (off + 4) (.bool true)).put (off + 5) (.bool true)) hsz ?_ ?_ ?_ ?_ ?_, ?_, (((((Upd.refl _ _).put (.inl (by simp)) _).put (.inl (by simp)) _).put (.inl (by simp)) _).put (.inl (by simp)) _)⟩
    · first | (simp [show off + 2 < cs.size by omega]; done) | ((repeat rw [Array.getElem?_setIfInBounds_ne (by omega)]); exact h2) | (rw [Array.getElem?_setIfInBounds_ne (by omega), Array.getElem?_setIfInBounds_self_of_lt (by omega)]; rfl)
    · first | (simp [show off + 3 < cs.size by omega]; done) | ((repeat rw [Array.getElem?_setIfInBounds_ne (by omega)]); exact h3) | (rw [Array.getElem?_setIfInBounds_ne (by omega), Array.getElem?_setIfInBounds_self_of_lt (by omega)]; rfl)
    · first | (simp [show off + 4 < cs.size by omega]; done) | ((repeat rw [Array.getElem?_setIfInBounds_ne (by omega)]); exact h4) | (rw [Array.getElem?_setIfInBounds_ne (by omega), Array.getElem?_setIfInBounds_self_of_lt (by omega)]; rfl)
    · first | (simp [show off + 5 < cs.size by omega]; done) | ((repeat rw [Array.getElem?_setIfInBounds_ne (by omega)]); exact h5) | (rw [Array.getElem?_setIfInBounds_ne (by omega), Array.getElem?_setIfInBounds_self_of_lt (by omega)]; rfl)
    · intro j j0 j1 j2 j3
      simp [Array.getElem?_setIfInBounds_ne, Ne.symm j0, Ne.symm j1, Ne.symm j2, Ne.symm j3]
    · have h := ((((hB.far (p := ⟨tb, off + 2, none⟩) (fun e => n1 e.symm) (.int .i64 18)).put (0) (.int .i64 (wrap64 (saw + 1)))).far (p := ⟨tb, off + 4, none⟩) (fun e => n1 e.symm) (.bool true)).far (p := ⟨tb, off + 5, none⟩) (fun e => n1 e.symm) (.bool true))
      first | exact h | (rw [nums_set] at h; exact h) | (rw [nums_set, set_1x] at h; exact h)
  have HF := Lib.hid hfin
  clear hfin hT hB h0 h1 h2 h3 h4 h5 hok k0 k1 k2 hwent
  go_enter Try.func37, Try.ntmps37
  go_upto_region 8 with fail
  go_wp2
  go_end0
  first | exact HF.out | exact HF.out.drew | exact HF.out.drew.drew

set_option maxRecDepth 100000 in
set_option maxHeartbeats 1000000 in
theorem ref04_2z (tb off bb : Nat) (cs : Array Value) (kd : Int) (t : TS) (e : Int) (b : List Int) (w : World) (hT : Blk w tb 77 cs) (h0 : cs[off]? = some (.int .u8 kd)) (h1 : cs[off + 1]? = some (.int .i64 t.x)) (h2 : cs[off + 2]? = some (.int .i64 t.at_)) (h3 : cs[off + 3]? = some (.int .i64 t.saw)) (h4 : cs[off + 4]? = some (.bool t.over)) (h5 : cs[off + 5]? = some (.bool t.went)) (hB : Blk w bb 72 (nums .i64 (e :: b))) (hb : b.length = 16) (hok : t.Ok) (hkd : kd.tmod 3 = t.kind) (j : Nat) (hj : j ≤ 15) (ho : t.over = false) (hk : t.kind = 2) (ha : t.at_ = j + 1) (hv : b.getD j 0 = 0) :
    Calls Try.prog 37 #[.pointer (some ⟨tb, off, none⟩), .pointer (some ⟨bb, 0, none⟩)] w (TaskPost04 tb off bb cs (t.step e b).1 (t.step e b).2.1 (t.step e b).2.2 w) := by
  have n1 : tb ≠ bb := hT.ne_ hB (by decide)
  have hsz : off + 5 < cs.size := (Array.getElem?_eq_some_iff.1 h5).1
  have c0 := hT.at_ h0
  have c1 := hT.at_ h1
  have c2 := hT.at_ h2
  have c3 := hT.at_ h3
  have c4 := hT.at_ h4
  have f2 := hT.free (off + 2)
  have f3 := hT.free (off + 3)
  have f4 := hT.free (off + 4)
  have f5 := hT.free (off + 5)
  have c5 := hT.at_ h5
  have d0 : w.cell? ⟨bb, 0, none⟩ = some (.int .i64 e) := hB.at_ rfl
  have g0 := hB.free 0
  obtain ⟨kind, x, a, saw, over, went⟩ := t
  have hx := hok.x
  have hkk := hok.kind
  have k0 := hok.k0
  have k1 := hok.k1
  have k2 := hok.k2
  have hwent := hok.went
  simp only at c1 c2 c3 c4 c5 h1 h2 h3 h4 h5 hx hkk k0 k1 k2 hkd hwent
  simp only at ho hk ha
  subst ho hk ha
  have hw := hwent rfl
  subst hw
  have hkd0 : kd.tmod 3 = 2 := hkd
  clear hkd
  try simp only at hv
  have e1 : (TS.step ⟨2, x, j + 1, saw, false, false⟩ e b) = (⟨2, x, j + 2, saw, false, false⟩, e, b) := by unfold TS.step; simp only [Bool.false_eq_true, if_false, Nat.add_one_ne_zero, show ¬ (2 : Nat) = 0 by decide, show ¬ (2 : Nat) = 1 by decide, show j + 1 ≤ 16 by omega, if_true, Nat.add_sub_cancel]; rw [show (b.getD j 0 != 0 && b.getD j 0 != wrap64 (saw + 1)) = false by rw [hv]; rfl]
  rw [e1]
  clear e1
  have hfin : TaskPost04 tb off bb cs ⟨2, x, j + 2, saw, false, false⟩ e b w (.returned (.tuple #[])) ((w.setCell ⟨tb, off + 2, none⟩ (.int .i64 ((j : Int) + 1 + 1))).setCell ⟨tb, off + 4, none⟩ (.bool false)) := by
    refine ⟨rfl, blk_tset ((hT.put (off + 2) (.int .i64 ((j : Int) + 1 + 1))).put (off + 4) (.bool false)) hsz ?_ ?_ ?_ ?_ ?_, ?_, (((Upd.refl _ _).put (.inl (by simp)) _).put (.inl (by simp)) _)⟩
    · first | (simp [show off + 2 < cs.size by omega]; done) | ((repeat rw [Array.getElem?_setIfInBounds_ne (by omega)]); exact h2) | (rw [Array.getElem?_setIfInBounds_ne (by omega), Array.getElem?_setIfInBounds_self_of_lt (by omega)]; rfl)
    · first | (simp [show off + 3 < cs.size by omega]; done) | ((repeat rw [Array.getElem?_setIfInBounds_ne (by omega)]); exact h3) | (rw [Array.getElem?_setIfInBounds_ne (by omega), Array.getElem?_setIfInBounds_self_of_lt (by omega)]; rfl)
    · first | (simp [show off + 4 < cs.size by omega]; done) | ((repeat rw [Array.getElem?_setIfInBounds_ne (by omega)]); exact h4) | (rw [Array.getElem?_setIfInBounds_ne (by omega), Array.getElem?_setIfInBounds_self_of_lt (by omega)]; rfl)
    · first | (simp [show off + 5 < cs.size by omega]; done) | ((repeat rw [Array.getElem?_setIfInBounds_ne (by omega)]); exact h5) | (rw [Array.getElem?_setIfInBounds_ne (by omega), Array.getElem?_setIfInBounds_self_of_lt (by omega)]; rfl)
    · intro j j0 j1 j2 j3
      simp [Array.getElem?_setIfInBounds_ne, Ne.symm j0, Ne.symm j1, Ne.symm j2, Ne.symm j3]
    · have h := ((hB.far (p := ⟨tb, off + 2, none⟩) (fun e => n1 e.symm) (.int .i64 ((j : Int) + 1 + 1))).far (p := ⟨tb, off + 4, none⟩) (fun e => n1 e.symm) (.bool false))
      first | exact h | (rw [nums_set] at h; exact h) | (rw [nums_set, set_1x] at h; exact h)
  have HF := Lib.hid hfin
  have HT1 := Lib.hid (hT.put (off + 2) (.int .i64 ((j : Int) + 1 + 1)))
  have HB1 := Lib.hid (hB.far (p := ⟨tb, off + 2, none⟩) (fun e => n1 e.symm) (.int .i64 ((j : Int) + 1 + 1)))
  have H0 := Lib.hid h0
  have H3 := Lib.hid h3
  have H4 := Lib.hid h4
  have hj1 : (j : Int) < 16 := by omega
  have hj0 : (0 : Int) ≤ j := by omega
  have hj2 : (j : Int) + 1 + 1 ≤ 17 := by omega
  have hne1 : ((j : Int) + 1 + 1 == 1) = false := beq_eq_false_iff_ne.2 (by omega)
  have hcj : ((j + 1 : Nat) : Int) = (j : Int) + 1 := rfl
  rw [hcj] at c2
  clear hcj c5
  have HV := Lib.hid hv
  have HDX := Lib.hid (show (nums .i64 (e :: b))[1 + j]? = some (.int .i64 0) by rw [Nat.add_comm, nums_get _ (e :: b) _ (by simp; omega), show (e :: b).getD (j + 1) 0 = b.getD j 0 by rfl, hv])
  clear hv
  clear hfin hT hB h0 h1 h2 h3 h4 h5 hok k0 k1 k2 hwent
  go_enter Try.func37, Try.ntmps37
  go_upto_region 2 with fail
  clear c0 c1 c2 c3 c4 d0 g0 f2 f3 f4 f5
  generalize w.setCell ⟨tb, off + 2, none⟩ (.int .i64 ((j : Int) + 1 + 1)) = w1 at *
  have q0 : w1.cell? ⟨tb, off, none⟩ = some (.int .u8 kd) := HT1.out.at_ (by rw [Array.getElem?_setIfInBounds_ne (by omega)]; exact H0.out)
  have q2 : w1.cell? ⟨tb, off + 2, none⟩ = some (.int .i64 ((j : Int) + 1 + 1)) := HT1.out.at_ (by rw [Array.getElem?_setIfInBounds_self_of_lt (by omega)])
  have q3 : w1.cell? ⟨tb, off + 3, none⟩ = some (.int .i64 saw) := HT1.out.at_ (by rw [Array.getElem?_setIfInBounds_ne (by omega)]; exact H3.out)
  have q4 : w1.cell? ⟨tb, off + 4, none⟩ = some (.bool false) := HT1.out.at_ (by rw [Array.getElem?_setIfInBounds_ne (by omega)]; exact H4.out)
  have qf := HT1.out.free (off + 4)
  have dx : w1.cell? ⟨bb, 1 + j, none⟩ = some (.int .i64 0) := HB1.out.at_ HDX.out
  go_upto_region 6 with fail
  have e2 : IntKind.i64.wrap ((j : Int) + 1 + 1 - 2) = (j : Int) := by rw [show (j : Int) + 1 + 1 - 2 = j by omega]; exact IntWalk.i64_in _ (by omega)
  go_still_tail 10, (by kernel_rfl)
  change wpList _ _ _ _ _ w1.drew
  clear e2
  go_wp2
  go_end0
  first | exact HF.out | exact HF.out.drew | exact HF.out.drew.drew

set_option maxRecDepth 100000 in
set_option maxHeartbeats 1000000 in
theorem ref04_2s (tb off bb : Nat) (cs : Array Value) (kd : Int) (t : TS) (e : Int) (b : List Int) (w : World) (hT : Blk w tb 77 cs) (h0 : cs[off]? = some (.int .u8 kd)) (h1 : cs[off + 1]? = some (.int .i64 t.x)) (h2 : cs[off + 2]? = some (.int .i64 t.at_)) (h3 : cs[off + 3]? = some (.int .i64 t.saw)) (h4 : cs[off + 4]? = some (.bool t.over)) (h5 : cs[off + 5]? = some (.bool t.went)) (hB : Blk w bb 72 (nums .i64 (e :: b))) (hb : b.length = 16) (hok : t.Ok) (hkd : kd.tmod 3 = t.kind) (j : Nat) (hj : j ≤ 15) (ho : t.over = false) (hk : t.kind = 2) (ha : t.at_ = j + 1) (hv : b.getD j 0 = wrap64 (t.saw + 1)) (hv0 : wrap64 (t.saw + 1) ≠ 0) :
    Calls Try.prog 37 #[.pointer (some ⟨tb, off, none⟩), .pointer (some ⟨bb, 0, none⟩)] w (TaskPost04 tb off bb cs (t.step e b).1 (t.step e b).2.1 (t.step e b).2.2 w) := by
  have n1 : tb ≠ bb := hT.ne_ hB (by decide)
  have hsz : off + 5 < cs.size := (Array.getElem?_eq_some_iff.1 h5).1
  have c0 := hT.at_ h0
  have c1 := hT.at_ h1
  have c2 := hT.at_ h2
  have c3 := hT.at_ h3
  have c4 := hT.at_ h4
  have f2 := hT.free (off + 2)
  have f3 := hT.free (off + 3)
  have f4 := hT.free (off + 4)
  have f5 := hT.free (off + 5)
  have c5 := hT.at_ h5
  have d0 : w.cell? ⟨bb, 0, none⟩ = some (.int .i64 e) := hB.at_ rfl
  have g0 := hB.free 0
  obtain ⟨kind, x, a, saw, over, went⟩ := t
  have hx := hok.x
  have hkk := hok.kind
  have k0 := hok.k0
  have k1 := hok.k1
  have k2 := hok.k2
  have hwent := hok.went
  simp only at c1 c2 c3 c4 c5 h1 h2 h3 h4 h5 hx hkk k0 k1 k2 hkd hwent
  simp only at ho hk ha
  subst ho hk ha
  have hw := hwent rfl
  subst hw
  have hkd0 : kd.tmod 3 = 2 := hkd
  clear hkd
  try simp only at hv
  have e1 : (TS.step ⟨2, x, j + 1, saw, false, false⟩ e b) = (⟨2, x, j + 2, saw, false, false⟩, e, b) := by unfold TS.step; simp only [Bool.false_eq_true, if_false, Nat.add_one_ne_zero, show ¬ (2 : Nat) = 0 by decide, show ¬ (2 : Nat) = 1 by decide, show j + 1 ≤ 16 by omega, if_true, Nat.add_sub_cancel]; rw [show (b.getD j 0 != 0 && b.getD j 0 != wrap64 (saw + 1)) = false by rw [hv]; simp]
  rw [e1]
  clear e1
  have hfin : TaskPost04 tb off bb cs ⟨2, x, j + 2, saw, false, false⟩ e b w (.returned (.tuple #[])) ((w.setCell ⟨tb, off + 2, none⟩ (.int .i64 ((j : Int) + 1 + 1))).setCell ⟨tb, off + 4, none⟩ (.bool false)) := by
    refine ⟨rfl, blk_tset ((hT.put (off + 2) (.int .i64 ((j : Int) + 1 + 1))).put (off + 4) (.bool false)) hsz ?_ ?_ ?_ ?_ ?_, ?_, (((Upd.refl _ _).put (.inl (by simp)) _).put (.inl (by simp)) _)⟩
    · first | (simp [show off + 2 < cs.size by omega]; done) | ((repeat rw [Array.getElem?_setIfInBounds_ne (by omega)]); exact h2) | (rw [Array.getElem?_setIfInBounds_ne (by omega), Array.getElem?_setIfInBounds_self_of_lt (by omega)]; rfl)
    · first | (simp [show off + 3 < cs.size by omega]; done) | ((repeat rw [Array.getElem?_setIfInBounds_ne (by omega)]); exact h3) | (rw [Array.getElem?_setIfInBounds_ne (by omega), Array.getElem?_setIfInBounds_self_of_lt (by omega)]; rfl)
    · first | (simp [show off + 4 < cs.size by omega]; done) | ((repeat rw [Array.getElem?_setIfInBounds_ne (by omega)]); exact h4) | (rw [Array.getElem?_setIfInBounds_ne (by omega), Array.getElem?_setIfInBounds_self_of_lt (by omega)]; rfl)
    · first | (simp [show off + 5 < cs.size by omega]; done) | ((repeat rw [Array.getElem?_setIfInBounds_ne (by omega)]); exact h5) | (rw [Array.getElem?_setIfInBounds_ne (by omega), Array.getElem?_setIfInBounds_self_of_lt (by omega)]; rfl)
    · intro j j0 j1 j2 j3
      simp [Array.getElem?_setIfInBounds_ne, Ne.symm j0, Ne.symm j1, Ne.symm j2, Ne.symm j3]
    · have h := ((hB.far (p := ⟨tb, off + 2, none⟩) (fun e => n1 e.symm) (.int .i64 ((j : Int) + 1 + 1))).far (p := ⟨tb, off + 4, none⟩) (fun e => n1 e.symm) (.bool false))
      first | exact h | (rw [nums_set] at h; exact h) | (rw [nums_set, set_1x] at h; exact h)
  have HF := Lib.hid hfin
  have HT1 := Lib.hid (hT.put (off + 2) (.int .i64 ((j : Int) + 1 + 1)))
  have HB1 := Lib.hid (hB.far (p := ⟨tb, off + 2, none⟩) (fun e => n1 e.symm) (.int .i64 ((j : Int) + 1 + 1)))
  have H0 := Lib.hid h0
  have H3 := Lib.hid h3
  have H4 := Lib.hid h4
  have hj1 : (j : Int) < 16 := by omega
  have hj0 : (0 : Int) ≤ j := by omega
  have hj2 : (j : Int) + 1 + 1 ≤ 17 := by omega
  have hne1 : ((j : Int) + 1 + 1 == 1) = false := beq_eq_false_iff_ne.2 (by omega)
  have hcj : ((j + 1 : Nat) : Int) = (j : Int) + 1 := rfl
  rw [hcj] at c2
  clear hcj c5
  have hv1 : (wrap64 (saw + 1) == 0) = false := beq_eq_false_iff_ne.2 hv0
  have hv2 : (wrap64 (saw + 1) != 0) = true := bne_iff_ne.2 hv0
  clear hv0
  have HV := Lib.hid hv
  have HDX := Lib.hid (show (nums .i64 (e :: b))[1 + j]? = some (.int .i64 (wrap64 (saw + 1))) by rw [Nat.add_comm, nums_get _ (e :: b) _ (by simp; omega), show (e :: b).getD (j + 1) 0 = b.getD j 0 by rfl, hv])
  clear hv
  clear hfin hT hB h0 h1 h2 h3 h4 h5 hok k0 k1 k2 hwent
  go_enter Try.func37, Try.ntmps37
  go_upto_region 2 with fail
  clear c0 c1 c2 c3 c4 d0 g0 f2 f3 f4 f5
  generalize w.setCell ⟨tb, off + 2, none⟩ (.int .i64 ((j : Int) + 1 + 1)) = w1 at *
  have q0 : w1.cell? ⟨tb, off, none⟩ = some (.int .u8 kd) := HT1.out.at_ (by rw [Array.getElem?_setIfInBounds_ne (by omega)]; exact H0.out)
  have q2 : w1.cell? ⟨tb, off + 2, none⟩ = some (.int .i64 ((j : Int) + 1 + 1)) := HT1.out.at_ (by rw [Array.getElem?_setIfInBounds_self_of_lt (by omega)])
  have q3 : w1.cell? ⟨tb, off + 3, none⟩ = some (.int .i64 saw) := HT1.out.at_ (by rw [Array.getElem?_setIfInBounds_ne (by omega)]; exact H3.out)
  have q4 : w1.cell? ⟨tb, off + 4, none⟩ = some (.bool false) := HT1.out.at_ (by rw [Array.getElem?_setIfInBounds_ne (by omega)]; exact H4.out)
  have qf := HT1.out.free (off + 4)
  have dx : w1.cell? ⟨bb, 1 + j, none⟩ = some (.int .i64 (wrap64 (saw + 1))) := HB1.out.at_ HDX.out
  go_upto_region 6 with fail
  have e2 : IntKind.i64.wrap ((j : Int) + 1 + 1 - 2) = (j : Int) := by rw [show (j : Int) + 1 + 1 - 2 = j by omega]; exact IntWalk.i64_in _ (by omega)
  go_still_tail 10, (by kernel_rfl)
  change wpList _ _ _ _ _ w1.drew
  clear e2
  go_wp2
  go_end0
  first | exact HF.out | exact HF.out.drew | exact HF.out.drew.drew

set_option maxRecDepth 100000 in
set_option maxHeartbeats 1000000 in
theorem ref04_2n (tb off bb : Nat) (cs : Array Value) (kd : Int) (t : TS) (e : Int) (b : List Int) (w : World) (hT : Blk w tb 77 cs) (h0 : cs[off]? = some (.int .u8 kd)) (h1 : cs[off + 1]? = some (.int .i64 t.x)) (h2 : cs[off + 2]? = some (.int .i64 t.at_)) (h3 : cs[off + 3]? = some (.int .i64 t.saw)) (h4 : cs[off + 4]? = some (.bool t.over)) (h5 : cs[off + 5]? = some (.bool t.went)) (hB : Blk w bb 72 (nums .i64 (e :: b))) (hb : b.length = 16) (hok : t.Ok) (hkd : kd.tmod 3 = t.kind) (j : Nat) (hj : j ≤ 15) (ho : t.over = false) (hk : t.kind = 2) (ha : t.at_ = j + 1) (v : Int) (hv : b.getD j 0 = v) (hv0 : v ≠ 0) (hvn : v ≠ wrap64 (t.saw + 1)) :
    Calls Try.prog 37 #[.pointer (some ⟨tb, off, none⟩), .pointer (some ⟨bb, 0, none⟩)] w (TaskPost04 tb off bb cs (t.step e b).1 (t.step e b).2.1 (t.step e b).2.2 w) := by
  have n1 : tb ≠ bb := hT.ne_ hB (by decide)
  have hsz : off + 5 < cs.size := (Array.getElem?_eq_some_iff.1 h5).1
  have c0 := hT.at_ h0
  have c1 := hT.at_ h1
  have c2 := hT.at_ h2
  have c3 := hT.at_ h3
  have c4 := hT.at_ h4
  have f2 := hT.free (off + 2)
  have f3 := hT.free (off + 3)
  have f4 := hT.free (off + 4)
  have f5 := hT.free (off + 5)
  have c5 := hT.at_ h5
  have d0 : w.cell? ⟨bb, 0, none⟩ = some (.int .i64 e) := hB.at_ rfl
  have g0 := hB.free 0
  obtain ⟨kind, x, a, saw, over, went⟩ := t
  have hx := hok.x
  have hkk := hok.kind
  have k0 := hok.k0
  have k1 := hok.k1
  have k2 := hok.k2
  have hwent := hok.went
  simp only at c1 c2 c3 c4 c5 h1 h2 h3 h4 h5 hx hkk k0 k1 k2 hkd hwent
  simp only at ho hk ha
  subst ho hk ha
  have hw := hwent rfl
  subst hw
  have hkd0 : kd.tmod 3 = 2 := hkd
  clear hkd
  try simp only at hv
  have e1 : (TS.step ⟨2, x, j + 1, saw, false, false⟩ e b) = (⟨2, x, j + 2, saw, true, false⟩, e, b) := by unfold TS.step; simp only [Bool.false_eq_true, if_false, Nat.add_one_ne_zero, show ¬ (2 : Nat) = 0 by decide, show ¬ (2 : Nat) = 1 by decide, show j + 1 ≤ 16 by omega, if_true, Nat.add_sub_cancel]; rw [show (b.getD j 0 != 0 && b.getD j 0 != wrap64 (saw + 1)) = true by (rw [hv]; have h1 := bne_iff_ne.2 hvn; have h2 := bne_iff_ne.2 hv0; rw [h1, h2]; rfl)]
  rw [e1]
  clear e1
  have hfin : TaskPost04 tb off bb cs ⟨2, x, j + 2, saw, true, false⟩ e b w (.returned (.tuple #[])) ((w.setCell ⟨tb, off + 2, none⟩ (.int .i64 ((j : Int) + 1 + 1))).setCell ⟨tb, off + 4, none⟩ (.bool true)) := by
    refine ⟨rfl, blk_tset ((hT.put (off + 2) (.int .i64 ((j : Int) + 1 + 1))).put (off + 4) (.bool true)) hsz ?_ ?_ ?_ ?_ ?_, ?_, (((Upd.refl _ _).put (.inl (by simp)) _).put (.inl (by simp)) _)⟩
    · first | (simp [show off + 2 < cs.size by omega]; done) | ((repeat rw [Array.getElem?_setIfInBounds_ne (by omega)]); exact h2) | (rw [Array.getElem?_setIfInBounds_ne (by omega), Array.getElem?_setIfInBounds_self_of_lt (by omega)]; rfl)
    · first | (simp [show off + 3 < cs.size by omega]; done) | ((repeat rw [Array.getElem?_setIfInBounds_ne (by omega)]); exact h3) | (rw [Array.getElem?_setIfInBounds_ne (by omega), Array.getElem?_setIfInBounds_self_of_lt (by omega)]; rfl)
    · first | (simp [show off + 4 < cs.size by omega]; done) | ((repeat rw [Array.getElem?_setIfInBounds_ne (by omega)]); exact h4) | (rw [Array.getElem?_setIfInBounds_ne (by omega), Array.getElem?_setIfInBounds_self_of_lt (by omega)]; rfl)
    · first | (simp [show off + 5 < cs.size by omega]; done) | ((repeat rw [Array.getElem?_setIfInBounds_ne (by omega)]); exact h5) | (rw [Array.getElem?_setIfInBounds_ne (by omega), Array.getElem?_setIfInBounds_self_of_lt (by omega)]; rfl)
    · intro j j0 j1 j2 j3
      simp [Array.getElem?_setIfInBounds_ne, Ne.symm j0, Ne.symm j1, Ne.symm j2, Ne.symm j3]
    · have h := ((hB.far (p := ⟨tb, off + 2, none⟩) (fun e => n1 e.symm) (.int .i64 ((j : Int) + 1 + 1))).far (p := ⟨tb, off + 4, none⟩) (fun e => n1 e.symm) (.bool true))
      first | exact h | (rw [nums_set] at h; exact h) | (rw [nums_set, set_1x] at h; exact h)
  have HF := Lib.hid hfin
  have HT1 := Lib.hid (hT.put (off + 2) (.int .i64 ((j : Int) + 1 + 1)))
  have HB1 := Lib.hid (hB.far (p := ⟨tb, off + 2, none⟩) (fun e => n1 e.symm) (.int .i64 ((j : Int) + 1 + 1)))
  have H0 := Lib.hid h0
  have H3 := Lib.hid h3
  have H4 := Lib.hid h4
  have hj1 : (j : Int) < 16 := by omega
  have hj0 : (0 : Int) ≤ j := by omega
  have hj2 : (j : Int) + 1 + 1 ≤ 17 := by omega
  have hne1 : ((j : Int) + 1 + 1 == 1) = false := beq_eq_false_iff_ne.2 (by omega)
  have hcj : ((j + 1 : Nat) : Int) = (j : Int) + 1 := rfl
  rw [hcj] at c2
  clear hcj c5
  have hv1 : (v == 0) = false := beq_eq_false_iff_ne.2 hv0
  have hv2 : (v != 0) = true := bne_iff_ne.2 hv0
  have hv3 : (v == wrap64 (saw + 1)) = false := beq_eq_false_iff_ne.2 hvn
  have hv4 : (v != wrap64 (saw + 1)) = true := bne_iff_ne.2 hvn
  clear hv0 hvn
  have HV := Lib.hid hv
  have HDX := Lib.hid (show (nums .i64 (e :: b))[1 + j]? = some (.int .i64 v) by rw [Nat.add_comm, nums_get _ (e :: b) _ (by simp; omega), show (e :: b).getD (j + 1) 0 = b.getD j 0 by rfl, hv])
  clear hv
  clear hfin hT hB h0 h1 h2 h3 h4 h5 hok k0 k1 k2 hwent
  go_enter Try.func37, Try.ntmps37
  go_upto_region 2 with fail
  clear c0 c1 c2 c3 c4 d0 g0 f2 f3 f4 f5
  generalize w.setCell ⟨tb, off + 2, none⟩ (.int .i64 ((j : Int) + 1 + 1)) = w1 at *
  have q0 : w1.cell? ⟨tb, off, none⟩ = some (.int .u8 kd) := HT1.out.at_ (by rw [Array.getElem?_setIfInBounds_ne (by omega)]; exact H0.out)
  have q2 : w1.cell? ⟨tb, off + 2, none⟩ = some (.int .i64 ((j : Int) + 1 + 1)) := HT1.out.at_ (by rw [Array.getElem?_setIfInBounds_self_of_lt (by omega)])
  have q3 : w1.cell? ⟨tb, off + 3, none⟩ = some (.int .i64 saw) := HT1.out.at_ (by rw [Array.getElem?_setIfInBounds_ne (by omega)]; exact H3.out)
  have q4 : w1.cell? ⟨tb, off + 4, none⟩ = some (.bool false) := HT1.out.at_ (by rw [Array.getElem?_setIfInBounds_ne (by omega)]; exact H4.out)
  have qf := HT1.out.free (off + 4)
  have dx : w1.cell? ⟨bb, 1 + j, none⟩ = some (.int .i64 v) := HB1.out.at_ HDX.out
  go_upto_region 6 with fail
  have e2 : IntKind.i64.wrap ((j : Int) + 1 + 1 - 2) = (j : Int) := by rw [show (j : Int) + 1 + 1 - 2 = j by omega]; exact IntWalk.i64_in _ (by omega)
  go_still_tail 10, (by kernel_rfl)
  change wpList _ _ _ _ _ w1.drew
  clear e2
  go_wp2
  go_end0
  first | exact HF.out | exact HF.out.drew | exact HF.out.drew.drew

theorem ref04_step (tb off bb : Nat) (cs : Array Value) (kd : Int) (t : TS) (e : Int) (b : List Int) (w : World) (hT : Blk w tb 77 cs) (h0 : cs[off]? = some (.int .u8 kd)) (h1 : cs[off + 1]? = some (.int .i64 t.x)) (h2 : cs[off + 2]? = some (.int .i64 t.at_)) (h3 : cs[off + 3]? = some (.int .i64 t.saw)) (h4 : cs[off + 4]? = some (.bool t.over)) (h5 : cs[off + 5]? = some (.bool t.went)) (hB : Blk w bb 72 (nums .i64 (e :: b))) (hb : b.length = 16) (hok : t.Ok) (hkd : kd.tmod 3 = t.kind) :
    Calls Try.prog 37 #[.pointer (some ⟨tb, off, none⟩), .pointer (some ⟨bb, 0, none⟩)] w (TaskPost04 tb off bb cs (t.step e b).1 (t.step e b).2.1 (t.step e b).2.2 w) := by
  cases ho : t.over with
  | true => exact ref04_over tb off bb cs kd t e b w hT h0 h1 h2 h3 h4 h5 hB hb hok hkd ho
  | false =>
    have hk := hok.kind
    rcases (show t.kind = 0 ∨ t.kind = 1 ∨ t.kind = 2 by omega) with hk | hk | hk
    · have ha := (hok.k0 hk).2 ho
      rcases (show t.at_ = 0 ∨ t.at_ = 1 by omega) with ha | ha
      · exact ref04_00 tb off bb cs kd t e b w hT h0 h1 h2 h3 h4 h5 hB hb hok hkd ho hk ha
      · exact ref04_01 tb off bb cs kd t e b w hT h0 h1 h2 h3 h4 h5 hB hb hok hkd ho hk ha
    · exact ref04_1 tb off bb cs kd t e b w hT h0 h1 h2 h3 h4 h5 hB hb hok hkd ho hk ((hok.k1 hk).2 ho)
    · have ha := (hok.k2 hk).2 ho
      rcases (show t.at_ = 0 ∨ t.at_ = 17 ∨ ∃ j, j ≤ 15 ∧ t.at_ = j + 1 by
        rcases Nat.lt_or_ge t.at_ 1 with h | h
        · left; omega
        · rcases Nat.lt_or_ge t.at_ 17 with h' | h'
          · exact .inr (.inr ⟨t.at_ - 1, by omega, by omega⟩)
          · right; left; omega) with ha | ha | ⟨j, hj, ha⟩
      · exact ref04_20 tb off bb cs kd t e b w hT h0 h1 h2 h3 h4 h5 hB hb hok hkd ho hk ha
      · exact ref04_217 tb off bb cs kd t e b w hT h0 h1 h2 h3 h4 h5 hB hb hok hkd ho hk ha
      · by_cases hv0 : b.getD j 0 = 0
        · exact ref04_2z tb off bb cs kd t e b w hT h0 h1 h2 h3 h4 h5 hB hb hok hkd j hj ho hk ha hv0
        · by_cases hv : b.getD j 0 = wrap64 (t.saw + 1)
          · exact ref04_2s tb off bb cs kd t e b w hT h0 h1 h2 h3 h4 h5 hB hb hok hkd j hj ho hk ha hv (hv ▸ hv0)
          · exact ref04_2n tb off bb cs kd t e b w hT h0 h1 h2 h3 h4 h5 hB hb hok hkd j hj ho hk ha _ rfl hv0 hv
end Go.Proofs.Ytcphidmfdakbeaa
