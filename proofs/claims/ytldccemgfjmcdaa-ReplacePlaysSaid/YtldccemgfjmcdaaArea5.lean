/- UnpackArea, walked. -/
import Derived.Test.YtldccemgfjmcdaaArea4
import Derived.Test.YtldccemgfjmcdaaUnpack
import Derived.Laws.Tables
namespace Go.Proofs.Ytldccemgfjmcdaa
open Go.RowKit
set_option linter.unusedSimpArgs false
set_option linter.unusedVariables false

def noArea : Value := .agg #[.int .i64 0, .int .i64 0, .int .i64 0, .bool false, .int .i64 0, .int .i64 0]
theorem put6 {w : World} {b : Nat} {ty : TypeId} {a0 a1 a2 a3 a4 a5 : Value} (h : Blk w b ty #[a0, a1, a2, a3, a4, a5]) (v0 v1 v2 v3 v4 v5 : Value) : Blk ((((((w.setCell ⟨b, 0, none⟩ v0).setCell ⟨b, 1, none⟩ v1).setCell ⟨b, 2, none⟩ v2).setCell ⟨b, 3, none⟩ v3).setCell ⟨b, 4, none⟩ v4).setCell ⟨b, 5, none⟩ v5) b ty #[v0, v1, v2, v3, v4, v5] := (((((h.put 0 v0).put 1 v1).put 2 v2).put 3 v3).put 4 v4).put 5 v5
theorem put6_below {B : Nat} {w w' : World} {b : Nat} (h : Below B w w') (hb : B ≤ b) (v0 v1 v2 v3 v4 v5 : Value) : Below B w ((((((w'.setCell ⟨b, 0, none⟩ v0).setCell ⟨b, 1, none⟩ v1).setCell ⟨b, 2, none⟩ v2).setCell ⟨b, 3, none⟩ v3).setCell ⟨b, 4, none⟩ v4).setCell ⟨b, 5, none⟩ v5) := (((((h.setCell (p := ⟨b, 0, none⟩) hb v0).setCell (p := ⟨b, 1, none⟩) hb v1).setCell (p := ⟨b, 2, none⟩) hb v2).setCell (p := ⟨b, 3, none⟩) hb v3).setCell (p := ⟨b, 4, none⟩) hb v4).setCell (p := ⟨b, 5, none⟩) hb v5
def UnpackAPost (w : World) (xs : List Int) (e : Ending) (w' : World) : Prop := Below w.heap.size w w' ∧
  ((unpackA xs = none ∧ e = .returned (.tuple #[noArea, .bool false, .bool false])) ∨ ∃ a dead, unpackA xs = some (a, dead) ∧ e = .returned (.tuple #[.agg (areaCells a), .bool dead, .bool true]))
theorem below_setRow {B : Nat} {w w' : World} {b : Nat} (h : Below B w w') (hb : B ≤ b) (cs : Array Value) : Below B w (w'.setRow b cs) :=
  ⟨h.os, h.tape, h.output, by simpa using h.size, fun k hk => by
    rw [← h.block k hk]
    exact setRow_other _ _ _ _ (by omega)⟩
theorem h6 : (Try.prog.info? 57).map (·.size) = some 6 := by kernel_rfl
theorem unpackA_short {xs : List Int} (h : xs.length ≠ 28) : unpackA xs = none := by
  unfold unpackA
  rw [if_neg (fun hh => h hh.1)]
set_option maxRecDepth 100000 in
set_option maxHeartbeats 2000000 in
theorem slot_unpackArea (a : Option Addr) (len cap : Nat) (xs : List Int) (w : World) (h : Ints w a len cap xs) :
    Calls Try.prog 95 #[.slice a len cap] w (UnpackAPost w xs) := by
  have hb : ∀ o : Obj, Below w.heap.size w (w.alloc o) := fun o => (Below.refl _ _).alloc (Nat.le_refl _) _
  have hm := h.hm
  have hl := h.le
  have hxl := h.hl
  unfold maxLen at hm
  by_cases h28 : len = 28
  · subst h28
    have HH := Lib.hid h
    obtain ⟨b, o, rfl, hbl, q1⟩ := h.at_ (j := 1) (by decide)
    obtain ⟨b', o', e', -, q2⟩ := h.at_ (j := 2) (by decide)
    obtain ⟨rfl, rfl⟩ : b' = b ∧ o' = o := by simpa using e'.symm
    obtain ⟨b2, o2, e2, -, q3⟩ := h.at_ (j := 3) (by decide)
    obtain ⟨rfl, rfl⟩ : b' = b2 ∧ o' = o2 := by simpa using e2
    clear e2
    obtain ⟨b2, o2, e2, -, q4⟩ := h.at_ (j := 4) (by decide)
    obtain ⟨rfl, rfl⟩ : b' = b2 ∧ o' = o2 := by simpa using e2
    clear e2
    obtain ⟨b2, o2, e2, -, q5⟩ := h.at_ (j := 5) (by decide)
    obtain ⟨rfl, rfl⟩ : b' = b2 ∧ o' = o2 := by simpa using e2
    clear e2
    obtain ⟨b2, o2, e2, -, q6⟩ := h.at_ (j := 6) (by decide)
    obtain ⟨rfl, rfl⟩ : b' = b2 ∧ o' = o2 := by simpa using e2
    clear e2
    obtain ⟨b2, o2, e2, -, q7⟩ := h.at_ (j := 7) (by decide)
    obtain ⟨rfl, rfl⟩ : b' = b2 ∧ o' = o2 := by simpa using e2
    clear e2
    have k2 := h.wf_at (i := 2) (by decide)
    have k3 := h.wf_at (i := 3) (by decide)
    have k4 := h.wf_at (i := 4) (by decide)
    have k6 := h.wf_at (i := 6) (by decide)
    have k7 := h.wf_at (i := 7) (by decide)
    have HOF := Lib.hid (show areaOf xs = ⟨xs.getD 2 0, xs.getD 3 0, xs.getD 4 0, xs.getD 5 0 == 1, xs.getD 6 0, xs.getD 7 0⟩ from rfl)
    have HDF := Lib.hid (show deadOf xs = (xs.getD 1 0 == 1) from rfl)
    clear h e'
    obtain ⟨y1, hy1⟩ : ∃ y, xs.getD 1 0 = y := ⟨_, rfl⟩
    rw [hy1] at q1 HDF
    have HY1 := Lib.hid hy1
    clear hy1
    generalize xs.getD 2 0 = x2 at *
    generalize xs.getD 3 0 = x3 at *
    generalize xs.getD 4 0 = x4 at *
    generalize xs.getD 5 0 = y5 at *
    generalize xs.getD 6 0 = x6 at *
    generalize xs.getD 7 0 = x7 at *
    obtain ⟨x5, hx5⟩ : ∃ b, (y5 == 1) = b := ⟨_, rfl⟩
    obtain ⟨dd, hdd⟩ : ∃ b, (y1 == 1) = b := ⟨_, rfl⟩
    rw [hx5] at HOF
    rw [hdd] at HDF
    have hc28 : 28 ≤ cap := hl
    have HOK := Lib.hid (show AreaV.Ok ⟨x2, x3, x4, x5, x6, x7⟩ from ⟨k2, k3, k4, k6, k7⟩)
    clear k2 k3 k4 k6 k7
    go_enter Try.func95, Try.ntmps95
    go_upto_region 3 with fail
    have hR0 := Blk.new w 57 #[.int .i64 0, .int .i64 0, .int .i64 0, .bool false, .int .i64 0, .int .i64 0]
    have hw0 := hb (.cells #[.int .i64 0, .int .i64 0, .int .i64 0, .bool false, .int .i64 0, .int .i64 0] 57)
    have hsz : (w.alloc (.cells #[.int .i64 0, .int .i64 0, .int .i64 0, .bool false, .int .i64 0, .int .i64 0] 57)).heap.size = w.heap.size + 1 := by simp
    have hkk : ∀ j v, w.cell? ⟨b', o' + j, none⟩ = some v → (w.alloc (.cells #[.int .i64 0, .int .i64 0, .int .i64 0, .bool false, .int .i64 0, .int .i64 0] 57)).cell? ⟨b', o' + j, none⟩ = some v := fun j v h => by rw [← h]; exact World.cell?_of_block (Below.heap_alloc w _ b' hbl)
    have p2 := hkk 2 _ q2
    have p3 := hkk 3 _ q3
    have p4 := hkk 4 _ q4
    have p5 := hkk 5 _ q5
    have p6 := hkk 6 _ q6
    have p7 := hkk 7 _ q7
    generalize w.alloc (.cells #[.int .i64 0, .int .i64 0, .int .i64 0, .bool false, .int .i64 0, .int .i64 0] 57) = W at *
    have n2 := World.new_ne W _ p2
    have n3 := World.new_ne W _ p3
    have n4 := World.new_ne W _ p4
    have n5 := World.new_ne W _ p5
    have n6 := World.new_ne W _ p6
    have n7 := World.new_ne W _ p7
    have HSZ := Lib.hid hsz
    have HR0 := Lib.hid hR0
    have HW0 := Lib.hid hw0
    clear hkk q2 q3 q4 q5 q6 q7 hsz hR0 hw0
    go_region_held3 (fun x => x.cell? ⟨b', o' + 2, none⟩ = some (.int .i64 x2) ∧ x.cell? ⟨b', o' + 3, none⟩ = some (.int .i64 x3) ∧ x.cell? ⟨b', o' + 4, none⟩ = some (.int .i64 x4) ∧ x.cell? ⟨b', o' + 5, none⟩ = some (.int .i64 y5) ∧ x.cell? ⟨b', o' + 6, none⟩ = some (.int .i64 x6) ∧ x.cell? ⟨b', o' + 7, none⟩ = some (.int .i64 x7)) (go_keep) (first | fail)
    have hR := (HR0.out.alloc (.cells #[.int .i64 x2, .int .i64 x3, .int .i64 x4, .bool x5, .int .i64 x6, .int .i64 x7] 57)).drew
    have hN := (Blk.new W 57 #[.int .i64 x2, .int .i64 x3, .int .i64 x4, .bool x5, .int .i64 x6, .int .i64 x7]).drew
    have hw := below_drewN (HW0.out.alloc (by rw [HSZ.out]; omega) (.cells #[.int .i64 x2, .int .i64 x3, .int .i64 x4, .bool x5, .int .i64 x6, .int .i64 x7] 57)) 1
    change Below w.heap.size w (World.drew _) at hw
    have hsz := HSZ.out
    generalize (W.alloc (.cells #[.int .i64 x2, .int .i64 x3, .int .i64 x4, .bool x5, .int .i64 x6, .int .i64 x7] 57)).drew = w1 at *
    obtain ⟨rb, hrb⟩ : ∃ rb, w.heap.size = rb := ⟨_, rfl⟩
    obtain ⟨nb, hnb⟩ : ∃ nb, W.heap.size = nb := ⟨_, rfl⟩
    rw [hnb, hrb] at hsz
    rw [hnb] at hN ⊢
    rw [hrb] at hR hw hbl ⊢
    have HRB := Lib.hid hrb
    have hrn : rb ≠ nb := by omega
    clear hrb hnb hx5 HSZ HR0 HW0 hsz
    have HI1 := Lib.hid (HH.out.below (by rw [HRB.out]; exact hw) (Nat.le_refl _))
    obtain ⟨b2, o2, e2, -, p1⟩ := HI1.out.at_ (j := 1) (by decide)
    obtain ⟨rfl, rfl⟩ : b' = b2 ∧ o' = o2 := by simpa using e2
    rw [HY1.out] at p1
    have HR1 := Lib.hid hR
    have HN1 := Lib.hid hN
    have HW1 := Lib.hid hw
    clear hR hw e2 q1 p2 p3 p4 p5 p6 p7 n2 n3 n4 n5 n6 n7
    go_upto_region 5 with fail
    have HCP := Lib.hid (slot_packArea ⟨x2, x3, x4, x5, x6, x7⟩ dd w1 HOK.out)
    simp only [areaCells] at HCP
    go_wp2_with (refine wpList_load_row (P := Try.prog) rfl 57 (.tmp 5) rfl nb rfl 57 #[.int .i64 x2, .int .i64 x3, .int .i64 x4, .bool x5, .int .i64 x6, .int .i64 x7] (0, 0) _ hN Try.underlying57 rfl h6 ?_)
    refine HCP.out.mono ?_
    rintro e w8 ⟨hb8, hcase⟩
    have HW8 := Lib.hid (below_then HW1.out hb8 (by have := HRB.out; omega))
    have HX8 := Lib.hid (HH.out.below (by rw [HRB.out]; exact HW8.out) (Nat.le_refl _))
    have HB8 := Lib.hid hb8
    clear hN
    rcases hcase with ⟨hf, rfl⟩ | ⟨hf, g, cg, rfl, hg, hrow⟩
    · have HN := Lib.hid (show unpackA xs = none by
        unfold unpackA
        rw [HOF.out, if_neg (by rw [hf]; simp)])
      have he : decide (([] : List Int) = xs) = false := by
        rw [decide_eq_false_iff_not]
        intro hc
        rw [← hc] at hxl
        exact absurd hxl (by decide)
      have hI : Ints w8 none 0 0 [] := ⟨rfl, Nat.le_refl _, Nat.zero_le _, by simp, .inl rfl⟩
      have HE := slices_equal none _ 0 28 0 cap [] xs w8 hI HX8.out
      rw [he] at HE
      clear he hf
      clear hb8 hxl hI 
      have HE' := Lib.hid HE
      clear HE
      go_wp2_with fail
      refine HE'.out.mono ?_
      rintro e w9 ⟨rfl, q, rfl⟩
      have HW9 := Lib.hid (below_drewN HW8.out q)
      have hr9' := (HR1.out.below HB8.out HR1.out.lt).drewN q
      have hn9' := (HN1.out.below HB8.out HN1.out.lt).drewN q
      generalize w8.drewN q = w9 at *
      have hr9h : w9.heap[rb]? = some (.cells #[.int .i64 0, .int .i64 0, .int .i64 0, .bool false, .int .i64 0, .int .i64 0] 57 (0, 0)) := hr9'
      have hn9h : w9.heap[nb]? = some (.cells #[.int .i64 x2, .int .i64 x3, .int .i64 x4, .bool x5, .int .i64 x6, .int .i64 x7] 57 (0, 0)) := hn9'
      have hr9k : Blk w9 rb 57 #[.int .i64 0, .int .i64 0, .int .i64 0, .bool false, .int .i64 0, .int .i64 0] := hr9'
      have m0 := (hr9k).at_ (i := 0) rfl
      have m1 := (hr9k).at_ (i := 1) rfl
      have m2 := (hr9k).at_ (i := 2) rfl
      have m3 := (hr9k).at_ (i := 3) rfl
      have m4 := (hr9k).at_ (i := 4) rfl
      have m5 := (hr9k).at_ (i := 5) rfl
      simp only [List.getElem_toArray, List.getElem_cons_succ, List.getElem_cons_zero] at m0 m1 m2 m3 m4 m5
      have f0 := hr9k.free 0
      have f1 := hr9k.free 1
      have f2 := hr9k.free 2
      have f3 := hr9k.free 3
      have f4 := hr9k.free 4
      have f5 := hr9k.free 5
      clear hr9h hn9h
      go_wp2
      have hz := put6 hr9k (.int .i64 0) (.int .i64 0) (.int .i64 0) (.bool false) (.int .i64 0) (.int .i64 0)
      have HWZ := Lib.hid (put6_below HW9.out (Nat.le_refl _) (.int .i64 0) (.int .i64 0) (.int .i64 0) (.bool false) (.int .i64 0) (.int .i64 0))
      have hrun := run_loadVar_row (P := Try.prog) ((((((w9.setCell ⟨rb, 0, none⟩ (.int .i64 0)).setCell ⟨rb, 1, none⟩ (.int .i64 0)).setCell ⟨rb, 2, none⟩ (.int .i64 0)).setCell ⟨rb, 3, none⟩ (.bool false)).setCell ⟨rb, 4, none⟩ (.int .i64 0)).setCell ⟨rb, 5, none⟩ (.int .i64 0)) rb 57 57 #[.int .i64 0, .int .i64 0, .int .i64 0, .bool false, .int .i64 0, .int .i64 0] (0, 0) _ hz Try.underlying57 rfl h6
      generalize (((((w9.setCell ⟨rb, 0, none⟩ (.int .i64 0)).setCell ⟨rb, 1, none⟩ (.int .i64 0)).setCell ⟨rb, 2, none⟩ (.int .i64 0)).setCell ⟨rb, 3, none⟩ (.bool false)).setCell ⟨rb, 4, none⟩ (.int .i64 0)).setCell ⟨rb, 5, none⟩ (.int .i64 0) = w10 at *
      exact bodyPost_ret (v := .tuple #[.agg #[.int .i64 0, .int .i64 0, .int .i64 0, .bool false, .int .i64 0, .int .i64 0], .bool false, .bool false]) (by simp [results, Try.results95, asAddr, hrun]) rfl ⟨by rw [HRB.out]; exact HWZ.out, .inl ⟨HN.out, rfl⟩⟩
    · have hI : Ints w8 (some ⟨g, 0, none⟩) 28 cg (AreaV.pack ⟨x2, x3, x4, x5, x6, x7⟩ dd) := ArgInts.ofRow hrow (AreaV.pack_i64 hf _)
      have HE := slices_equal _ _ 28 28 cg cap _ xs w8 hI HX8.out
      by_cases hp : AreaV.pack ⟨x2, x3, x4, x5, x6, x7⟩ dd = xs
      · have HS := Lib.hid (show unpackA xs = some (⟨x2, x3, x4, x5, x6, x7⟩, dd) by
          unfold unpackA
          rw [HOF.out, HDF.out, if_pos ⟨hxl, hf, hp⟩])
        rw [decide_eq_true hp] at HE
        clear hf
        clear hb8 hxl hI hrow hp
        have HE' := Lib.hid HE
        clear HE
        go_wp2_with fail
        refine HE'.out.mono ?_
        rintro e w9 ⟨rfl, q, rfl⟩
        have HW9 := Lib.hid (below_drewN HW8.out q)
        have hr9' := (HR1.out.below HB8.out HR1.out.lt).drewN q
        have hn9' := (HN1.out.below HB8.out HN1.out.lt).drewN q
        generalize w8.drewN q = w9 at *
        have hr9h : w9.heap[rb]? = some (.cells #[.int .i64 0, .int .i64 0, .int .i64 0, .bool false, .int .i64 0, .int .i64 0] 57 (0, 0)) := hr9'
        have hn9h : w9.heap[nb]? = some (.cells #[.int .i64 x2, .int .i64 x3, .int .i64 x4, .bool x5, .int .i64 x6, .int .i64 x7] 57 (0, 0)) := hn9'
        have hr9k : Blk w9 rb 57 #[.int .i64 0, .int .i64 0, .int .i64 0, .bool false, .int .i64 0, .int .i64 0] := hr9'
        have m0 := (hr9k).at_ (i := 0) rfl
        have m1 := (hr9k).at_ (i := 1) rfl
        have m2 := (hr9k).at_ (i := 2) rfl
        have m3 := (hr9k).at_ (i := 3) rfl
        have m4 := (hr9k).at_ (i := 4) rfl
        have m5 := (hr9k).at_ (i := 5) rfl
        simp only [List.getElem_toArray, List.getElem_cons_succ, List.getElem_cons_zero] at m0 m1 m2 m3 m4 m5
        have f0 := hr9k.free 0
        have f1 := hr9k.free 1
        have f2 := hr9k.free 2
        have f3 := hr9k.free 3
        have f4 := hr9k.free 4
        have f5 := hr9k.free 5
        have hn9k : Blk w9 nb 57 #[.int .i64 x2, .int .i64 x3, .int .i64 x4, .bool x5, .int .i64 x6, .int .i64 x7] := hn9'
        have k0 := (hn9k).at_ (i := 0) rfl
        have k1 := (hn9k).at_ (i := 1) rfl
        have k2 := (hn9k).at_ (i := 2) rfl
        have k3 := (hn9k).at_ (i := 3) rfl
        have k4 := (hn9k).at_ (i := 4) rfl
        have k5 := (hn9k).at_ (i := 5) rfl
        simp only [List.getElem_toArray, List.getElem_cons_succ, List.getElem_cons_zero] at k0 k1 k2 k3 k4 k5
        clear hr9h hn9h
        go_wp2
        have hz := put6 hr9k (.int .i64 x2) (.int .i64 x3) (.int .i64 x4) (.bool x5) (.int .i64 x6) (.int .i64 x7)
        have HWZ := Lib.hid (put6_below HW9.out (Nat.le_refl _) (.int .i64 x2) (.int .i64 x3) (.int .i64 x4) (.bool x5) (.int .i64 x6) (.int .i64 x7))
        have hrun := run_loadVar_row (P := Try.prog) ((((((w9.setCell ⟨rb, 0, none⟩ (.int .i64 x2)).setCell ⟨rb, 1, none⟩ (.int .i64 x3)).setCell ⟨rb, 2, none⟩ (.int .i64 x4)).setCell ⟨rb, 3, none⟩ (.bool x5)).setCell ⟨rb, 4, none⟩ (.int .i64 x6)).setCell ⟨rb, 5, none⟩ (.int .i64 x7)) rb 57 57 #[.int .i64 x2, .int .i64 x3, .int .i64 x4, .bool x5, .int .i64 x6, .int .i64 x7] (0, 0) _ hz Try.underlying57 rfl h6
        generalize (((((w9.setCell ⟨rb, 0, none⟩ (.int .i64 x2)).setCell ⟨rb, 1, none⟩ (.int .i64 x3)).setCell ⟨rb, 2, none⟩ (.int .i64 x4)).setCell ⟨rb, 3, none⟩ (.bool x5)).setCell ⟨rb, 4, none⟩ (.int .i64 x6)).setCell ⟨rb, 5, none⟩ (.int .i64 x7) = w10 at *
        exact bodyPost_ret (v := .tuple #[.agg #[.int .i64 x2, .int .i64 x3, .int .i64 x4, .bool x5, .int .i64 x6, .int .i64 x7], .bool dd, .bool true]) (by simp [results, Try.results95, asAddr, hrun]) rfl ⟨by rw [HRB.out]; exact HWZ.out, .inr ⟨_, _, HS.out, rfl⟩⟩
      · have HN := Lib.hid (show unpackA xs = none by
          unfold unpackA
          rw [HOF.out, HDF.out, if_neg (fun h => hp h.2.2)])
        rw [decide_eq_false hp] at HE
        clear hf
        clear hb8 hxl hI hrow hp
        have HE' := Lib.hid HE
        clear HE
        go_wp2_with fail
        refine HE'.out.mono ?_
        rintro e w9 ⟨rfl, q, rfl⟩
        have HW9 := Lib.hid (below_drewN HW8.out q)
        have hr9' := (HR1.out.below HB8.out HR1.out.lt).drewN q
        have hn9' := (HN1.out.below HB8.out HN1.out.lt).drewN q
        generalize w8.drewN q = w9 at *
        have hr9h : w9.heap[rb]? = some (.cells #[.int .i64 0, .int .i64 0, .int .i64 0, .bool false, .int .i64 0, .int .i64 0] 57 (0, 0)) := hr9'
        have hn9h : w9.heap[nb]? = some (.cells #[.int .i64 x2, .int .i64 x3, .int .i64 x4, .bool x5, .int .i64 x6, .int .i64 x7] 57 (0, 0)) := hn9'
        have hr9k : Blk w9 rb 57 #[.int .i64 0, .int .i64 0, .int .i64 0, .bool false, .int .i64 0, .int .i64 0] := hr9'
        have m0 := (hr9k).at_ (i := 0) rfl
        have m1 := (hr9k).at_ (i := 1) rfl
        have m2 := (hr9k).at_ (i := 2) rfl
        have m3 := (hr9k).at_ (i := 3) rfl
        have m4 := (hr9k).at_ (i := 4) rfl
        have m5 := (hr9k).at_ (i := 5) rfl
        simp only [List.getElem_toArray, List.getElem_cons_succ, List.getElem_cons_zero] at m0 m1 m2 m3 m4 m5
        have f0 := hr9k.free 0
        have f1 := hr9k.free 1
        have f2 := hr9k.free 2
        have f3 := hr9k.free 3
        have f4 := hr9k.free 4
        have f5 := hr9k.free 5
        clear hr9h hn9h
        go_wp2
        have hz := put6 hr9k (.int .i64 0) (.int .i64 0) (.int .i64 0) (.bool false) (.int .i64 0) (.int .i64 0)
        have HWZ := Lib.hid (put6_below HW9.out (Nat.le_refl _) (.int .i64 0) (.int .i64 0) (.int .i64 0) (.bool false) (.int .i64 0) (.int .i64 0))
        have hrun := run_loadVar_row (P := Try.prog) ((((((w9.setCell ⟨rb, 0, none⟩ (.int .i64 0)).setCell ⟨rb, 1, none⟩ (.int .i64 0)).setCell ⟨rb, 2, none⟩ (.int .i64 0)).setCell ⟨rb, 3, none⟩ (.bool false)).setCell ⟨rb, 4, none⟩ (.int .i64 0)).setCell ⟨rb, 5, none⟩ (.int .i64 0)) rb 57 57 #[.int .i64 0, .int .i64 0, .int .i64 0, .bool false, .int .i64 0, .int .i64 0] (0, 0) _ hz Try.underlying57 rfl h6
        generalize (((((w9.setCell ⟨rb, 0, none⟩ (.int .i64 0)).setCell ⟨rb, 1, none⟩ (.int .i64 0)).setCell ⟨rb, 2, none⟩ (.int .i64 0)).setCell ⟨rb, 3, none⟩ (.bool false)).setCell ⟨rb, 4, none⟩ (.int .i64 0)).setCell ⟨rb, 5, none⟩ (.int .i64 0) = w10 at *
        exact bodyPost_ret (v := .tuple #[.agg #[.int .i64 0, .int .i64 0, .int .i64 0, .bool false, .int .i64 0, .int .i64 0], .bool false, .bool false]) (by simp [results, Try.results95, asAddr, hrun]) rfl ⟨by rw [HRB.out]; exact HWZ.out, .inl ⟨HN.out, rfl⟩⟩
  · have HN := Lib.hid (unpackA_short (by omega : xs.length ≠ 28))
    have g1 : ((len : Int) != 28) = true := bne_iff_ne.2 (by omega)
    clear hxl h h28
    go_enter Try.func95, Try.ntmps95
    go_wp2
    exact bodyPost_ret (v := .tuple #[noArea, .bool false, .bool false]) (by simp [results, Try.results95, go_sem, noArea]) rfl ⟨hb _, .inl ⟨HN.out, rfl⟩⟩
end Go.Proofs.Ytldccemgfjmcdaa
