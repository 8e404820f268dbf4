/- Layers 6, 7: the references' pages: Attr, After. -/
import Derived.Test.YtohidmkfpaiklaaList7
import Derived.Test.YtohidmkfpaiklaaArea2
namespace Go.Proofs.Ytohidmkfpaiklaa
open Go.RowKit
set_option linter.unusedSimpArgs false
set_option linter.unusedVariables false

/-- What a page has. -/
structure AttrV where
  prot : Int
  shared : Bool
  back : Int
  off : Int
deriving DecidableEq
def AttrV.cells (x : AttrV) : Array Value := #[.int .i64 x.prot, .bool x.shared, .int .i64 x.back, .int .i64 x.off]
def AttrV.zero : AttrV := ⟨0, false, 0, 0⟩
/-- The attribute of a page of an area. -/
def AreaV.at_ (a : AreaV) (p : Int) : AttrV := ⟨a.prot, a.shared, a.back, if 0 < a.back then a.off + 4096 * (p - a.start / 4096) else 0⟩
def AreaV.hasPage (a : AreaV) (p : Int) : Bool := decide (a.start / 4096 ≤ p) && decide (p < a.stop / 4096)
def AttrV.next (x : AttrV) : AttrV := { x with off := if 0 < x.back then x.off + 4096 else x.off }
theorem tdiv_pos {x : Int} (h : 0 ≤ x) : x.tdiv 4096 = x / 4096 := Int.tdiv_eq_ediv_of_nonneg h
theorem Blk.puts4 {w : World} {b : Nat} {ty : TypeId} {a0 a1 a2 a3 : Value} (h : Blk w b ty #[a0, a1, a2, a3]) (v0 v1 v2 v3 : Value) : Blk ((((w.setCell ⟨b, 0, none⟩ v0).setCell ⟨b, 1, none⟩ v1).setCell ⟨b, 2, none⟩ v2).setCell ⟨b, 3, none⟩ v3) b ty #[v0, v1, v2, v3] :=
  (((h.put 0 v0).put 1 v1).put 2 v2).put 3 v3
theorem puts4_below {B : Nat} {w w' : World} {b : Nat} (h : Below B w w') (hb : B ≤ b) (v0 v1 v2 v3 : Value) : Below B w ((((w'.setCell ⟨b, 0, none⟩ v0).setCell ⟨b, 1, none⟩ v1).setCell ⟨b, 2, none⟩ v2).setCell ⟨b, 3, none⟩ v3) :=
  (((h.setCell (p := ⟨b, 0, none⟩) hb v0).setCell (p := ⟨b, 1, none⟩) hb v1).setCell (p := ⟨b, 2, none⟩) hb v2).setCell (p := ⟨b, 3, none⟩) hb v3
theorem size_attr : (Try.prog.info? 121).map (·.size) = some 4 := by kernel_rfl
set_option maxRecDepth 100000 in
theorem ref06_attr (a : AreaV) (p : Int) (w : World) (hf : a.formedB = true) (hp0 : 0 ≤ p) (hp : p ≤ 600) :
    Calls Try.prog 70 #[.agg (areaCells a), .int .i64 p] w fun e w' => e = .returned (.tuple #[.agg (if a.hasPage p = true then a.at_ p else .zero).cells, .bool (a.hasPage p)]) ∧ Below w.heap.size w w' := by
  have hi := a.formed_iff.1 hf
  clear hf
  obtain ⟨start, stop, prot, shared, back, off⟩ := a
  simp only at hi
  obtain ⟨h1, h2, h3, h4', h5, h6, h7, h8, h9, h10, h11, h12, h13⟩ := hi
  simp only [areaCells, AreaV.hasPage, AreaV.at_]
  have e1 : start.tdiv 4096 = start / 4096 := tdiv_pos (by omega)
  have e2 : stop.tdiv 4096 = stop / 4096 := tdiv_pos (by omega)
  have HB := Lib.hid (Below.refl w.heap.size w)
  by_cases hlo : p < start / 4096
  · have c1 : decide (start / 4096 ≤ p) = false := decide_eq_false (by omega)
    rw [c1]
    clear c1
    simp only [Bool.false_and, Bool.and_false, Bool.false_eq_true, if_false, AttrV.cells, AttrV.zero]
    go_enter Try.func70, Try.ntmps70
    replace HB := Lib.hid (below_thru HB.out (below_alloc0 w (.cells #[.int .i64 start, .int .i64 stop, .int .i64 prot, .bool shared, .int .i64 back, .int .i64 off] 79)))
    have HX := Lib.hid (Blk.new w 79 #[.int .i64 start, .int .i64 stop, .int .i64 prot, .bool shared, .int .i64 back, .int .i64 off])
    go_upto_region 1 with fail
    have HZ := Lib.hid (World.size_alloc w (.cells #[.int .i64 start, .int .i64 stop, .int .i64 prot, .bool shared, .int .i64 back, .int .i64 off] 79))
    obtain ⟨x, hx⟩ : ∃ x, w.heap.size = x := ⟨_, rfl⟩
    simp only [hx] at HX HZ ⊢
    replace hx := Lib.hid hx
    generalize w.alloc (.cells #[.int .i64 start, .int .i64 stop, .int .i64 prot, .bool shared, .int .i64 back, .int .i64 off] 79) = w1 at *
    replace HB := Lib.hid (below_thru HB.out (below_alloc0 w1 (.cells #[.int .i64 0, .bool false, .int .i64 0, .int .i64 0] 121)))
    replace HX := Lib.hid (HX.out.thru (below_alloc0 w1 (.cells #[.int .i64 0, .bool false, .int .i64 0, .int .i64 0] 121)))
    have HY := Lib.hid (Blk.new w1 121 #[.int .i64 0, .bool false, .int .i64 0, .int .i64 0])
    rw [HZ.out] at HY
    try simp only [HZ.out]
    replace HZ := Lib.hid (show (w1.alloc (.cells #[.int .i64 0, .bool false, .int .i64 0, .int .i64 0] 121)).heap.size = x + 1 + 1 by rw [World.size_alloc, HZ.out])
    generalize w1.alloc (.cells #[.int .i64 0, .bool false, .int .i64 0, .int .i64 0] 121) = w2 at *
    obtain ⟨k0, k1, k2, k3, k4, k5⟩ := HX.out.at6
    obtain ⟨m0, m1, m2, m3⟩ := HY.out.at4
    obtain ⟨f0, f1, f2, f3⟩ := HY.out.fr4
    go_wp2
    have hz := HY.out.puts4 (.int .i64 0) (.bool false) (.int .i64 0) (.int .i64 0)
    have HBF := Lib.hid (puts4_below HB.out (show w.heap.size ≤ x + 1 by rw [hx.out]; exact Nat.le_succ _) (.int .i64 0) (.bool false) (.int .i64 0) (.int .i64 0))
    have hrun := run_loadVar_row (P := Try.prog) ((((w2.setCell ⟨x + 1, 0, none⟩ (.int .i64 0)).setCell ⟨x + 1, 1, none⟩ (.bool false)).setCell ⟨x + 1, 2, none⟩ (.int .i64 0)).setCell ⟨x + 1, 3, none⟩ (.int .i64 0)) (x + 1) 121 121 #[.int .i64 0, .bool false, .int .i64 0, .int .i64 0] (0, 0) _ hz Try.underlying121 rfl size_attr
    generalize ((((w2.setCell ⟨x + 1, 0, none⟩ (.int .i64 0)).setCell ⟨x + 1, 1, none⟩ (.bool false)).setCell ⟨x + 1, 2, none⟩ (.int .i64 0)).setCell ⟨x + 1, 3, none⟩ (.int .i64 0)) = wz at *
    exact bodyPost_ret (v := .tuple #[.agg #[.int .i64 0, .bool false, .int .i64 0, .int .i64 0], .bool false]) (by simp [results, Try.results70, asAddr, hrun]) rfl ⟨rfl, HBF.out⟩
  · have c1 : decide (start / 4096 ≤ p) = true := decide_eq_true (by omega)
    rw [c1]
    clear c1
    by_cases hhi : p < stop / 4096
    · have g1 : decide (stop / 4096 ≤ p) = false := decide_eq_false (by omega)
      rw [decide_eq_true hhi]
      simp only [Bool.true_and, if_true, AttrV.cells]
      by_cases hb0 : 0 < back
      · rw [if_pos hb0]
        obtain ⟨v, hv⟩ : ∃ v, off + 4096 * (p - start / 4096) = v := ⟨_, rfl⟩
        rw [hv]
        have HV := Lib.hid hv
        clear hv
        go_enter Try.func70, Try.ntmps70
        replace HB := Lib.hid (below_thru HB.out (below_alloc0 w (.cells #[.int .i64 start, .int .i64 stop, .int .i64 prot, .bool shared, .int .i64 back, .int .i64 off] 79)))
        have HX := Lib.hid (Blk.new w 79 #[.int .i64 start, .int .i64 stop, .int .i64 prot, .bool shared, .int .i64 back, .int .i64 off])
        go_upto_region 1 with fail
        have HZ := Lib.hid (World.size_alloc w (.cells #[.int .i64 start, .int .i64 stop, .int .i64 prot, .bool shared, .int .i64 back, .int .i64 off] 79))
        obtain ⟨x, hx⟩ : ∃ x, w.heap.size = x := ⟨_, rfl⟩
        simp only [hx] at HX HZ ⊢
        replace hx := Lib.hid hx
        generalize w.alloc (.cells #[.int .i64 start, .int .i64 stop, .int .i64 prot, .bool shared, .int .i64 back, .int .i64 off] 79) = w1 at *
        replace HB := Lib.hid (below_thru HB.out (below_alloc0 w1 (.cells #[.int .i64 0, .bool false, .int .i64 0, .int .i64 0] 121)))
        replace HX := Lib.hid (HX.out.thru (below_alloc0 w1 (.cells #[.int .i64 0, .bool false, .int .i64 0, .int .i64 0] 121)))
        have HY := Lib.hid (Blk.new w1 121 #[.int .i64 0, .bool false, .int .i64 0, .int .i64 0])
        rw [HZ.out] at HY
        try simp only [HZ.out]
        replace HZ := Lib.hid (show (w1.alloc (.cells #[.int .i64 0, .bool false, .int .i64 0, .int .i64 0] 121)).heap.size = x + 1 + 1 by rw [World.size_alloc, HZ.out])
        generalize w1.alloc (.cells #[.int .i64 0, .bool false, .int .i64 0, .int .i64 0] 121) = w2 at *
        obtain ⟨k0, k1, k2, k3, k4, k5⟩ := HX.out.at6
        go_upto_region 4 with fail
        clear k0 k1 k2 k3 k4 k5
        replace HB := Lib.hid (below_thru HB.out (below_alloc0 w2 (.cells #[.int .i64 prot, .bool shared, .int .i64 back, .int .i64 0] 121)))
        replace HX := Lib.hid (HX.out.thru (below_alloc0 w2 (.cells #[.int .i64 prot, .bool shared, .int .i64 back, .int .i64 0] 121)))
        replace HY := Lib.hid (HY.out.thru (below_alloc0 w2 (.cells #[.int .i64 prot, .bool shared, .int .i64 back, .int .i64 0] 121)))
        have HA := Lib.hid (Blk.new w2 121 #[.int .i64 prot, .bool shared, .int .i64 back, .int .i64 0])
        rw [HZ.out] at HA
        try simp only [HZ.out]
        replace HZ := Lib.hid (show (w2.alloc (.cells #[.int .i64 prot, .bool shared, .int .i64 back, .int .i64 0] 121)).heap.size = x + 1 + 1 + 1 by rw [World.size_alloc, HZ.out])
        generalize w2.alloc (.cells #[.int .i64 prot, .bool shared, .int .i64 back, .int .i64 0] 121) = w3 at *
        obtain ⟨k0, k1, k2, k3, k4, k5⟩ := HX.out.at6
        have fa := HA.out.free 3
        obtain ⟨g0, -, -, g3⟩ := HA.out.at4
        have ew1 : IntKind.i64.wrap (p - start / 4096) = p - start / 4096 := IntWalk.i64_in _ (by omega)
        have ew2 : IntKind.i64.wrap (4096 * (p - start / 4096)) = 4096 * (p - start / 4096) := IntWalk.i64_in _ (by omega)
        have h13' := h13 (by omega)
        have ew3 : IntKind.i64.wrap (off + 4096 * (p - start / 4096)) = v := (IntWalk.i64_in _ (by omega)).trans HV.out
        go_upto_region 6 with fail
        clear ew1 ew2 ew3 g0 g3
        have HA4 := Lib.hid (HA.out.put 3 (.int .i64 v))
        have HY4 := Lib.hid (HY.out.far (p := ⟨x + 1 + 1, 3, none⟩) (show x + 1 ≠ x + 1 + 1 by omega) (.int .i64 v))
        have HB4 := Lib.hid (HB.out.setCell (p := ⟨x + 1 + 1, 3, none⟩) (show w.heap.size ≤ x + 1 + 1 by rw [hx.out]; omega) (.int .i64 v))
        clear k0 k1 k2 k3 k4 k5
        clear HA HY HB HX HZ fa
        generalize w3.setCell ⟨x + 1 + 1, 3, none⟩ (.int .i64 v) = w4 at *
        simp only [List.setIfInBounds_toArray, List.set_cons_zero, List.set_cons_succ] at HA4
        have HY := HY4
        have HB := HB4
        obtain ⟨m0, m1, m2, m3⟩ := HY4.out.at4
        obtain ⟨q0, q1, q2, q3⟩ := HA4.out.at4
        obtain ⟨f0, f1, f2, f3⟩ := HY4.out.fr4
        go_wp2
        have hz := HY.out.puts4 (.int .i64 prot) (.bool shared) (.int .i64 back) (.int .i64 v)
        have HBF := Lib.hid (puts4_below HB.out (show w.heap.size ≤ x + 1 by rw [hx.out]; exact Nat.le_succ _) (.int .i64 prot) (.bool shared) (.int .i64 back) (.int .i64 v))
        have hrun := run_loadVar_row (P := Try.prog) ((((w4.setCell ⟨x + 1, 0, none⟩ (.int .i64 prot)).setCell ⟨x + 1, 1, none⟩ (.bool shared)).setCell ⟨x + 1, 2, none⟩ (.int .i64 back)).setCell ⟨x + 1, 3, none⟩ (.int .i64 v)) (x + 1) 121 121 #[.int .i64 prot, .bool shared, .int .i64 back, .int .i64 v] (0, 0) _ hz Try.underlying121 rfl size_attr
        generalize ((((w4.setCell ⟨x + 1, 0, none⟩ (.int .i64 prot)).setCell ⟨x + 1, 1, none⟩ (.bool shared)).setCell ⟨x + 1, 2, none⟩ (.int .i64 back)).setCell ⟨x + 1, 3, none⟩ (.int .i64 v)) = wz at *
        exact bodyPost_ret (v := .tuple #[.agg #[.int .i64 prot, .bool shared, .int .i64 back, .int .i64 v], .bool true]) (by simp [results, Try.results70, asAddr, hrun]) rfl ⟨rfl, HBF.out⟩
      · rw [if_neg hb0]
        go_enter Try.func70, Try.ntmps70
        replace HB := Lib.hid (below_thru HB.out (below_alloc0 w (.cells #[.int .i64 start, .int .i64 stop, .int .i64 prot, .bool shared, .int .i64 back, .int .i64 off] 79)))
        have HX := Lib.hid (Blk.new w 79 #[.int .i64 start, .int .i64 stop, .int .i64 prot, .bool shared, .int .i64 back, .int .i64 off])
        go_upto_region 1 with fail
        have HZ := Lib.hid (World.size_alloc w (.cells #[.int .i64 start, .int .i64 stop, .int .i64 prot, .bool shared, .int .i64 back, .int .i64 off] 79))
        obtain ⟨x, hx⟩ : ∃ x, w.heap.size = x := ⟨_, rfl⟩
        simp only [hx] at HX HZ ⊢
        replace hx := Lib.hid hx
        generalize w.alloc (.cells #[.int .i64 start, .int .i64 stop, .int .i64 prot, .bool shared, .int .i64 back, .int .i64 off] 79) = w1 at *
        replace HB := Lib.hid (below_thru HB.out (below_alloc0 w1 (.cells #[.int .i64 0, .bool false, .int .i64 0, .int .i64 0] 121)))
        replace HX := Lib.hid (HX.out.thru (below_alloc0 w1 (.cells #[.int .i64 0, .bool false, .int .i64 0, .int .i64 0] 121)))
        have HY := Lib.hid (Blk.new w1 121 #[.int .i64 0, .bool false, .int .i64 0, .int .i64 0])
        rw [HZ.out] at HY
        try simp only [HZ.out]
        replace HZ := Lib.hid (show (w1.alloc (.cells #[.int .i64 0, .bool false, .int .i64 0, .int .i64 0] 121)).heap.size = x + 1 + 1 by rw [World.size_alloc, HZ.out])
        generalize w1.alloc (.cells #[.int .i64 0, .bool false, .int .i64 0, .int .i64 0] 121) = w2 at *
        obtain ⟨k0, k1, k2, k3, k4, k5⟩ := HX.out.at6
        go_upto_region 4 with fail
        clear k0 k1 k2 k3 k4 k5
        replace HB := Lib.hid (below_thru HB.out (below_alloc0 w2 (.cells #[.int .i64 prot, .bool shared, .int .i64 back, .int .i64 0] 121)))
        replace HX := Lib.hid (HX.out.thru (below_alloc0 w2 (.cells #[.int .i64 prot, .bool shared, .int .i64 back, .int .i64 0] 121)))
        replace HY := Lib.hid (HY.out.thru (below_alloc0 w2 (.cells #[.int .i64 prot, .bool shared, .int .i64 back, .int .i64 0] 121)))
        have HA := Lib.hid (Blk.new w2 121 #[.int .i64 prot, .bool shared, .int .i64 back, .int .i64 0])
        rw [HZ.out] at HA
        try simp only [HZ.out]
        replace HZ := Lib.hid (show (w2.alloc (.cells #[.int .i64 prot, .bool shared, .int .i64 back, .int .i64 0] 121)).heap.size = x + 1 + 1 + 1 by rw [World.size_alloc, HZ.out])
        generalize w2.alloc (.cells #[.int .i64 prot, .bool shared, .int .i64 back, .int .i64 0] 121) = w3 at *
        obtain ⟨k0, k1, k2, k3, k4, k5⟩ := HX.out.at6
        go_upto_region 6 with fail
        obtain ⟨m0, m1, m2, m3⟩ := HY.out.at4
        obtain ⟨q0, q1, q2, q3⟩ := HA.out.at4
        obtain ⟨f0, f1, f2, f3⟩ := HY.out.fr4
        go_wp2
        have hz := HY.out.puts4 (.int .i64 prot) (.bool shared) (.int .i64 back) (.int .i64 0)
        have HBF := Lib.hid (puts4_below HB.out (show w.heap.size ≤ x + 1 by rw [hx.out]; exact Nat.le_succ _) (.int .i64 prot) (.bool shared) (.int .i64 back) (.int .i64 0))
        have hrun := run_loadVar_row (P := Try.prog) ((((w3.setCell ⟨x + 1, 0, none⟩ (.int .i64 prot)).setCell ⟨x + 1, 1, none⟩ (.bool shared)).setCell ⟨x + 1, 2, none⟩ (.int .i64 back)).setCell ⟨x + 1, 3, none⟩ (.int .i64 0)) (x + 1) 121 121 #[.int .i64 prot, .bool shared, .int .i64 back, .int .i64 0] (0, 0) _ hz Try.underlying121 rfl size_attr
        generalize ((((w3.setCell ⟨x + 1, 0, none⟩ (.int .i64 prot)).setCell ⟨x + 1, 1, none⟩ (.bool shared)).setCell ⟨x + 1, 2, none⟩ (.int .i64 back)).setCell ⟨x + 1, 3, none⟩ (.int .i64 0)) = wz at *
        exact bodyPost_ret (v := .tuple #[.agg #[.int .i64 prot, .bool shared, .int .i64 back, .int .i64 0], .bool true]) (by simp [results, Try.results70, asAddr, hrun]) rfl ⟨rfl, HBF.out⟩
    · have g1 : decide (stop / 4096 ≤ p) = true := decide_eq_true (by omega)
      rw [decide_eq_false hhi]
      simp only [Bool.false_and, Bool.and_false, Bool.false_eq_true, if_false, AttrV.cells, AttrV.zero]
      go_enter Try.func70, Try.ntmps70
      replace HB := Lib.hid (below_thru HB.out (below_alloc0 w (.cells #[.int .i64 start, .int .i64 stop, .int .i64 prot, .bool shared, .int .i64 back, .int .i64 off] 79)))
      have HX := Lib.hid (Blk.new w 79 #[.int .i64 start, .int .i64 stop, .int .i64 prot, .bool shared, .int .i64 back, .int .i64 off])
      go_upto_region 1 with fail
      have HZ := Lib.hid (World.size_alloc w (.cells #[.int .i64 start, .int .i64 stop, .int .i64 prot, .bool shared, .int .i64 back, .int .i64 off] 79))
      obtain ⟨x, hx⟩ : ∃ x, w.heap.size = x := ⟨_, rfl⟩
      simp only [hx] at HX HZ ⊢
      replace hx := Lib.hid hx
      generalize w.alloc (.cells #[.int .i64 start, .int .i64 stop, .int .i64 prot, .bool shared, .int .i64 back, .int .i64 off] 79) = w1 at *
      replace HB := Lib.hid (below_thru HB.out (below_alloc0 w1 (.cells #[.int .i64 0, .bool false, .int .i64 0, .int .i64 0] 121)))
      replace HX := Lib.hid (HX.out.thru (below_alloc0 w1 (.cells #[.int .i64 0, .bool false, .int .i64 0, .int .i64 0] 121)))
      have HY := Lib.hid (Blk.new w1 121 #[.int .i64 0, .bool false, .int .i64 0, .int .i64 0])
      rw [HZ.out] at HY
      try simp only [HZ.out]
      replace HZ := Lib.hid (show (w1.alloc (.cells #[.int .i64 0, .bool false, .int .i64 0, .int .i64 0] 121)).heap.size = x + 1 + 1 by rw [World.size_alloc, HZ.out])
      generalize w1.alloc (.cells #[.int .i64 0, .bool false, .int .i64 0, .int .i64 0] 121) = w2 at *
      obtain ⟨k0, k1, k2, k3, k4, k5⟩ := HX.out.at6
      obtain ⟨m0, m1, m2, m3⟩ := HY.out.at4
      obtain ⟨f0, f1, f2, f3⟩ := HY.out.fr4
      go_wp2
      have hz := HY.out.puts4 (.int .i64 0) (.bool false) (.int .i64 0) (.int .i64 0)
      have HBF := Lib.hid (puts4_below HB.out (show w.heap.size ≤ x + 1 by rw [hx.out]; exact Nat.le_succ _) (.int .i64 0) (.bool false) (.int .i64 0) (.int .i64 0))
      have hrun := run_loadVar_row (P := Try.prog) ((((w2.setCell ⟨x + 1, 0, none⟩ (.int .i64 0)).setCell ⟨x + 1, 1, none⟩ (.bool false)).setCell ⟨x + 1, 2, none⟩ (.int .i64 0)).setCell ⟨x + 1, 3, none⟩ (.int .i64 0)) (x + 1) 121 121 #[.int .i64 0, .bool false, .int .i64 0, .int .i64 0] (0, 0) _ hz Try.underlying121 rfl size_attr
      generalize ((((w2.setCell ⟨x + 1, 0, none⟩ (.int .i64 0)).setCell ⟨x + 1, 1, none⟩ (.bool false)).setCell ⟨x + 1, 2, none⟩ (.int .i64 0)).setCell ⟨x + 1, 3, none⟩ (.int .i64 0)) = wz at *
      exact bodyPost_ret (v := .tuple #[.agg #[.int .i64 0, .bool false, .int .i64 0, .int .i64 0], .bool false]) (by simp [results, Try.results70, asAddr, hrun]) rfl ⟨rfl, HBF.out⟩
set_option maxRecDepth 100000 in
theorem ref06_after (x y : AttrV) (w : World) (h0 : 0 ≤ x.off) (h1 : x.off ≤ 1099511627776) :
    Calls Try.prog 71 #[.agg x.cells, .agg y.cells] w fun e w' => e = .returned (.bool (decide (x.next = y))) ∧ Below w.heap.size w w' := by
  obtain ⟨x0, x1, x2, x3⟩ := x
  obtain ⟨y0, y1, y2, y3⟩ := y
  simp only [AttrV.cells, AttrV.next] at *
  have HB := Lib.hid (Below.refl w.heap.size w)
  obtain ⟨v, hv⟩ : ∃ v, (if 0 < x2 then x3 + 4096 else x3) = v := ⟨_, rfl⟩
  rw [hv]
  obtain ⟨R, hR⟩ : ∃ R, decide ((⟨x0, x1, x2, v⟩ : AttrV) = ⟨y0, y1, y2, y3⟩) = R := ⟨_, rfl⟩
  rw [hR]
  have HR := Lib.hid hR
  have HV := Lib.hid hv
  clear hR hv
  go_enter Try.func71, Try.ntmps71
  replace HB := Lib.hid (below_thru HB.out (below_alloc0 w (.cells #[.int .i64 x0, .bool x1, .int .i64 x2, .int .i64 x3] 121)))
  have HX := Lib.hid (Blk.new w 121 #[.int .i64 x0, .bool x1, .int .i64 x2, .int .i64 x3])
  go_upto_region 1 with fail
  have HZ := Lib.hid (World.size_alloc w (.cells #[.int .i64 x0, .bool x1, .int .i64 x2, .int .i64 x3] 121))
  obtain ⟨x, hx⟩ : ∃ x, w.heap.size = x := ⟨_, rfl⟩
  simp only [hx] at HX HZ ⊢
  replace hx := Lib.hid hx
  generalize w.alloc (.cells #[.int .i64 x0, .bool x1, .int .i64 x2, .int .i64 x3] 121) = w1 at *
  replace HB := Lib.hid (below_thru HB.out (below_alloc0 w1 (.cells #[.int .i64 y0, .bool y1, .int .i64 y2, .int .i64 y3] 121)))
  replace HX := Lib.hid (HX.out.thru (below_alloc0 w1 (.cells #[.int .i64 y0, .bool y1, .int .i64 y2, .int .i64 y3] 121)))
  have HY := Lib.hid (Blk.new w1 121 #[.int .i64 y0, .bool y1, .int .i64 y2, .int .i64 y3])
  rw [HZ.out] at HY
  try simp only [HZ.out]
  replace HZ := Lib.hid (show (w1.alloc (.cells #[.int .i64 y0, .bool y1, .int .i64 y2, .int .i64 y3] 121)).heap.size = x + 1 + 1 by rw [World.size_alloc, HZ.out])
  generalize w1.alloc (.cells #[.int .i64 y0, .bool y1, .int .i64 y2, .int .i64 y3] 121) = w2 at *
  obtain ⟨k0, k1, k2, k3⟩ := HX.out.at4
  obtain ⟨m0, m1, m2, m3⟩ := HY.out.at4
  go_upto_region 2 with fail
  clear k0 k1 k2 k3
  clear m0 m1 m2 m3
  replace HB := Lib.hid (below_thru HB.out (below_alloc0 w2 (.cells #[.int .i64 x0, .bool x1, .int .i64 x2, .int .i64 x3] 121)))
  replace HX := Lib.hid (HX.out.thru (below_alloc0 w2 (.cells #[.int .i64 x0, .bool x1, .int .i64 x2, .int .i64 x3] 121)))
  replace HY := Lib.hid (HY.out.thru (below_alloc0 w2 (.cells #[.int .i64 x0, .bool x1, .int .i64 x2, .int .i64 x3] 121)))
  have HA := Lib.hid (Blk.new w2 121 #[.int .i64 x0, .bool x1, .int .i64 x2, .int .i64 x3])
  rw [HZ.out] at HA
  try simp only [HZ.out]
  replace HZ := Lib.hid (show (w2.alloc (.cells #[.int .i64 x0, .bool x1, .int .i64 x2, .int .i64 x3] 121)).heap.size = x + 1 + 1 + 1 by rw [World.size_alloc, HZ.out])
  generalize w2.alloc (.cells #[.int .i64 x0, .bool x1, .int .i64 x2, .int .i64 x3] 121) = w3 at *
  obtain ⟨k0, k1, k2, k3⟩ := HX.out.at4
  obtain ⟨m0, m1, m2, m3⟩ := HY.out.at4
  obtain ⟨q0, q1, q2, q3⟩ := HA.out.at4
  have fa := HA.out.free 3
  have ew : IntKind.i64.wrap (x3 + 4096) = x3 + 4096 := IntWalk.i64_in _ (by omega)
  have HBS := Lib.hid (fun u => HB.out.setCell (p := ⟨x + 1 + 1, 3, none⟩) (show w.heap.size ≤ x + 1 + 1 by rw [hx.out]; omega) u)
  go_wp2
  all_goals go_ret
  all_goals first
    | exact ⟨ret_bool (by rw [← HR.out, ← HV.out]; (try simp_all); all_goals (try split); all_goals (try simp_all); all_goals (try omega)), HBS.out _⟩
    | exact ⟨ret_bool (by rw [← HR.out, ← HV.out]; (try simp_all); all_goals (try split); all_goals (try simp_all); all_goals (try omega)), HB.out⟩
end Go.Proofs.Ytohidmkfpaiklaa
