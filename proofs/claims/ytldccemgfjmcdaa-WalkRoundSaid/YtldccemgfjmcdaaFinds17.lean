/- WalkFinds, walked. -/
import Derived.Test.YtldccemgfjmcdaaLaw17
namespace Go.Proofs.Ytldccemgfjmcdaa
open Go.RowKit
set_option linter.unusedSimpArgs false
set_option linter.unusedVariables false

/-- Slices of numbers, as they come in. -/
theorem RowsL.ofArg {w : World} {a : Option Addr} {len cap : Nat} {rows : List (RowV Int)} (h : ArgOf RowV.cells 1 (fun r => ArgInts .i64 w r.a r.len r.cap r.zs) w a len cap rows) : RowsL w a len cap rows :=
  ⟨⟨h.hl, h.le, h.hm, fun _ _ => trivial, h.reads⟩, h.good⟩
/-- A land of words of one's own, and what it is about. -/
structure LandOf (w wr : World) (A : Option Addr) (c : Nat) (rows : List (RowV Int)) (w2 : World) : Prop where
  low : Below w.heap.size w wr
  base : Below w2.heap.size w2 wr
  rows : RowsL w2 A rows.length c rows
theorem LandOf.thru {w wr w2 w' : World} {A : Option Addr} {c : Nat} {rows : List (RowV Int)} (h : LandOf w wr A c rows w2) (hb : Below wr.heap.size wr w') : LandOf w w' A c rows w2 := ⟨below_thru h.low hb, below_thru h.base hb, h.rows⟩
theorem LandOf.run {w wr w2 w' : World} {A : Option Addr} {c : Nat} {rows : List (RowV Int)} {m q a b : Nat} (h : LandOf w wr A c rows w2) (hu : Upd [m, q, a, b] wr w') (h0 : w.heap.size ≤ w2.heap.size) (hm : w2.heap.size ≤ m ∧ w2.heap.size ≤ q ∧ w2.heap.size ≤ a ∧ w2.heap.size ≤ b) : LandOf w w' A c rows w2 := by
  refine ⟨below_upd h.low hu (Nat.le_refl _) fun x hx => ?_, below_upd h.base hu (Nat.le_refl _) fun x hx => ?_, h.rows⟩
  all_goals
    simp only [List.mem_cons, List.not_mem_nil, or_false] at hx
    omega
theorem LandOf.at_ {w wr w2 : World} {A : Option Addr} {c : Nat} {rows : List (RowV Int)} (h : LandOf w wr A c rows w2) : RowsL wr A rows.length c rows := h.rows.below h.base
theorem pads_len {rows rs : List (RowV Int)} (h : rows.map (·.zs) = rs.map (fun r => pad28 r.zs)) : ∀ y ∈ rows.map (·.zs), y.length = 28 := by
  intro y hy
  rw [h] at hy
  obtain ⟨r, -, rfl⟩ := List.mem_map.1 hy
  exact pad28_len _
set_option maxRecDepth 100000 in
set_option maxHeartbeats 4000000 in
theorem finds17 (a : Option Addr) (len cap : Nat) (rs : List (RowV Int)) (root addr : Int) (w : World) (ha : ArgOf RowV.cells 1 (fun r => ArgInts .i64 w r.a r.len r.cap r.zs) w a len cap rs) (hr : (Lit.int .i64 root).wf = true) (_ : (Lit.int .i64 addr).wf = true) :
    Calls Try.prog 3 #[.slice a len cap, .int .i64 root, .int .i64 addr] w fun e w' => e = .returned (.bool true) ∧ Below w.heap.size w w' := by
  have HA := Lib.hid awake17
  have HH := Lib.hid (RowsL.ofArg ha)
  have HB := Lib.hid (Below.refl w.heap.size w)
  have HWR := Lib.hid (show WfI root from hr)
  have HFW := Lib.hid (fun w1 (h1 : Below w.heap.size w w1) => few17 a len cap rs w1 ((RowsL.ofArg ha).below h1))
  have HWD := Lib.hid (fun w1 (h1 : Below w.heap.size w w1) (hl : len ≤ 8) => words17 a len cap rs w1 ((RowsL.ofArg ha).below h1) hl)
  clear ha hr HH
  go_enter Try.func3, Try.ntmps3
  go_wp2_with fail
  refine (HA.out _).mono ?_
  rintro e w1 ⟨rfl, hb⟩
  replace HB := Lib.hid (below_thru HB.out hb)
  clear hb
  go_wp2_with fail
  refine (HFW.out w1 HB.out).mono ?_
  rintro e w2 ⟨rfl, b, rfl, hb8⟩
  clear HFW
  cases b with
  | false =>
    clear hb8 HWD
    go_wp2_with fail
    refine (HA.out _).mono ?_
    rintro e w9 ⟨rfl, hb⟩
    replace HB := Lib.hid (below_thru HB.out hb)
    clear hb
    go_wp2
    go_ret
    exact ⟨rfl, HB.out⟩
  | true =>
    replace hb8 := hb8 rfl
    have HWW := Lib.hid (HWD.out w2 HB.out hb8)
    clear HWD
    go_wp2_with fail
    refine HWW.out.mono ?_
    rintro e w3 ⟨A, c, rows, rfl, hws, hmap, hlen⟩
    have HN := Lib.hid (show rows.length ≤ 8 by omega)
    have HP := Lib.hid (pads_len hmap)
    have HR3 := Lib.hid hws.rowsL
    have HL3 := Lib.hid (show LandOf w w3 A c rows w3 from ⟨below_thru HB.out hws.low, Below.refl _ _, hws.rowsL⟩)
    have HG3 := Lib.hid HL3.out.low.size
    have H28 := Lib.hid (fun r hr => (hws.each r hr).1)
    clear hws hmap hlen hb8 HWW HB
    have HSL := Lib.hid (slots16' A rows.length c rows w3 HR3.out H28.out (by have := HN.out; omega))
    go_wp2_with fail
    refine (HSL.out).mono ?_
    rintro e w4 ⟨rfl, hb, hland⟩
    replace HL3 := Lib.hid (HL3.out.thru hb)
    clear hb
    have HLA := Lib.hid hland
    clear hland HSL
    obtain ⟨xs, hxs⟩ : ∃ xs, rows.map (·.zs) = xs := ⟨_, rfl⟩
    have HXL := Lib.hid (show xs.length ≤ 8 by rw [← hxs, List.length_map]; exact HN.out)
    rw [hxs] at HLA HP
    obtain ⟨st, k, hk, h80, ht, -⟩ := tells_goFind (xs := xs) HP.out (by have := HXL.out; omega) root addr
    have HRF := Lib.hid (fun w9 (h9 : RowsL w9 A rows.length c rows) => ref17_find A rows.length c rows root addr w9 h9 H28.out (by have := HN.out; omega) HWR.out)
    rw [hxs] at HRF
    obtain ⟨Q, hQ⟩ : ∃ Q, findP xs addr 8 root = Q := ⟨_, rfl⟩
    simp only [hQ] at ht h80 HRF
    clear hQ hxs
    obtain ⟨q0, q1, qn⟩ := Q
    simp only at ht h80
    have HT := Lib.hid (alone_tells root addr false (goFindR root addr) (goFind_free _ _) (runsFind root addr HWR.out) _ _ _ _ (land16 xs) none w4 HLA.out ht (by omega) (by rw [land16_count]; omega) (by rw [land16_count]; have := HXL.out; omega))
    have HQ := Lib.hid h80
    clear ht h80 hk
    go_wp2_with fail
    refine HT.out.mono ?_
    rintro e w5 ⟨cs, σ2, rfl, ⟨EA, ec, NA, nc, rfl, -, -, -⟩, -, -, -, -, hu⟩
    have HL5 := Lib.hid (HL3.out.run hu HG3.out (by omega))
    clear hu HT HLA HL3 HR3
    simp only
    replace HL5 := Lib.hid (HL5.out.thru (below_alloc0 w5 (.cells #[.int .i64 q0, .bool q1, .slice EA 0 ec, .slice NA 0 nc] 33)))
    have HRB := Lib.hid (Blk.new w5 33 #[.int .i64 q0, .bool q1, .slice EA 0 ec, .slice NA 0 nc])
    go_upto_region 6 with fail
    have HZ := Lib.hid (World.size_alloc w5 (.cells #[.int .i64 q0, .bool q1, .slice EA 0 ec, .slice NA 0 nc] 33))
    obtain ⟨rb, hrb⟩ : ∃ x, w5.heap.size = x := ⟨_, rfl⟩
    simp only [hrb] at HRB HZ ⊢
    replace hrb := Lib.hid hrb
    generalize w5.alloc (.cells #[.int .i64 q0, .bool q1, .slice EA 0 ec, .slice NA 0 nc] 33) = w6 at *
    go_wp2_with fail
    refine (HRF.out w6 HL5.out.at_).mono ?_
    rintro e w7 ⟨rfl, kk, rfl⟩
    have hq80 : (qn : Int) ≤ 80 := by have := HQ.out; omega
    have HE := Lib.hid (below_drewN HL5.out.low kk)
    obtain ⟨m0, m1, m2, m3⟩ := (HRB.out.drewN kk).at4
    go_wp2
    go_ret
    exact ⟨rfl, HE.out⟩
end Go.Proofs.Ytldccemgfjmcdaa
