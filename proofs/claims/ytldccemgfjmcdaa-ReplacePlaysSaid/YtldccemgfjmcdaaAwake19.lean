/- Law 19: awake. -/
import Derived.Test.YtldccemgfjmcdaaLaw19
namespace Go.Proofs.Ytldccemgfjmcdaa
open Go.RowKit
set_option linter.unusedSimpArgs false
set_option linter.unusedVariables false

section
variable {w w' : World} {lb m c a b N : Nat} {L : LS}
theorem LandOf.thru (h : LandOf w lb m c a b N L) (hb : Below w.heap.size w w') : LandOf w' lb m c a b N L := by
  obtain ⟨σ, f, α, h1, h2, h3⟩ := h.land
  exact ⟨⟨σ, f, α, h1.thru hb, h2, h3⟩, Blk.thru h.top hb, h.off⟩
theorem LandOf.right (h : LandOf w lb m c a b N L) (hs : Small L) (hN : N ≤ 1000) {s : Nat} {hd : Int} (hh : L.has s hd) :
    Calls Try.prog 40 #[.pointer (some ⟨a, 0, none⟩), .int .i64 hd] w fun e w' => e = .returned (.bool true) ∧ w = w' := by
  obtain ⟨σ, f, α, h1, h2, h3⟩ := h.land
  obtain ⟨-, hr, -⟩ := h3.right hs hN hh
  have e : σ.ar = α := h2.2
  have hb := getD_small (i := s - 1) hs.1
  have hg := h3.gl
  refine (arena_right a b σ.ar hd w h1.ar (by have := hh.2.2.2; have := hh.2.1; omega)).mono ?_
  rintro e' w' ⟨rfl, h5⟩
  rw [e, hr]
  exact ⟨rfl, h5⟩
end
theorem has2 : (LS.new 3).take.2.has 2 65538 := ⟨by omega, by decide, by decide, by decide⟩
theorem take2 : (LS.new 3).take.1 = 65538 := by decide
theorem sm2 : Small (LS.new 3).take.2 := (LS.Sm.take (sm_new 3)).small (by omega)
set_option maxRecDepth 100000 in
set_option maxHeartbeats 2000000 in
theorem awake19 (w : World) : Calls Try.prog 37 #[] w fun e w' => e = .returned (.bool true) ∧ Below w.heap.size w w' := by
  have HN := Lib.hid (replace_new 3 w (WfI.of ⟨by omega, by omega⟩))
  go_enter Try.func37, Try.ntmps37
  go_wp2_with fail
  refine HN.out.mono ?_
  rintro e w1 ⟨lb, m, c, a, b, rfl, hb0, hnl⟩
  have HB0 := Lib.hid hb0
  have hnl3 : NewLand w1 w.heap.size lb m c a b 3 := hnl
  have HL0 := Lib.hid (hnl3.of (by decide) (by decide))
  have HNEW := Lib.hid hnl.new
  clear hb0 hnl hnl3 HN
  have HD := Lib.hid (do_take HL0.out (sm_new 3) (by omega) (by omega) 0 0 0 0 0 none)
  obtain ⟨d0, d1, d2⟩ := HL0.out.top.at3
  go_wp2_with fail
  refine HD.out.mono ?_
  rintro e w2 ⟨cs, n, rfl, hn, ⟨A, ec, rfl, -, -, -⟩, hl, hu⟩
  obtain rfl := hn (by decide)
  have HL := Lib.hid hl
  have HB := Lib.hid (below_upd HB0.out hu (Nat.le_refl _) (by
    have := HNEW.out
    intro x hx
    simp only [List.mem_cons, List.not_mem_nil, or_false] at hx
    omega))
  clear hu hl HD HL0 HB0 d0 d1 d2
  have HT2 := Lib.hid take2
  simp only [HT2.out, Int.cast_ofNat_Int]
  replace HL := Lib.hid (HL.out.thru (below_alloc0 w2 (.cells #[.int .i64 65538, .slice A 0 ec, .bool false, .int .i64 0] 84)))
  replace HB := Lib.hid (below_thru HB.out (below_alloc0 w2 (.cells #[.int .i64 65538, .slice A 0 ec, .bool false, .int .i64 0] 84)))
  have HRR := Lib.hid (Blk.new w2 84 #[.int .i64 65538, .slice A 0 ec, .bool false, .int .i64 0])
  go_upto_region 5 with fail
  have HZ := Lib.hid (World.size_alloc w2 (.cells #[.int .i64 65538, .slice A 0 ec, .bool false, .int .i64 0] 84))
  obtain ⟨rb, hrb⟩ : ∃ x, w2.heap.size = x := ⟨_, rfl⟩
  simp only [hrb] at HRR HZ ⊢
  replace hrb := Lib.hid hrb
  generalize w2.alloc (.cells #[.int .i64 65538, .slice A 0 ec, .bool false, .int .i64 0] 84) = w3 at *
  have HR := Lib.hid (HL.out.right sm2 (by omega) has2)
  obtain ⟨d0, d1, d2⟩ := HL.out.top.at3
  obtain ⟨f0, f1, f2, f3⟩ := HRR.out.at4
  go_wp2_with fail
  refine HR.out.mono ?_
  rintro e w4 ⟨rfl, rfl⟩
  go_wp2
  go_ret
  exact ⟨rfl, HB.out⟩
end Go.Proofs.Ytldccemgfjmcdaa
