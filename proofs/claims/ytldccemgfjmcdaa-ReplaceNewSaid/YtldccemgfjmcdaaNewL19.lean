/- ReplaceNew. -/
import Derived.Test.YtldccemgfjmcdaaSame19
import Derived.Deep.RegionHeld3
namespace Go.Proofs.Ytldccemgfjmcdaa
open Go.RowKit
set_option linter.unusedSimpArgs false
set_option linter.unusedVariables false

theorem MemIs.row {μ : MemS} {len : Nat} {f : Nat → Int} (h : MemIs μ len f) {i n : Nat} (hi : i + n ≤ len) : (μ.look (i : Int) (n : Int)).length = n ∧ ∀ k, k < n → ((μ.look (i : Int) (n : Int)).map (Value.int .i64))[k]? = some (.int .i64 (f (i + k))) := by
  obtain ⟨h1, h2⟩ := h.look hi
  exact ⟨h1, fun k hk => by rw [nums_atL (by omega), h2 k hk]⟩
theorem newF_word {N k : Nat} (h1 : 1 ≤ N) (hk : k < 27) : newF N (24 + 2 * N + k) = wholeN.pack.getD k 0 := by
  unfold newF
  rw [if_neg (by omega), if_neg (by omega), if_neg (by omega), if_neg (by omega), if_pos (by omega), if_neg (by omega), show 24 + 2 * N + k - (24 + 2 * N) = k by omega]
theorem newA_cell {N : Nat} (h1 : 1 ≤ N) (h2 : N ≤ 1000) : (newA N).cell 65537 0 = (cl N 1 0 : Nat) := (rel_new N h1 h2).cell (wd := 0) (by omega) h1 (by omega) (by decide)
theorem size_is {P : Program} {f : FuncId} {args : Array Value} {w : World} {k N : Nat} (hk : k = 24 + 30 * N) (h : Calls P f args w fun e w' => e = .returned (.int .i64 (k : Int)) ∧ w = w') : Calls P f args w fun e w' => e = .returned (.int .i64 (24 + 30 * (N : Int))) ∧ w = w' :=
  h.mono fun e w' ⟨h1, h2⟩ => ⟨by rw [h1, hk]; congr 2, h2⟩
/-- What the last test reads. -/
def HeldN (lb m a N g5 gw : Nat) (x : World) : Prop :=
  x.cell? ⟨lb, 0, none⟩ = some (.pointer (some ⟨m, 0, none⟩)) ∧ x.cell? ⟨lb, 1, none⟩ = some (.pointer (some ⟨a, 0, none⟩)) ∧ x.cell? ⟨lb, 2, none⟩ = some (.int .i64 N) ∧ x.cell? ⟨g5, 2, none⟩ = some (.int .i64 65537) ∧ x.cell? ⟨g5, 3, none⟩ = some (.int .i64 65536) ∧
    x.cell? ⟨gw, 0, none⟩ = some (.int .i64 17) ∧ x.cell? ⟨gw, 1, none⟩ = some (.int .i64 65536) ∧ x.cell? ⟨gw, 2, none⟩ = some (.int .i64 2097152) ∧ x.cell? ⟨gw, 10, none⟩ = some (.int .i64 0) ∧ x.cell? ⟨gw, 18, none⟩ = some (.int .i64 2031616)
structure NewAt (w0 w : World) (lb m c a b N g5 c5 gw cw : Nat) (σ : LandS) : Prop where
  low : Below w0.heap.size w0 w
  land : LandAt w m c a b σ
  top : LandB w lb m a N
  r5 : Row w 2 1 g5 5 c5 ((σ.mu.look 0 5).map (Value.int .i64))
  rw_ : Row w 2 1 gw 28 cw ((σ.mu.look (σ.ar.cell 65537 0) 28).map (Value.int .i64))
theorem NewAt.thru {w0 w w' : World} {lb m c a b N g5 c5 gw cw : Nat} {σ : LandS} (h : NewAt w0 w lb m c a b N g5 c5 gw cw σ) (hb : Below w.heap.size w w') : NewAt w0 w' lb m c a b N g5 c5 gw cw σ :=
  ⟨below_thru h.low hb, h.land.thru hb, Blk.thru h.top hb, h.r5.thru hb, h.rw_.thru hb⟩
theorem NewAt.held {w0 w : World} {lb m c a b N g5 c5 gw cw : Nat} {σ : LandS} (h : NewAt w0 w lb m c a b N g5 c5 gw cw σ) (hm : MemIs σ.mu (24 + 30 * N) (newF N)) (ha : σ.ar = newA N) (h1 : 1 ≤ N) (h2 : N ≤ 1000) : HeldN lb m a N g5 gw w := by
  obtain ⟨d0, d1, d2⟩ := Blk.at3 h.top
  obtain ⟨-, e5⟩ := hm.row (i := 0) (n := 5) (by omega)
  have hc : σ.ar.cell 65537 0 = (cl N 1 0 : Nat) := by
    rw [ha, newA_cell h1 h2]
  have hw := h.rw_
  rw [hc] at hw
  obtain ⟨-, ew⟩ := hm.row (i := cl N 1 0) (n := 28) (by unfold cl; omega)
  have word : ∀ k v, k < 27 → wholeN.pack.getD k 0 = v → w.cell? ⟨gw, k, none⟩ = some (.int .i64 v) := fun k v hk hv => by
    have := ew k (by omega)
    rw [show cl N 1 0 + k = 24 + 2 * N + k by unfold cl; omega, newF_word h1 hk, hv] at this
    exact hw.cell this
  have e2 := e5 2 (by omega)
  have e3 := e5 3 (by omega)
  rw [show newF N (0 + 2) = 65537 by rfl] at e2
  rw [show newF N (0 + 3) = 65536 by rfl] at e3
  exact ⟨d0, d1, d2, h.r5.cell e2, h.r5.cell e3, word 0 17 (by omega) (by decide), word 1 65536 (by omega) (by decide), word 2 2097152 (by omega) (by decide), word 10 0 (by omega) (by decide), word 18 2031616 (by omega) (by decide)⟩
set_option maxRecDepth 100000 in
set_option maxHeartbeats 4000000 in
theorem walk_ReplaceNew (n : Int) (w : World) (hn : (Lit.int .i64 n).wf = true) :
    Calls Try.prog 13 #[.int .i64 n] w fun e w' => e = .returned (.bool true) ∧ Below w.heap.size w w' := by
  have HB := Lib.hid (Below.refl w.heap.size w)
  have HWN := Lib.hid (show WfI n from hn)
  obtain ⟨N, hN⟩ : ∃ N, capL n = N := ⟨_, rfl⟩
  have hNb := capL_lo n
  rw [hN] at hNb
  have HCN := Lib.hid hN
  clear hN hn
  go_enter Try.func13, Try.ntmps13
  go_wp2_with fail
  refine (awake19 w).mono ?_
  rintro e w1 ⟨rfl, hb⟩
  replace HB := Lib.hid (below_thru HB.out hb)
  clear hb
  have HN := Lib.hid (replace_new n w1 HWN.out)
  rw [HCN.out] at HN
  go_wp2_with fail
  refine HN.out.mono ?_
  rintro e w2 ⟨lb, m, c, a, b, rfl, hb0, hnl⟩
  obtain ⟨σ, hla, hmi, har⟩ := hnl.land
  have HL0 := Lib.hid (hnl.of hNb.1 hNb.2)
  have HL := Lib.hid hla
  have HMI := Lib.hid hmi
  have HAR := Lib.hid har
  have HTOP := Lib.hid hnl.top
  have HB2 := Lib.hid (below_thru HB.out hb0)
  have hNi : (N : Int) ≤ 1000 := by omega
  have hN1i : (1 : Int) ≤ N := by omega
  clear hb0 hnl HN HB hla hmi har
  obtain ⟨d0, d1, d2⟩ := HTOP.out.at3
  have HLL := Lib.hid ((HMI.out.row (i := 0) (n := 5) (by omega)).1)
  have HK := Lib.hid (cell_look_as m c σ.mu 0 5 _ 5 rfl HLL.out w2 HL.out.mem)
  go_wp2_with fail
  refine HK.out.mono ?_
  rintro e w3 ⟨g5, c5, rfl, -, hrow5, hb⟩
  have HR5 := Lib.hid hrow5
  have HB3 := Lib.hid hb
  clear HK hrow5 hb d0 d1 d2
  have HLW := Lib.hid (show (σ.mu.look (σ.ar.cell 65537 0) 28).length = 28 by
    rw [HAR.out, newA_cell hNb.1 hNb.2]
    exact (HMI.out.row (i := cl N 1 0) (n := 28) (by unfold cl; omega)).1)
  have HC := Lib.hid (Calls.turn (arena_cell a b σ.ar 65537 0 w3.drew ((HL.out.thru HB3.out).ar.drewN 1) (by omega)))
  have HK := Lib.hid (cell_look_as m c σ.mu (σ.ar.cell 65537 0) 28 _ 28 rfl HLW.out w3.drew ((HL.out.thru HB3.out).mem.drewN 1))
  obtain ⟨d0, d1, d2⟩ := (Blk.drew (Blk.thru HTOP.out HB3.out)).at3
  go_upto_region 5 with fail
  refine wp_region_still_tail 9 (by kernel_rfl) (by kernel_rfl) ?_
  simp only [List.take_succ_cons, List.take_zero, List.drop_succ_cons, List.drop_zero]
  repeat (first | still_call (HC.out) | still_step)
  try refine wpStill_nil ?_
  change wpList _ _ _ _ _ w3.drew
  clear d0 d1 d2 HC
  go_wp2_with fail
  refine HK.out.mono ?_
  rintro e w4 ⟨gw, cw, rfl, -, hroww, hb⟩
  have hb34 : Below w3.heap.size w3 w4 := below_thru (below_drewN0 w3 1) hb
  have HLO := Lib.hid ((HL0.out.thru HB3.out).thru hb34)
  have HNA := Lib.hid (show NewAt w w4 lb m c a b N g5 c5 gw cw σ from ⟨below_thru (below_thru HB2.out HB3.out) hb34, (HL.out.thru HB3.out).thru hb34, Blk.thru (Blk.thru HTOP.out HB3.out) hb34, HR5.out.thru hb34, hroww⟩)
  have HSM := Lib.hid ((sm_new N).small (by omega))
  clear HK hroww hb hb34 HR5 HB2 HB3 HL HTOP HLL HLW
  go_upto_region 8 with fail
  have H0 := Lib.hid (HNA.out.thru (below_drewN0 w4 1))
  have HRN := Lib.hid (fun (wx : World) => ref19_new n [] wx (by simp))
  rw [HCN.out] at HRN
  have ew1 : IntKind.i64.wrap (30 * (N : Int)) = 30 * (N : Int) := IntWalk.i64_in _ (by omega)
  have ew2 : IntKind.i64.wrap (24 + 30 * (N : Int)) = 24 + 30 * (N : Int) := IntWalk.i64_in _ (by omega)
  have HSIZE := Lib.hid (fun (wx : World) (hm : MemAt wx m c σ.mu) => size_is (HMI.out.1) (cell_size m c σ.mu wx hm))
  go_region_held3 (fun x => x.cell? ⟨lb, 0, none⟩ = some (.pointer (some ⟨m, 0, none⟩)) ∧ x.cell? ⟨lb, 1, none⟩ = some (.pointer (some ⟨a, 0, none⟩)) ∧ x.cell? ⟨lb, 2, none⟩ = some (.int .i64 N) ∧ x.cell? ⟨g5, 2, none⟩ = some (.int .i64 65537) ∧ x.cell? ⟨g5, 3, none⟩ = some (.int .i64 65536) ∧ x.cell? ⟨gw, 0, none⟩ = some (.int .i64 17) ∧ x.cell? ⟨gw, 1, none⟩ = some (.int .i64 65536) ∧ x.cell? ⟨gw, 2, none⟩ = some (.int .i64 2097152) ∧ x.cell? ⟨gw, 10, none⟩ = some (.int .i64 0) ∧ x.cell? ⟨gw, 18, none⟩ = some (.int .i64 2031616)) (first | exact HNA.out.held HMI.out HAR.out hNb.1 hNb.2 | exact H0.out.held HMI.out HAR.out hNb.1 hNb.2 | exact H1.out.held HMI.out HAR.out hNb.1 hNb.2 | exact H2.out.held HMI.out HAR.out hNb.1 hNb.2) (first
    | ((go_at_call 49); refine (same19 lb m c a b N _ rb (LS.new N) [] _ HLO1.out hNb.1 hNb.2 HSM.out HRA.out).mono ?_; rintro e wb ⟨rfl, hbb⟩; have H2 := Lib.hid (H1.out.thru hbb))
    | ((go_at_call 51); refine (HSIZE.out _ H2.out.land.mem).mono ?_; rintro e wc ⟨rfl, rfl⟩)
    | ((go_at_call 43); refine (HRN.out _).mono ?_; rintro e wa ⟨rb, rfl, hra, hoa⟩; have HRA := Lib.hid hra; have H1 := Lib.hid (H0.out.thru (hoa.below (Nat.le_refl _))); have HLO1 := Lib.hid ((HLO.out.thru (below_drewN0 w4 1)).thru (hoa.below (Nat.le_refl _)))))
  go_wp2
  go_ret
  exact ⟨rfl, H2.out.low⟩
end Go.Proofs.Ytldccemgfjmcdaa
