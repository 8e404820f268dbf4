/- Layer 19: Give, ring, Retire. -/
import Derived.Test.YtldccemgfjmcdaaTake19
namespace Go.Proofs.Ytldccemgfjmcdaa
open Go.RowKit
set_option linter.unusedSimpArgs false
set_option linter.unusedVariables false

def UV : World → Unit → Value → Prop := Val fun _ => .tuple #[]
def giveR (h : Int) : Res LandS Unit := (ldR 21).bind fun v => (cstR h 0 v).bind fun _ => (stTellR 21 (slotOf h) fun α => α.died h).bind fun _ => .ret ()
theorem slotOf_wf (h : Int) : WfI (slotOf h) := WfI.of (by have := slotOf_lo h; omega)
theorem give_good (h : Int) : (giveR h).Good WfL := Good.bindW (ld_good _) (ld_wf _) fun v hv => Good.bind (cst_good _ _ hv) fun _ => Good.bind (stTell_good _ (slotOf_wf h) _) fun _ => trivial
theorem give_free (h : Int) : (giveR h).free := Res.bind_free (ld_free _) fun _ => Res.bind_free (cst_free _ _ _) fun _ => Res.bind_free (stTell_free _ _ _) fun _ => trivial
theorem take_free : takeR.free := Res.bind_free (ld_free _) fun s => by
  split
  · trivial
  · exact Res.bind_free (cld_free _ _) fun _ => Res.bind_free (cld_free _ _) fun _ => Res.bind_free (cst_free _ _ _) fun _ => Res.bind_free (stTell_free _ _ _) fun _ => trivial
set_option maxRecDepth 100000 in
set_option maxHeartbeats 4000000 in
theorem replace_give (h : Int) (p : Pl) (lb : Nat) (n : Int) (σ : LandS) (s : TrS) (F : List Nat) (N : Nat) (w : World) (ht : TL w p σ s F) (hi : s.In N) (hN : N ≤ 1000000) (hov : s.over = false)
    (hl : Blk w lb 93 #[.pointer (some ⟨p.m, 0, none⟩), .pointer (some ⟨p.a, 0, none⟩), .int .i64 n]) (hf : lb ∉ p.all F) (hh : WfI h) :
    Calls Try.prog 86 #[.pointer (some ⟨p.t, 0, none⟩), .pointer (some ⟨lb, 0, none⟩), .int .i64 h] w (DoesL UV w p σ s F (giveR h)) := by
  have W0 := Lib.hid (Wk.start ht hi hov hl hf (giveR h))
  have hv63 : h < 9223372036854775808 := by have := hh.bounds.2; omega
  clear ht hi hov hl hf
  have HC := Lib.hid (W0.out.cell h 0 hv63)
  have C0 := Lib.hid (W0.out.ld hN)
  obtain ⟨k0, k1, k2⟩ := W0.out.land.at3
  go_enter Try.func86, Try.ntmps86
  go_wp2_with fail
  refine HC.out.mono ?_
  rintro e w1 ⟨rfl, rfl⟩
  go_wp2_with fail
  refine C0.out.mono ?_
  rintro e w1 ⟨v, σ1, s1, F1, rfl, hv, hw, -, ha⟩
  have W1 := Lib.hid hw
  have HL := Lib.hid (W1.out.cst hv hN)
  rw [ha] at HL
  clear hw ha C0 W0 k0 k1 k2 HC
  go_wp2_with fail
  refine HL.out.mono ?_
  rintro e w2 ⟨rfl, σ2, s2, F2, hw, -, -⟩
  have W2 := Lib.hid hw
  have HSL := Lib.hid (fun w1 => arena_slot h w1 hv63)
  have HH := Lib.hid (W2.out.half (slotOf_wf h) hN)
  clear hw HL W1
  go_wp2_with fail
  refine (HSL.out _).mono ?_
  rintro e w3 ⟨rfl, rfl⟩
  go_wp2_with fail
  refine HH.out.mono ?_
  rintro e w3 ⟨rfl, σ3, s3, F3, hw, -, -⟩
  have H3 := Lib.hid hw
  have HFR := Lib.hid H3.out.fresh_ok
  clear hw HH W2
  cases hfr : s3.fresh with
  | false =>
    have HE := Lib.hid ((H3.out.not hfr).ends (R := UV) (x := .tuple #[]) rfl)
    rw [hfr] at HFR
    clear hfr H3
    go_wp2_with fail
    refine HFR.out.mono ?_
    rintro e w6 ⟨rfl, rfl⟩
    go_wp2
    go_end0
    exact HE.out
  | true =>
    have HDI := Lib.hid (arena_died p.a p.b σ3.ar h w3 H3.out.at_.tl.ar hv63)
    obtain ⟨k0, k1, k2⟩ := H3.out.land.at3
    rw [hfr] at HFR
    go_wp2_with fail
    refine HFR.out.mono ?_
    rintro e w6 ⟨rfl, rfl⟩
    go_wp2_with fail
    refine HDI.out.mono ?_
    rintro e w7 ⟨rfl, har, hu⟩
    have HE := Lib.hid (((H3.out.told hfr har hu).1).ends (R := UV) (x := .tuple #[]) rfl)
    clear har hu hfr H3 HDI HFR k0 k1 k2
    go_wp2
    go_end0
    exact HE.out

/-- Where the i-th handle of the ring stands. -/
def ringAt (n i : Int) : Int := 24 + 2 * (i % n)
theorem ringAt_lo {n : Int} (h1 : 1 ≤ n) (h2 : n ≤ 1000) (i : Int) : 24 ≤ ringAt n i ∧ ringAt n i ≤ 24 + 2 * 999 := by
  have a := Int.emod_nonneg i (show n ≠ 0 by omega)
  have b := Int.emod_lt_of_pos i (show 0 < n by omega)
  unfold ringAt
  omega
theorem ring_mod {n : Int} (h1 : 1 ≤ n) (i : Int) : (i.tmod n + n).tmod n = i % n := by
  have h0 : n ≠ 0 := by omega
  have a := Int.emod_nonneg i h0
  have b := Int.emod_lt_of_pos i (show 0 < n by omega)
  rcases Int.lt_or_le i 0 with hi | hi
  · have e1 : 0 ≤ i.tmod n + n := by
      have := Int.lt_tmod_of_pos i (show 0 < n by omega)
      omega
    rw [Int.tmod_eq_emod_of_nonneg e1, Int.add_emod_right, Int.tmod_def, Int.sub_mul_emod_self_left]
  · rw [Int.tmod_eq_emod_of_nonneg hi, Int.tmod_eq_emod_of_nonneg (by omega), Int.add_emod_right, Int.emod_emod]
theorem ring_fin {n : Int} (h1 : 1 ≤ n) (h2 : n ≤ 1000) (i : Int) : wrap64 (24 + wrap64 (2 * (i.tmod n % n))) = ringAt n i := by
  have e : i.tmod n % n = i % n := by rw [Int.tmod_def, Int.sub_mul_emod_self_left]
  have := ringAt_lo h1 h2 i
  unfold ringAt at this ⊢
  rw [e]
  unfold wrap64
  omega
theorem tmod_lo {n : Int} (h1 : 1 ≤ n) (i : Int) : -n < i.tmod n ∧ i.tmod n < n := ⟨Int.lt_tmod_of_pos i (by omega), Int.tmod_lt_of_pos i (by omega)⟩
set_option maxRecDepth 100000 in
theorem replace_ring (i : Int) (p : Pl) (lb : Nat) (n : Int) (w : World) (hl : Blk w lb 93 #[.pointer (some ⟨p.m, 0, none⟩), .pointer (some ⟨p.a, 0, none⟩), .int .i64 n]) (h1 : 1 ≤ n) (h2 : n ≤ 1000) (hi : WfI i) :
    Calls Try.prog 99 #[.pointer (some ⟨lb, 0, none⟩), .int .i64 i] w fun e w' => e = .returned (.int .i64 (ringAt n i)) ∧ w = w' := by
  obtain ⟨k0, k1, k2⟩ := hl.at3
  have b1 := tmod_lo h1 i
  have HM := Lib.hid (ring_mod h1 i)
  have HB := Lib.hid (ringAt_lo h1 h2 i)
  have HF := Lib.hid (ring_fin h1 h2 i)
  clear hl
  go_enter Try.func99, Try.ntmps99
  go_wp2
  go_ret
  exact ⟨ret_int HF.out, rfl⟩
def retireR (h tag n : Int) : Res LandS Unit := (ldR 23).bind fun tail => (stR (ringAt n tail) h).bind fun _ => (stR (ringAt n tail + 1) tag).bind fun _ => (stR 23 (wrap64 (tail + 1))).bind fun _ => .ret ()
theorem retire_good {h tag : Int} (hh : WfI h) (ht : WfI tag) (n : Int) : (retireR h tag n).Good WfL := Good.bind (ld_good _) fun v => Good.bind (st_good _ hh) fun _ => Good.bind (st_good _ ht) fun _ => Good.bind (st_good _ (WfI.wrap _)) fun _ => trivial
theorem retire_free (h tag n : Int) : (retireR h tag n).free := Res.bind_free (ld_free _) fun _ => Res.bind_free (st_free _ _) fun _ => Res.bind_free (st_free _ _) fun _ => Res.bind_free (st_free _ _) fun _ => trivial
set_option maxRecDepth 100000 in
set_option maxHeartbeats 4000000 in
theorem replace_retire (h tag : Int) (p : Pl) (lb : Nat) (n : Int) (σ : LandS) (s : TrS) (F : List Nat) (N : Nat) (w : World) (ht : TL w p σ s F) (hi : s.In N) (hN : N ≤ 1000000) (hov : s.over = false)
    (hl : Blk w lb 93 #[.pointer (some ⟨p.m, 0, none⟩), .pointer (some ⟨p.a, 0, none⟩), .int .i64 n]) (hf : lb ∉ p.all F) (h1 : 1 ≤ n) (h2 : n ≤ 1000) (hh : WfI h) (hg : WfI tag) :
    Calls Try.prog 87 #[.pointer (some ⟨p.t, 0, none⟩), .pointer (some ⟨lb, 0, none⟩), .int .i64 h, .int .i64 tag] w (DoesL UV w p σ s F (retireR h tag n)) := by
  have W0 := Lib.hid (Wk.start ht hi hov hl hf (retireR h tag n))
  have HH := Lib.hid hh
  have HG := Lib.hid hg
  have HN1 := Lib.hid h1
  have HN2 := Lib.hid h2
  clear ht hi hov hl hf hh hg h1 h2
  have C0 := Lib.hid (W0.out.ld hN)
  go_enter Try.func87, Try.ntmps87
  go_wp2_with fail
  refine C0.out.mono ?_
  rintro e w1 ⟨v, σ1, s1, F1, rfl, hv, hw, -, -⟩
  have hw := hw.eq (show _ = (stR (ringAt n v) h).bind fun _ => (stR (ringAt n v + 1) tag).bind fun _ => (stR 23 (wrap64 (v + 1))).bind fun _ => .ret () from rfl)
  have W1 := Lib.hid hw
  have HR := Lib.hid (replace_ring v p lb n w1 hw.land HN1.out HN2.out hv)
  have HB := ringAt_lo HN1.out HN2.out v
  obtain ⟨at_, hat⟩ : ∃ x, ringAt n v = x := ⟨_, rfl⟩
  rw [hat] at HR HB W1
  obtain ⟨hb1, hb2⟩ := HB
  have HL := Lib.hid (W1.out.st HH.out hN)
  clear hw C0 W0 hat hv
  go_wp2_with fail
  refine HR.out.mono ?_
  rintro e w2 ⟨rfl, rfl⟩
  go_wp2_with fail
  refine HL.out.mono ?_
  rintro e w2 ⟨rfl, σ2, s2, F2, hw, -, -⟩
  have W2 := Lib.hid hw
  have HL := Lib.hid (W2.out.st HG.out hN)
  clear hw HR W1
  go_wp2_with fail
  refine HL.out.mono ?_
  rintro e w3 ⟨rfl, σ3, s3, F3, hw, -, -⟩
  have W3 := Lib.hid hw
  have HL := Lib.hid (W3.out.st (WfI.wrap _) hN)
  clear hw W2
  go_wp2_with fail
  refine HL.out.mono ?_
  rintro e w4 ⟨rfl, σ4, s4, F4, hw, -, -⟩
  have HE := Lib.hid (hw.ends (R := UV) (x := .tuple #[]) rfl)
  clear hw W3
  go_wp2
  go_end0
  exact HE.out
/-- Words are written, one by one. -/
def writeR (h : Int) : Nat → List Int → Res LandS Unit
  | _, [] => .ret ()
  | i, w :: ws => (cstTellR h (i : Int) w fun α => α.touch h).bind fun _ => writeR h (i + 1) ws
theorem write_good (h : Int) : ∀ i ws, (∀ x ∈ ws, WfI x) → (writeR h i ws).Good WfL
  | _, [], _ => trivial
  | i, w :: ws, hw => Good.bind (cstTell_good _ _ (hw w List.mem_cons_self) _) fun _ => write_good h (i + 1) ws fun x hx => hw x (List.mem_cons_of_mem _ hx)
theorem write_free (h : Int) : ∀ i ws, (writeR h i ws).free
  | _, [] => trivial
  | i, w :: ws => Res.bind_free (cstTell_free _ _ _ _) fun _ => write_free h (i + 1) ws
end Go.Proofs.Ytldccemgfjmcdaa
