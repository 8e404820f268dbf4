/- Layer 16's seek: Read, head, Look, as tasks on a land. -/
import Derived.Test.YtldccemgfjmcdaaLandRun
namespace Go.Proofs.Ytldccemgfjmcdaa
open Go.RowKit
set_option linter.unusedSimpArgs false
set_option linter.unusedVariables false

def dRead (hd word : Int) : LandS → Int × Bool × LandS := fun σ => ((σ.mu.load (σ.ar.cell hd word)).1, true, ⟨(σ.mu.load (σ.ar.cell hd word)).2.2, σ.ar.touch hd⟩)
def readR (hd word : Int) : Res LandS Int := .acc (dRead hd word) .ret
/-- An int64. -/
def RV : World → Int → Value → Prop := fun _ v x => x = .int .i64 v ∧ WfI v

theorem acc_congr {σ : Type} {d d' : σ → Int × Bool × σ} {x : σ} (s : TrS) (h : d x = d' x) : s.acc d x = s.acc d' x := by unfold TrS.acc; rw [h]
theorem load_wf {μ : MemS} (h : WfM μ) (i : Int) : WfI (μ.load i).1 ∧ WfM (μ.load i).2.2 := by
  unfold MemS.load
  split
  · rename_i hh
    obtain ⟨k, rfl, hk⟩ := MemS.has_iff hh
    refine ⟨?_, h⟩
    unfold MemS.get
    simp only [List.getD_eq_getElem?_getD, Int.toNat_natCast, List.getElem?_eq_getElem hk, Option.getD_some]
    exact h _ (List.getElem_mem _)
  · exact ⟨WfI.zero, h⟩
theorem read_good (hd word : Int) : (readR hd word).Good WfL := ⟨fun x hx => load_wf hx _, fun _ _ => trivial⟩
theorem readR_free (hd word : Int) : (readR hd word).free := ⟨fun _ => rfl, fun _ => trivial⟩
theorem dload_good (i : Int) : ∀ x, WfM x → WfI (dLoad i x).1 ∧ WfM (dLoad i x).2.2 := fun x hx => load_wf hx i

theorem seek_read (hd word : Int) (p : Pl) (σ : LandS) (s : TrS) (F : List Nat) (w : World) (h : TL w p σ s F) (ho : s.Ok) (hh : hd < 9223372036854775808) :
    Calls Try.prog 81 #[.pointer (some ⟨p.t, 0, none⟩), .pointer (some ⟨p.a, 0, none⟩), .int .i64 hd, .int .i64 word] w (DoesL RV w p σ s F (readR hd word)) := by
  have HC := Lib.hid (arena_cell p.a p.b σ.ar hd word w h.ar hh)
  have HL := Lib.hid (t_load p.m p.c p.t σ.mu s F (σ.ar.cell hd word) w h.tm ho)
  obtain ⟨q, hq⟩ : ∃ q, s.acc (dLoad (σ.ar.cell hd word)) σ.mu = q := ⟨_, rfl⟩
  have hgood := acc_good (dload_good (σ.ar.cell hd word)) h.wm h.wt
  rw [hq] at HL hgood
  have HG := Lib.hid hgood
  have hacc : s.acc (dRead hd word) σ = (q.1, ⟨q.2.1, if q.2.2.fresh = true then σ.ar.touch hd else σ.ar⟩, q.2.2) := by
    rw [acc_congr s (show dRead hd word σ = tellD (dLoad (σ.ar.cell hd word)) (·.touch hd) σ from rfl), acc_tell, hq]
  have HS := Lib.hid (show (readR hd word).run σ s = (q.1, ⟨q.2.1, if q.2.2.fresh = true then σ.ar.touch hd else σ.ar⟩, q.2.2) by
    simp only [readR, Res.run]
    rw [hacc])
  have H0 := Lib.hid h
  clear hq hgood hacc h ho
  generalize σ.ar.cell hd word = i at *
  go_enter Try.func81, Try.ntmps81
  go_wp2_with fail
  refine HC.out.mono ?_
  rintro e w1 ⟨rfl, rfl⟩
  go_wp2_with fail
  refine HL.out.mono ?_
  rintro e w1 ⟨rfl, ht⟩
  obtain ⟨F1, h1, hF1, hu1⟩ := TLs.of_tm H0.out ht HG.out.2.1 HG.out.2.2
  have H1 := Lib.hid h1
  have HF1 := Lib.hid hF1
  have HFR := Lib.hid (t_fresh p.m p.c p.t q.2.1 q.2.2 F1 w1 h1.tm)
  clear ht h1 hF1
  cases hfr : q.2.2.fresh with
  | false =>
    rw [hfr] at HFR HS
    clear hfr
    go_wp2_with fail
    refine HFR.out.mono ?_
    rintro e w2 ⟨rfl, rfl⟩
    go_wp2
    go_ret
    exact ⟨q.1, _, _, _, rfl, ⟨rfl, HG.out.1⟩, by rw [HS.out]; exact Sim.refl _, F1, H1.out, HF1.out, hu1⟩
  | true =>
    rw [hfr] at HFR HS
    clear hfr
    have HT := Lib.hid (arena_touch p.a p.b σ.ar hd w1 H1.out.ar hh)
    go_wp2_with fail
    refine HFR.out.mono ?_
    rintro e w2 ⟨rfl, rfl⟩
    go_wp2_with fail
    refine HT.out.mono ?_
    rintro e w2 ⟨rfl, har, hu2⟩
    have H2 := Lib.hid (H1.out.with_ar har hu2)
    clear har
    go_wp2
    go_ret
    exact ⟨q.1, _, _, _, rfl, ⟨rfl, HG.out.1⟩, by rw [HS.out]; exact Sim.refl _, F1, H2.out, HF1.out, hu1.trans (hu2.mono (by simp [Pl.all]))⟩

def isHead (v : Int) : Bool := decide (17 ≤ v) && decide (v ≤ 130) && (decide (v % 16 = 1) || decide (v % 16 = 2))
def headOf (v : Int) : Bool × Nat := if isHead v = true then (v % 16 == 2, (v / 16).toNat) else (false, 0)
def headR (hd : Int) : Res LandS (Bool × Nat) := (readR hd 0).bind fun v => .ret (headOf v)
def HV : World → Bool × Nat → Value → Prop := fun _ v x => x = .tuple #[.bool v.1, .int .i64 v.2] ∧ v.2 ≤ 8
theorem headOf_le (v : Int) : (headOf v).2 ≤ 8 := by
  unfold headOf isHead
  split
  · rename_i h
    simp only [Bool.and_eq_true, decide_eq_true_eq] at h
    simp only
    omega
  · simp
theorem headOf_no {v : Int} (h : ¬ (17 ≤ v ∧ v ≤ 130 ∧ (v % 16 = 1 ∨ v % 16 = 2))) : headOf v = (false, 0) := by
  unfold headOf isHead
  rw [if_neg]
  intro hh
  simp only [Bool.and_eq_true, Bool.or_eq_true, decide_eq_true_eq] at hh
  exact h ⟨hh.1.1, hh.1.2, hh.2⟩
theorem headOf_yes {v : Int} (h : 17 ≤ v ∧ v ≤ 130 ∧ (v % 16 = 1 ∨ v % 16 = 2)) : headOf v = (v % 16 == 2, (v / 16).toNat) := by
  unfold headOf isHead
  rw [if_pos]
  simp only [Bool.and_eq_true, Bool.or_eq_true, decide_eq_true_eq]
  exact ⟨⟨h.1, h.2.1⟩, h.2.2⟩
theorem tmod_neg {v : Int} (h : v < 0) : v.tmod 16 ≤ 0 := by
  rw [show v = -(-v) by omega, Int.neg_tmod]
  have := Int.tmod_nonneg (a := -v) 16 (by omega)
  omega
theorem head_good (hd : Int) : (headR hd).Good WfL := Good.bind (read_good _ _) fun _ => trivial
theorem head_free (hd : Int) : (headR hd).free := Res.bind_free (readR_free _ _) fun _ => trivial
theorem seek_head (hd : Int) (p : Pl) (σ : LandS) (s : TrS) (F : List Nat) (n : Nat) (w : World) (h : TL w p σ s F) (hi : s.In n) (hn : n ≤ 1000000) (hov : s.over = false) (hh : hd < 9223372036854775808) :
    Calls Try.prog 94 #[.pointer (some ⟨p.t, 0, none⟩), .pointer (some ⟨p.a, 0, none⟩), .int .i64 hd] w (DoesL HV w p σ s F (headR hd)) := by
  have a0 := AtL.first h hi hov
  have HR := Lib.hid (seek_read hd 0 p σ s F w h (a0.ok hn) hh)
  clear h hi hov
  have A0 := Lib.hid a0
  clear a0
  go_enter Try.func94, Try.ntmps94
  go_wp2_with fail
  refine HR.out.mono ?_
  rintro e w1 hd1
  obtain ⟨v, x, σ1, s1, F1, rfl, ⟨rfl, hwf⟩, hsim, a1⟩ := A0.out.does hd1
  have HD := Lib.hid (t_dry p.m p.c p.t σ1.mu s1 F1 w1 a1.tl.tm)
  have ho1 := a1.over
  rw [ho1, Bool.not_false, Bool.and_true] at HD
  have HX := Lib.hid (GoesL.bind (f := fun v => Res.ret (headOf v)) hsim)
  have A1 := Lib.hid a1
  obtain ⟨hv0, hv1⟩ := hwf.bounds
  clear hwf hsim a1 hd1 ho1
  cases hdry : s1.dry with
  | true =>
    rw [hdry] at HD
    have HE := Lib.hid (show DoesL HV w p σ s F (headR hd) (.returned (.tuple #[.bool false, .int .i64 0])) w1 from ⟨(false, 0), _, _, _, rfl, ⟨rfl, by simp⟩, HX.out.end_dry hdry _, A1.out.tls⟩)
    clear hdry hv0 hv1
    go_upto_region 3 with fail
    go_wp2_with fail
    refine HD.out.mono ?_
    rintro e w2 ⟨rfl, rfl⟩
    go_wp2
    go_ret2
    exact HE.out
  | false =>
    rw [hdry] at HD
    clear hdry
    by_cases hv : 0 ≤ v
    · have HE := Lib.hid (show ∀ b k, (17 ≤ v ∧ v ≤ 130 ∧ (v % 16 = 1 ∨ v % 16 = 2)) → b = (v % 16 == 2) → k = v / 16 → DoesL HV w p σ s F (headR hd) (.returned (.tuple #[.bool b, .int .i64 k])) w1 from by
        rintro b k hy rfl rfl
        refine ⟨headOf v, _, _, _, rfl, ⟨?_, headOf_le v⟩, HX.out.end_ret, A1.out.tls⟩
        rw [headOf_yes hy]
        simp only
        rw [Int.toNat_of_nonneg (by omega)])
      have HN := Lib.hid (show ¬ (17 ≤ v ∧ v ≤ 130 ∧ (v % 16 = 1 ∨ v % 16 = 2)) → DoesL HV w p σ s F (headR hd) (.returned (.tuple #[.bool false, .int .i64 0])) w1 from fun hno =>
        ⟨(false, 0), _, _, _, rfl, ⟨rfl, by simp⟩, by have := HX.out.end_ret; rw [headOf_no hno] at this; exact this, A1.out.tls⟩)
      go_upto_region 3 with fail
      go_wp2_with fail
      refine HD.out.mono ?_
      rintro e w2 ⟨rfl, rfl⟩
      go_wp2
      all_goals go_ret2
      all_goals first
        | exact HN.out (by omega)
        | exact HE.out _ _ (by omega) (by simp [*]) rfl
    · have HE := Lib.hid (show DoesL HV w p σ s F (headR hd) (.returned (.tuple #[.bool false, .int .i64 0])) w1 from
        ⟨(false, 0), _, _, _, rfl, ⟨rfl, by simp⟩, by have := HX.out.end_ret; rw [headOf_no (by omega)] at this; exact this, A1.out.tls⟩)
      have hm := tmod_neg (v := v) (by omega)
      have g1 : (v.tmod 16 != 1) = true := bne_iff_ne.2 (by omega)
      have g2 : (v.tmod 16 != 2) = true := bne_iff_ne.2 (by omega)
      clear hm
      go_upto_region 3 with fail
      go_wp2_with fail
      refine HD.out.mono ?_
      rintro e w2 ⟨rfl, rfl⟩
      go_wp2
      go_ret2
      exact HE.out

/-- The entry of an address, from the i-th on. -/
def lookFrom (hd addr : Int) (inner : Bool) (i : Nat) : Nat → Res LandS (Int × Bool × Bool)
  | 0 => .ret (0, false, false)
  | k + 1 => (readR hd (2 + (i : Int))).bind fun e => if e ≤ addr then lookFrom hd addr inner (i + 1) k else (readR hd (10 + (i : Int))).bind fun v => .ret (v, inner, true)
def lookR (hd addr : Int) : Res LandS (Int × Bool × Bool) := (headR hd).bind fun b => lookFrom hd addr b.1 0 b.2
def LV : World → Int × Bool × Bool → Value → Prop := fun _ v x => x = .tuple #[.int .i64 v.1, .bool v.2.1, .bool v.2.2] ∧ WfI v.1
theorem lookFrom_good (hd addr : Int) (inner : Bool) : ∀ k i, (lookFrom hd addr inner i k).Good WfL
  | 0, _ => trivial
  | k + 1, i => Good.bind (read_good _ _) fun e => by
    split
    · exact lookFrom_good hd addr inner k (i + 1)
    · exact Good.bind (read_good _ _) fun _ => trivial
theorem look_good (hd addr : Int) : (lookR hd addr).Good WfL := Good.bind (head_good _) fun b => lookFrom_good _ _ _ _ _
theorem lookFrom_free (hd addr : Int) (inner : Bool) : ∀ k i, (lookFrom hd addr inner i k).free
  | 0, _ => trivial
  | k + 1, i => Res.bind_free (readR_free _ _) fun e => by
    split
    · exact lookFrom_free hd addr inner k (i + 1)
    · exact Res.bind_free (readR_free _ _) fun _ => trivial
theorem look_free (hd addr : Int) : (lookR hd addr).free := Res.bind_free (head_free _) fun b => lookFrom_free _ _ _ _ _
set_option maxRecDepth 100000 in
set_option maxHeartbeats 1000000 in
theorem seek_look (hd addr : Int) (p : Pl) (σ : LandS) (s : TrS) (F : List Nat) (n : Nat) (w : World) (h : TL w p σ s F) (hi : s.In n) (hn : n ≤ 1000000) (hov : s.over = false) (hh : hd < 9223372036854775808) :
    Calls Try.prog 78 #[.pointer (some ⟨p.t, 0, none⟩), .pointer (some ⟨p.a, 0, none⟩), .int .i64 hd, .int .i64 addr] w (DoesL LV w p σ s F (lookR hd addr)) := by
  have A0 := Lib.hid (AtL.first h hi hov)
  have HR := Lib.hid (seek_head hd p σ s F n w h hi hn hov hh)
  clear h hi hov
  go_enter Try.func78, Try.ntmps78
  go_wp2_with fail
  refine HR.out.mono ?_
  rintro e w1 hd1
  obtain ⟨⟨inner, k⟩, x, σ1, s1, F1, rfl, ⟨rfl, hk8⟩, hsim, a1⟩ := A0.out.does hd1
  have HX := Lib.hid (GoesL.bind (f := fun b => lookFrom hd addr b.1 0 b.2) hsim)
  have A1 := Lib.hid a1
  have hk8i : (k : Int) ≤ 8 := by simp only at hk8; omega
  clear hsim a1 hd1 HR
  go_wp2_with fail
  go_loopw [24] (fun i wr => ∃ (j : Nat) (σ' : LandS) (s' : TrS) (F' : List Nat), j ≤ k ∧ i = .int .i64 j ∧ AtL w wr p σ' s' F F' n ∧ GoesL (lookR hd addr) σ s (lookFrom hd addr inner j (k - j)) σ' s') (fun i _ => k - (intOf i).toNat)
  case atStart => exact ⟨0, σ1, s1, F1, Nat.zero_le _, rfl, A1.out, HX.out⟩
  case round =>
    clear A1 HX
    obtain ⟨j, σ', s', F', hj, rfl, a1, hgo⟩ := hrel
    have HG := Lib.hid hgo
    have A1 := Lib.hid a1
    clear hgo
    by_cases hlt : j < k
    · have HR := Lib.hid (seek_read hd (2 + (j : Int)) p σ' s' F' wr a1.tl (a1.ok hn) hh)
      have e : lookFrom hd addr inner j (k - j) = (readR hd (2 + (j : Int))).bind fun e => if e ≤ addr then lookFrom hd addr inner (j + 1) (k - (j + 1)) else (readR hd (10 + (j : Int))).bind fun v => .ret (v, inner, true) := by
        rw [show k - j = (k - (j + 1)) + 1 by omega]
        rfl
      have HGE := Lib.hid (HG.out.eq e)
      clear a1 e
      go_wp2_with fail
      refine HR.out.mono ?_
      rintro e w2 hd2
      obtain ⟨v, x, σ2, s2, F2, rfl, ⟨rfl, hwf⟩, hsim, a2⟩ := A1.out.does hd2
      have HX := Lib.hid (HGE.out.trans (GoesL.bind hsim))
      have A2 := Lib.hid a2
      have HD := Lib.hid (t_dry p.m p.c p.t σ2.mu s2 F2 w2 a2.tl.tm)
      rw [a2.over, Bool.not_false, Bool.and_true] at HD
      clear hwf hsim a2 hd2 HG HGE HR A1
      cases hdry : s2.dry with
      | true =>
        rw [hdry] at HD
        have HE := Lib.hid (HX.out.dry (r'' := lookFrom hd addr inner (j + 1) (k - (j + 1))) hdry)
        clear hdry HX
        go_upto_region 6 with fail
        go_wp2_with fail
        refine HD.out.mono ?_
        rintro e w3 ⟨rfl, rfl⟩
        go_wp2
        go_roundw
        case rel => exact ⟨j + 1, σ2, s2, F2, by omega, by go_num, A2.out, HE.out⟩
        case measure => simp [intOf]; omega
      | false =>
        rw [hdry] at HD
        by_cases hle : v ≤ addr
        · have HE := Lib.hid (HX.out.eq (if_pos hle))
          clear hdry HX
          go_upto_region 6 with fail
          go_wp2_with fail
          refine HD.out.mono ?_
          rintro e w3 ⟨rfl, rfl⟩
          go_wp2
          go_roundw
          case rel => exact ⟨j + 1, σ2, s2, F2, by omega, by go_num, A2.out, HE.out⟩
          case measure => simp [intOf]; omega
        · have HE := Lib.hid (HX.out.eq (if_neg hle))
          have HR := Lib.hid (seek_read hd (10 + (j : Int)) p σ2 s2 F2 w2 A2.out.tl (A2.out.ok hn) hh)
          clear hdry HX
          go_upto_region 6 with fail
          go_wp2_with fail
          refine HD.out.mono ?_
          rintro e w3 ⟨rfl, rfl⟩
          go_wp2_with fail
          refine HR.out.mono ?_
          rintro e w3 hd3
          obtain ⟨v3, x, σ3, s3, F3, rfl, ⟨rfl, hwf⟩, hsim, a3⟩ := A2.out.does hd3
          have HX := Lib.hid (HE.out.trans (GoesL.bind hsim))
          have A3 := Lib.hid a3
          have HW := Lib.hid hwf
          have HD := Lib.hid (t_dry p.m p.c p.t σ3.mu s3 F3 w3 a3.tl.tm)
          rw [a3.over, Bool.not_false, Bool.and_true] at HD
          clear hwf hsim a3 hd3 HE HR A2
          cases hdry : s3.dry with
          | true =>
            rw [hdry] at HD
            have HE := Lib.hid (show DoesL LV w p σ s F (lookR hd addr) (.returned (.tuple #[.int .i64 0, .bool false, .bool false])) w3 from ⟨(0, false, false), _, _, _, rfl, ⟨rfl, WfI.zero⟩, HX.out.end_dry hdry _, A3.out.tls⟩)
            clear hdry HX HW
            go_wp2_with fail
            refine HD.out.mono ?_
            rintro e w4 ⟨rfl, rfl⟩
            go_wp2
            go_ret3
            exact HE.out
          | false =>
            rw [hdry] at HD
            have HE := Lib.hid (show DoesL LV w p σ s F (lookR hd addr) (.returned (.tuple #[.int .i64 v3, .bool inner, .bool true])) w3 from ⟨(v3, inner, true), _, _, _, rfl, ⟨rfl, HW.out⟩, HX.out.end_ret, A3.out.tls⟩)
            clear hdry HX HW
            go_wp2_with fail
            refine HD.out.mono ?_
            rintro e w4 ⟨rfl, rfl⟩
            go_wp2
            go_ret3
            exact HE.out
    · obtain rfl : j = k := by omega
      have HE := Lib.hid (show DoesL LV w p σ s F (lookR hd addr) (.returned (.tuple #[.int .i64 0, .bool false, .bool false])) wr from ⟨(0, false, false), _, _, _, rfl, ⟨rfl, WfI.zero⟩, (HG.out.eq (by rw [Nat.sub_self]; rfl)).end_ret, A1.out.tls⟩)
      clear a1
      go_wp2
      go_ret3
      exact HE.out
end Go.Proofs.Ytldccemgfjmcdaa
