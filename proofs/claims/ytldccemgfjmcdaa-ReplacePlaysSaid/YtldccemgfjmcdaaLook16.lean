/- Law 16: what comes of a task that looks into a slot: looker.run, kind by kind. -/
import Derived.Test.YtldccemgfjmcdaaSeekN
import Derived.Laws.Tables
namespace Go.Proofs.Ytldccemgfjmcdaa
open Go.RowKit
set_option linter.unusedSimpArgs false
set_option linter.unusedVariables false

structure ResV where
  v : Int
  inner : Bool
  ok : Bool
  area : AreaV
  node : Option NodeV
def zeroArea : AreaV := ⟨0, 0, 0, false, 0, 0⟩
/-- How a node that is told lies, cell by cell. -/
def NodeIs (w : World) (n : Option NodeV) (d0 d1 d2 d3 d4 : Value) : Prop :=
  (n = none ∧ d0 = .bool false ∧ d1 = .int .i64 0 ∧ d2 = .slice none 0 0 ∧ d3 = .slice none 0 0 ∧ d4 = .slice none 0 0) ∨
  ∃ m g1 g2 g3 c1 c2 c3, n = some m ∧ d0 = .bool m.inner ∧ d1 = .int .i64 m.lo ∧ d2 = .slice (some ⟨g1, 0, none⟩) m.ends.length c1 ∧ d3 = .slice (some ⟨g2, 0, none⟩) m.slots.length c2 ∧ d4 = .slice (some ⟨g3, 0, none⟩) m.gaps.length c3 ∧
    Row w 2 1 g1 m.ends.length c1 (i64s m.ends) ∧ Row w 2 1 g2 m.slots.length c2 (i64s m.slots) ∧ Row w 2 1 g3 m.gaps.length c3 (i64s m.gaps) ∧
    ((∀ x ∈ m.ends, WfI x) ∧ (∀ x ∈ m.slots, WfI x) ∧ (∀ x ∈ m.gaps, WfI x) ∧ WfI m.lo) ∧ m.formedB = true
def RR (w : World) (v : ResV) (cs : Array Value) : Prop :=
  ∃ d0 d1 d2 d3 d4, cs = #[.int .i64 v.v, .bool v.inner, .bool v.ok, .int .i64 v.area.start, .int .i64 v.area.stop, .int .i64 v.area.prot, .bool v.area.shared, .int .i64 v.area.back, .int .i64 v.area.off, d0, d1, d2, d3, d4] ∧ NodeIs w v.node d0 d1 d2 d3 d4
theorem Row.off {w w' : World} {g n c z b : Nat} {t t' : TypeId} {xs : List Value} {u : Array Value} (h : Row w t z g n c xs) (hb : Blk w b t' u) (hne : t ≠ t') (hu : Upd [b] w w') : Row w' t z g n c xs := by
  refine h.upd hu ?_
  obtain ⟨cur, hg, -⟩ := h
  intro hin
  simp only [List.mem_singleton] at hin
  subst hin
  exact hne (hg.inj hb).1
theorem NodeIs.off {w w' : World} {b : Nat} {t' : TypeId} {u : Array Value} {n : Option NodeV} {d0 d1 d2 d3 d4 : Value} (h : NodeIs w n d0 d1 d2 d3 d4) (hb : Blk w b t' u) (hne : 2 ≠ t') (hu : Upd [b] w w') : NodeIs w' n d0 d1 d2 d3 d4 := by
  rcases h with h | ⟨m, g1, g2, g3, c1, c2, c3, e1, e2, e3, e4, e5, e6, r1, r2, r3, hw⟩
  · exact .inl h
  · exact .inr ⟨m, g1, g2, g3, c1, c2, c3, e1, e2, e3, e4, e5, e6, r1.off hb hne hu, r2.off hb hne hu, r3.off hb hne hu, hw⟩
theorem NodeIs.thru {w w' : World} {n : Option NodeV} {d0 d1 d2 d3 d4 : Value} (h : NodeIs w n d0 d1 d2 d3 d4) (hb : Below w.heap.size w w') : NodeIs w' n d0 d1 d2 d3 d4 := by
  rcases h with h | ⟨m, g1, g2, g3, c1, c2, c3, e1, e2, e3, e4, e5, e6, r1, r2, r3, hw⟩
  · exact .inl h
  · exact .inr ⟨m, g1, g2, g3, c1, c2, c3, e1, e2, e3, e4, e5, e6, r1.thru hb, r2.thru hb, r3.thru hb, hw⟩
theorem RR.apart (t : Nat) : Apart t RR := by
  rintro w w' v cs u hb ⟨d0, d1, d2, d3, d4, rfl, h⟩ hu
  exact ⟨d0, d1, d2, d3, d4, rfl, h.off hb (by decide) hu⟩

theorem upd_setRow {w : World} {b : Nat} {t : TypeId} {old : Array Value} (h : Blk w b t old) (cs : Array Value) : Upd [b] w (w.setRow b cs) :=
  ⟨rfl, rfl, rfl, by simp, fun k hk hF => setRow_other _ _ _ _ (by simpa using hF)⟩
theorem blk_setRow {w : World} {b : Nat} {t : TypeId} {old : Array Value} (h : Blk w b t old) (cs : Array Value) : Blk (w.setRow b cs) b t cs := setRow_heap _ _ _ _ _ _ h
theorem AtL.own {w0 w w' : World} {p : Pl} {σ : LandS} {s : TrS} {F0 F : List Nat} {n b : Nat} (a : AtL w0 w p σ s F0 F n) (hu : Upd [b] w w') (hq : b ∉ p.all F) (hnew : w0.heap.size ≤ b) : AtL w0 w' p σ s F0 F n :=
  ⟨a.tl.upd hu (fun x hx h2 => by simp at h2; exact hq (h2 ▸ hx)), a.sub, a.upd.trans_new hu (fun x hx => .inr (by simp at hx; exact hx ▸ hnew)), a.inn, a.over⟩
theorem info_res : (Try.prog.info? 59).map (·.size) = some 14 := by kernel_rfl
def look0R (hd addr : Int) : Res LandS ResV := (lookR hd addr).bind fun q => .ret ⟨q.1, q.2.1, q.2.2, zeroArea, none⟩
def look1R (hd : Int) : Res LandS ResV := (areaR hd).bind fun q => .ret ⟨0, q.2.1, q.2.2, q.1, none⟩
def look2R (hd : Int) : Res LandS ResV := (nodeR hd).bind fun q => .ret ⟨0, false, q.isSome, zeroArea, q⟩
def look3R (hd word : Int) : Res LandS ResV := (readR hd word).bind fun v => .ret ⟨v, false, false, zeroArea, none⟩
theorem RR.plain (w : World) (v : Int) (i o : Bool) (a : AreaV) : RR w ⟨v, i, o, a, none⟩ #[.int .i64 v, .bool i, .bool o, .int .i64 a.start, .int .i64 a.stop, .int .i64 a.prot, .bool a.shared, .int .i64 a.back, .int .i64 a.off, .bool false, .int .i64 0, .slice none 0 0, .slice none 0 0, .slice none 0 0] :=
  ⟨_, _, _, _, _, rfl, .inl ⟨rfl, rfl, rfl, rfl, rfl, rfl⟩⟩
/-- What is handed to looker.run. -/
def lookArg (a pb : Nat) (hd addr kind : Int) : Value := .agg #[.pointer (some ⟨a, 0, none⟩), .int .i64 hd, .int .i64 addr, .int .i64 kind, .pointer (some ⟨pb, 0, none⟩)]

set_option maxRecDepth 100000 in
set_option maxHeartbeats 2000000 in
theorem look_run0 (hd addr : Int) (pb : Nat) (cs0 : Array Value) (hc0 : cs0.size = 14) (p : Pl) (σ : LandS) (s : TrS) (F : List Nat) (n : Nat) (w : World) (h : TL w p σ s F) (hi : s.In n) (hn : n ≤ 1000000) (hov : s.over = false) (hh : hd < 9223372036854775808)
    (hp : Blk w pb 59 cs0) (hpf : pb ∉ p.all F) :
    Calls Try.prog 64 #[lookArg p.a pb hd addr 0, .pointer (some ⟨p.t, 0, none⟩)] w (TaskPostL (TaskQL w p σ s F (look0R hd addr) pb 59 RR) p) := by
  have A0 := Lib.hid (AtL.first h hi hov)
  have HP := Lib.hid hp
  have HPF := Lib.hid hpf
  have HPL := Lib.hid hp.lt
  have HLT := Lib.hid h.lt
  have HC0 := Lib.hid hc0
  clear h hi hov hp hpf hc0
  unfold lookArg
  go_enter Try.func64, Try.ntmps64
  replace A0 := Lib.hid (A0.out.thru (below_alloc0 w (.cells #[.pointer (some ⟨p.a, 0, none⟩), .int .i64 hd, .int .i64 addr, .int .i64 0, .pointer (some ⟨pb, 0, none⟩)] 64)))
  replace HP := Lib.hid (HP.out.thru (below_alloc0 w (.cells #[.pointer (some ⟨p.a, 0, none⟩), .int .i64 hd, .int .i64 addr, .int .i64 0, .pointer (some ⟨pb, 0, none⟩)] 64)))
  have HLB := Lib.hid (Blk.new w 64 #[.pointer (some ⟨p.a, 0, none⟩), .int .i64 hd, .int .i64 addr, .int .i64 0, .pointer (some ⟨pb, 0, none⟩)])
  go_upto_region 2 with fail
  have HZ := Lib.hid (World.size_alloc w (.cells #[.pointer (some ⟨p.a, 0, none⟩), .int .i64 hd, .int .i64 addr, .int .i64 0, .pointer (some ⟨pb, 0, none⟩)] 64))
  obtain ⟨lb, hlb⟩ : ∃ x, w.heap.size = x := ⟨_, rfl⟩
  simp only [hlb] at HLB HZ ⊢
  replace hlb := Lib.hid hlb
  generalize w.alloc (.cells #[.pointer (some ⟨p.a, 0, none⟩), .int .i64 hd, .int .i64 addr, .int .i64 0, .pointer (some ⟨pb, 0, none⟩)] 64) = w1 at *
  replace A0 := Lib.hid (A0.out.thru (below_alloc0 w1 (.cells #[.int .i64 0, .bool false, .bool false, .int .i64 0, .int .i64 0, .int .i64 0, .bool false, .int .i64 0, .int .i64 0, .bool false, .int .i64 0, .slice none 0 0, .slice none 0 0, .slice none 0 0] 59)))
  replace HP := Lib.hid (HP.out.thru (below_alloc0 w1 (.cells #[.int .i64 0, .bool false, .bool false, .int .i64 0, .int .i64 0, .int .i64 0, .bool false, .int .i64 0, .int .i64 0, .bool false, .int .i64 0, .slice none 0 0, .slice none 0 0, .slice none 0 0] 59)))
  replace HLB := Lib.hid (HLB.out.thru (below_alloc0 w1 (.cells #[.int .i64 0, .bool false, .bool false, .int .i64 0, .int .i64 0, .int .i64 0, .bool false, .int .i64 0, .int .i64 0, .bool false, .int .i64 0, .slice none 0 0, .slice none 0 0, .slice none 0 0] 59)))
  have HRR := Lib.hid (Blk.new w1 59 #[.int .i64 0, .bool false, .bool false, .int .i64 0, .int .i64 0, .int .i64 0, .bool false, .int .i64 0, .int .i64 0, .bool false, .int .i64 0, .slice none 0 0, .slice none 0 0, .slice none 0 0])
  rw [HZ.out] at HRR
  try simp only [HZ.out]
  replace HZ := Lib.hid (show (w1.alloc (.cells #[.int .i64 0, .bool false, .bool false, .int .i64 0, .int .i64 0, .int .i64 0, .bool false, .int .i64 0, .int .i64 0, .bool false, .int .i64 0, .slice none 0 0, .slice none 0 0, .slice none 0 0] 59)).heap.size = lb + 1 + 1 by rw [World.size_alloc, HZ.out])
  generalize w1.alloc (.cells #[.int .i64 0, .bool false, .bool false, .int .i64 0, .int .i64 0, .int .i64 0, .bool false, .int .i64 0, .int .i64 0, .bool false, .int .i64 0, .slice none 0 0, .slice none 0 0, .slice none 0 0] 59) = w2 at *
  have HNW := Lib.hid (show w.heap.size ≤ lb + 1 by rw [hlb.out]; omega)
  have HN1 := Lib.hid (show lb ∉ p.all F from fun hin => by have := HLT.out _ hin; have := hlb.out; omega)
  have HN2 := Lib.hid (show lb + 1 ∉ p.all F from fun hin => by have := HLT.out _ hin; have := hlb.out; omega)
  have HR := Lib.hid (seek_look hd addr p σ s F n w2 A0.out.tl A0.out.inn hn A0.out.over hh)
  clear HZ HLT
  obtain ⟨l0, l1, l2, l3, l4⟩ := HLB.out.at5
  go_wp2_with fail
  refine HR.out.mono ?_
  rintro e w3 hd3
  obtain ⟨⟨q0, q1, q2⟩, x, σ3, s3, F3, rfl, ⟨rfl, hwf⟩, hsim, a3, hk⟩ := A0.out.doesK hd3
  have HX := Lib.hid (GoesL.bind (f := fun q => Res.ret (⟨q.1, q.2.1, q.2.2, zeroArea, none⟩ : ResV)) hsim)
  clear hwf hsim
  have HLB3 := Lib.hid (hk.blk HLB.out HN1.out)
  have HRR3 := Lib.hid (hk.blk HRR.out HN2.out)
  have HP3 := Lib.hid (hk.blk HP.out HPF.out)
  have HN3 := Lib.hid (hk.notin HRR.out.lt HN2.out)
  have A3 := Lib.hid a3
  clear l0 l1 l2 l3 l4 HR A0 HLB HRR HP HN1 HN2 hk a3 hd3
  obtain ⟨l0, l1, l2, l3, l4⟩ := HLB3.out.at5
  simp only
  have HONE := Lib.hid (show (#[.int .i64 q0, .bool q1, .bool q2, .int .i64 0, .int .i64 0, .int .i64 0, .bool false, .int .i64 0, .int .i64 0, .bool false, .int .i64 0, .slice none 0 0, .slice none 0 0, .slice none 0 0] : Array Value).all (·.oneCell') = true by simp [Value.oneCell'])
  go_wp2_with (refine wpList_store_row (P := Try.prog) rfl 59 (.tmp 4) (.tmp 41) rfl (lb + 1) #[.int .i64 q0, .bool q1, .bool q2, .int .i64 0, .int .i64 0, .int .i64 0, .bool false, .int .i64 0, .int .i64 0, .bool false, .int .i64 0, .slice none 0 0, .slice none 0 0, .slice none 0 0] rfl rfl 59 #[.int .i64 0, .bool false, .bool false, .int .i64 0, .int .i64 0, .int .i64 0, .bool false, .int .i64 0, .int .i64 0, .bool false, .int .i64 0, .slice none 0 0, .slice none 0 0, .slice none 0 0] HRR3.out info_res rfl HONE.out ?_)
  have A4 := Lib.hid (A3.out.own (upd_setRow HRR3.out #[.int .i64 q0, .bool q1, .bool q2, .int .i64 0, .int .i64 0, .int .i64 0, .bool false, .int .i64 0, .int .i64 0, .bool false, .int .i64 0, .slice none 0 0, .slice none 0 0, .slice none 0 0]) HN3.out HNW.out)
  have HRR4 := Lib.hid (blk_setRow HRR3.out #[.int .i64 q0, .bool q1, .bool q2, .int .i64 0, .int .i64 0, .int .i64 0, .bool false, .int .i64 0, .int .i64 0, .bool false, .int .i64 0, .slice none 0 0, .slice none 0 0, .slice none 0 0])
  have HLB4 := Lib.hid (HLB3.out.upd (upd_setRow HRR3.out #[.int .i64 q0, .bool q1, .bool q2, .int .i64 0, .int .i64 0, .int .i64 0, .bool false, .int .i64 0, .int .i64 0, .bool false, .int .i64 0, .slice none 0 0, .slice none 0 0, .slice none 0 0]) (by simp))
  have HP4 := Lib.hid (HP3.out.upd (upd_setRow HRR3.out #[.int .i64 q0, .bool q1, .bool q2, .int .i64 0, .int .i64 0, .int .i64 0, .bool false, .int .i64 0, .int .i64 0, .bool false, .int .i64 0, .slice none 0 0, .slice none 0 0, .slice none 0 0]) (by have := HPL.out; have := hlb.out; simp; omega))
  clear l0 l1 l2 l3 l4
  generalize w3.setRow (lb + 1) #[.int .i64 q0, .bool q1, .bool q2, .int .i64 0, .int .i64 0, .int .i64 0, .bool false, .int .i64 0, .int .i64 0, .bool false, .int .i64 0, .slice none 0 0, .slice none 0 0, .slice none 0 0] = w5 at *
  have HD := Lib.hid (t_dry p.m p.c p.t σ3.mu s3 F3 w5 A4.out.tl.tm)
  rw [A4.out.over, Bool.not_false, Bool.and_true] at HD
  cases hdry : s3.dry with
  | true =>
    rw [hdry] at HD
    have HE := Lib.hid (A4.out.ends_dry (r := look0R hd addr) (pb := pb) (ty := 59) (R := RR) (HX.out.end_dry hdry ⟨q0, q1, q2, zeroArea, none⟩) hdry)
    clear hdry
    go_wp2_with fail
    refine HD.out.mono ?_
    rintro e w6 ⟨rfl, rfl⟩
    go_wp2
    go_end0
    exact HE.out
  | false =>
    rw [hdry] at HD
    have HE := Lib.hid (A4.out.ends_put (r := look0R hd addr) (R := RR) (HX.out.end_ret) hdry HPF.out HPL.out (upd_setRow HP4.out #[.int .i64 q0, .bool q1, .bool q2, .int .i64 0, .int .i64 0, .int .i64 0, .bool false, .int .i64 0, .int .i64 0, .bool false, .int .i64 0, .slice none 0 0, .slice none 0 0, .slice none 0 0]) (blk_setRow HP4.out #[.int .i64 q0, .bool q1, .bool q2, .int .i64 0, .int .i64 0, .int .i64 0, .bool false, .int .i64 0, .int .i64 0, .bool false, .int .i64 0, .slice none 0 0, .slice none 0 0, .slice none 0 0]) (RR.plain _ q0 q1 q2 zeroArea))
    clear hdry
    go_wp2_with fail
    refine HD.out.mono ?_
    rintro e w6 ⟨rfl, rfl⟩
    obtain ⟨l0, l1, l2, l3, l4⟩ := HLB4.out.at5
    go_wp2_with (first | (refine wpList_load_row (P := Try.prog) rfl 59 (.tmp 4) rfl (lb + 1) rfl 59 #[.int .i64 q0, .bool q1, .bool q2, .int .i64 0, .int .i64 0, .int .i64 0, .bool false, .int .i64 0, .int .i64 0, .bool false, .int .i64 0, .slice none 0 0, .slice none 0 0, .slice none 0 0] (0, 0) _ HRR4.out Try.underlying59 rfl info_res ?_) | (refine wpList_store_row (P := Try.prog) rfl 59 (.tmp 78) (.tmp 77) rfl pb #[.int .i64 q0, .bool q1, .bool q2, .int .i64 0, .int .i64 0, .int .i64 0, .bool false, .int .i64 0, .int .i64 0, .bool false, .int .i64 0, .slice none 0 0, .slice none 0 0, .slice none 0 0] rfl rfl 59 cs0 HP4.out info_res HC0.out HONE.out ?_))
    go_end0
    exact HE.out
set_option maxRecDepth 100000 in
set_option maxHeartbeats 2000000 in
theorem look_run1 (hd addr : Int) (pb : Nat) (cs0 : Array Value) (hc0 : cs0.size = 14) (p : Pl) (σ : LandS) (s : TrS) (F : List Nat) (n : Nat) (w : World) (h : TL w p σ s F) (hi : s.In n) (hn : n ≤ 1000000) (hov : s.over = false) (hh : hd < 9223372036854775808)
    (hp : Blk w pb 59 cs0) (hpf : pb ∉ p.all F) :
    Calls Try.prog 64 #[lookArg p.a pb hd addr 1, .pointer (some ⟨p.t, 0, none⟩)] w (TaskPostL (TaskQL w p σ s F (look1R hd) pb 59 RR) p) := by
  have A0 := Lib.hid (AtL.first h hi hov)
  have HP := Lib.hid hp
  have HPF := Lib.hid hpf
  have HPL := Lib.hid hp.lt
  have HLT := Lib.hid h.lt
  have HC0 := Lib.hid hc0
  clear h hi hov hp hpf hc0
  unfold lookArg
  go_enter Try.func64, Try.ntmps64
  replace A0 := Lib.hid (A0.out.thru (below_alloc0 w (.cells #[.pointer (some ⟨p.a, 0, none⟩), .int .i64 hd, .int .i64 addr, .int .i64 1, .pointer (some ⟨pb, 0, none⟩)] 64)))
  replace HP := Lib.hid (HP.out.thru (below_alloc0 w (.cells #[.pointer (some ⟨p.a, 0, none⟩), .int .i64 hd, .int .i64 addr, .int .i64 1, .pointer (some ⟨pb, 0, none⟩)] 64)))
  have HLB := Lib.hid (Blk.new w 64 #[.pointer (some ⟨p.a, 0, none⟩), .int .i64 hd, .int .i64 addr, .int .i64 1, .pointer (some ⟨pb, 0, none⟩)])
  go_upto_region 2 with fail
  have HZ := Lib.hid (World.size_alloc w (.cells #[.pointer (some ⟨p.a, 0, none⟩), .int .i64 hd, .int .i64 addr, .int .i64 1, .pointer (some ⟨pb, 0, none⟩)] 64))
  obtain ⟨lb, hlb⟩ : ∃ x, w.heap.size = x := ⟨_, rfl⟩
  simp only [hlb] at HLB HZ ⊢
  replace hlb := Lib.hid hlb
  generalize w.alloc (.cells #[.pointer (some ⟨p.a, 0, none⟩), .int .i64 hd, .int .i64 addr, .int .i64 1, .pointer (some ⟨pb, 0, none⟩)] 64) = w1 at *
  replace A0 := Lib.hid (A0.out.thru (below_alloc0 w1 (.cells #[.int .i64 0, .bool false, .bool false, .int .i64 0, .int .i64 0, .int .i64 0, .bool false, .int .i64 0, .int .i64 0, .bool false, .int .i64 0, .slice none 0 0, .slice none 0 0, .slice none 0 0] 59)))
  replace HP := Lib.hid (HP.out.thru (below_alloc0 w1 (.cells #[.int .i64 0, .bool false, .bool false, .int .i64 0, .int .i64 0, .int .i64 0, .bool false, .int .i64 0, .int .i64 0, .bool false, .int .i64 0, .slice none 0 0, .slice none 0 0, .slice none 0 0] 59)))
  replace HLB := Lib.hid (HLB.out.thru (below_alloc0 w1 (.cells #[.int .i64 0, .bool false, .bool false, .int .i64 0, .int .i64 0, .int .i64 0, .bool false, .int .i64 0, .int .i64 0, .bool false, .int .i64 0, .slice none 0 0, .slice none 0 0, .slice none 0 0] 59)))
  have HRR := Lib.hid (Blk.new w1 59 #[.int .i64 0, .bool false, .bool false, .int .i64 0, .int .i64 0, .int .i64 0, .bool false, .int .i64 0, .int .i64 0, .bool false, .int .i64 0, .slice none 0 0, .slice none 0 0, .slice none 0 0])
  rw [HZ.out] at HRR
  try simp only [HZ.out]
  replace HZ := Lib.hid (show (w1.alloc (.cells #[.int .i64 0, .bool false, .bool false, .int .i64 0, .int .i64 0, .int .i64 0, .bool false, .int .i64 0, .int .i64 0, .bool false, .int .i64 0, .slice none 0 0, .slice none 0 0, .slice none 0 0] 59)).heap.size = lb + 1 + 1 by rw [World.size_alloc, HZ.out])
  generalize w1.alloc (.cells #[.int .i64 0, .bool false, .bool false, .int .i64 0, .int .i64 0, .int .i64 0, .bool false, .int .i64 0, .int .i64 0, .bool false, .int .i64 0, .slice none 0 0, .slice none 0 0, .slice none 0 0] 59) = w2 at *
  have HNW := Lib.hid (show w.heap.size ≤ lb + 1 by rw [hlb.out]; omega)
  have HN1 := Lib.hid (show lb ∉ p.all F from fun hin => by have := HLT.out _ hin; have := hlb.out; omega)
  have HN2 := Lib.hid (show lb + 1 ∉ p.all F from fun hin => by have := HLT.out _ hin; have := hlb.out; omega)
  have HR := Lib.hid (seek_area hd p σ s F n w2 A0.out.tl A0.out.inn hn A0.out.over hh)
  clear HZ HLT
  obtain ⟨l0, l1, l2, l3, l4⟩ := HLB.out.at5
  go_wp2_with fail
  refine HR.out.mono ?_
  rintro e w3 hd3
  obtain ⟨⟨⟨sa, so, pr, sh, ba, oo⟩, q1, q2⟩, x, σ3, s3, F3, rfl, rfl, hsim, a3, hk⟩ := A0.out.doesK hd3
  have HX := Lib.hid (GoesL.bind (f := fun q => Res.ret (⟨0, q.2.1, q.2.2, q.1, none⟩ : ResV)) hsim)
  clear hsim
  have HLB3 := Lib.hid (hk.blk HLB.out HN1.out)
  have HRR3 := Lib.hid (hk.blk HRR.out HN2.out)
  have HP3 := Lib.hid (hk.blk HP.out HPF.out)
  have HN3 := Lib.hid (hk.notin HRR.out.lt HN2.out)
  have A3 := Lib.hid a3
  clear l0 l1 l2 l3 l4 HR A0 HLB HRR HP HN1 HN2 hk a3 hd3
  obtain ⟨l0, l1, l2, l3, l4⟩ := HLB3.out.at5
  simp only [areaCells]
  clear l0 l1 l2 l3 l4
  replace HLB3 := Lib.hid (HLB3.out.thru (below_alloc0 w3 (.cells #[.int .i64 sa, .int .i64 so, .int .i64 pr, .bool sh, .int .i64 ba, .int .i64 oo] 57)))
  replace HRR3 := Lib.hid (HRR3.out.thru (below_alloc0 w3 (.cells #[.int .i64 sa, .int .i64 so, .int .i64 pr, .bool sh, .int .i64 ba, .int .i64 oo] 57)))
  replace HP3 := Lib.hid (HP3.out.thru (below_alloc0 w3 (.cells #[.int .i64 sa, .int .i64 so, .int .i64 pr, .bool sh, .int .i64 ba, .int .i64 oo] 57)))
  replace A3 := Lib.hid (A3.out.thru (below_alloc0 w3 (.cells #[.int .i64 sa, .int .i64 so, .int .i64 pr, .bool sh, .int .i64 ba, .int .i64 oo] 57)))
  have HAB := Lib.hid (Blk.new w3 57 #[.int .i64 sa, .int .i64 so, .int .i64 pr, .bool sh, .int .i64 ba, .int .i64 oo])
  go_upto_region 9 with fail
  have HZ := Lib.hid (World.size_alloc w3 (.cells #[.int .i64 sa, .int .i64 so, .int .i64 pr, .bool sh, .int .i64 ba, .int .i64 oo] 57))
  obtain ⟨ab, hab⟩ : ∃ x, w3.heap.size = x := ⟨_, rfl⟩
  simp only [hab] at HAB HZ ⊢
  replace hab := Lib.hid hab
  generalize w3.alloc (.cells #[.int .i64 sa, .int .i64 so, .int .i64 pr, .bool sh, .int .i64 ba, .int .i64 oo] 57) = w4 at *
  obtain ⟨l0, l1, l2, l3, l4⟩ := HLB3.out.at5
  obtain ⟨k0, k1, k2, k3, k4, k5⟩ := HAB.out.at6
  have HONE := Lib.hid (show (#[.int .i64 0, .bool q1, .bool q2, .int .i64 sa, .int .i64 so, .int .i64 pr, .bool sh, .int .i64 ba, .int .i64 oo, .bool false, .int .i64 0, .slice none 0 0, .slice none 0 0, .slice none 0 0] : Array Value).all (·.oneCell') = true by simp [Value.oneCell'])
  go_wp2_with (refine wpList_store_row (P := Try.prog) rfl 59 (.tmp 4) (.tmp 57) rfl (lb + 1) #[.int .i64 0, .bool q1, .bool q2, .int .i64 sa, .int .i64 so, .int .i64 pr, .bool sh, .int .i64 ba, .int .i64 oo, .bool false, .int .i64 0, .slice none 0 0, .slice none 0 0, .slice none 0 0] rfl rfl 59 #[.int .i64 0, .bool false, .bool false, .int .i64 0, .int .i64 0, .int .i64 0, .bool false, .int .i64 0, .int .i64 0, .bool false, .int .i64 0, .slice none 0 0, .slice none 0 0, .slice none 0 0] HRR3.out info_res rfl HONE.out ?_)
  have A4 := Lib.hid (A3.out.own (upd_setRow HRR3.out #[.int .i64 0, .bool q1, .bool q2, .int .i64 sa, .int .i64 so, .int .i64 pr, .bool sh, .int .i64 ba, .int .i64 oo, .bool false, .int .i64 0, .slice none 0 0, .slice none 0 0, .slice none 0 0]) HN3.out HNW.out)
  have HRR4 := Lib.hid (blk_setRow HRR3.out #[.int .i64 0, .bool q1, .bool q2, .int .i64 sa, .int .i64 so, .int .i64 pr, .bool sh, .int .i64 ba, .int .i64 oo, .bool false, .int .i64 0, .slice none 0 0, .slice none 0 0, .slice none 0 0])
  have HLB4 := Lib.hid (HLB3.out.upd (upd_setRow HRR3.out #[.int .i64 0, .bool q1, .bool q2, .int .i64 sa, .int .i64 so, .int .i64 pr, .bool sh, .int .i64 ba, .int .i64 oo, .bool false, .int .i64 0, .slice none 0 0, .slice none 0 0, .slice none 0 0]) (by simp))
  have HP4 := Lib.hid (HP3.out.upd (upd_setRow HRR3.out #[.int .i64 0, .bool q1, .bool q2, .int .i64 sa, .int .i64 so, .int .i64 pr, .bool sh, .int .i64 ba, .int .i64 oo, .bool false, .int .i64 0, .slice none 0 0, .slice none 0 0, .slice none 0 0]) (by have := HPL.out; have := hlb.out; simp; omega))
  clear k0 k1 k2 k3 k4 k5
  clear l0 l1 l2 l3 l4
  generalize w4.setRow (lb + 1) #[.int .i64 0, .bool q1, .bool q2, .int .i64 sa, .int .i64 so, .int .i64 pr, .bool sh, .int .i64 ba, .int .i64 oo, .bool false, .int .i64 0, .slice none 0 0, .slice none 0 0, .slice none 0 0] = w5 at *
  have HD := Lib.hid (t_dry p.m p.c p.t σ3.mu s3 F3 w5 A4.out.tl.tm)
  rw [A4.out.over, Bool.not_false, Bool.and_true] at HD
  cases hdry : s3.dry with
  | true =>
    rw [hdry] at HD
    have HE := Lib.hid (A4.out.ends_dry (r := look1R hd) (pb := pb) (ty := 59) (R := RR) (HX.out.end_dry hdry ⟨0, q1, q2, ⟨sa, so, pr, sh, ba, oo⟩, none⟩) hdry)
    clear hdry
    go_wp2_with fail
    refine HD.out.mono ?_
    rintro e w6 ⟨rfl, rfl⟩
    go_wp2
    go_end0
    exact HE.out
  | false =>
    rw [hdry] at HD
    have HE := Lib.hid (A4.out.ends_put (r := look1R hd) (R := RR) (HX.out.end_ret) hdry HPF.out HPL.out (upd_setRow HP4.out #[.int .i64 0, .bool q1, .bool q2, .int .i64 sa, .int .i64 so, .int .i64 pr, .bool sh, .int .i64 ba, .int .i64 oo, .bool false, .int .i64 0, .slice none 0 0, .slice none 0 0, .slice none 0 0]) (blk_setRow HP4.out #[.int .i64 0, .bool q1, .bool q2, .int .i64 sa, .int .i64 so, .int .i64 pr, .bool sh, .int .i64 ba, .int .i64 oo, .bool false, .int .i64 0, .slice none 0 0, .slice none 0 0, .slice none 0 0]) (RR.plain _ 0 q1 q2 ⟨sa, so, pr, sh, ba, oo⟩))
    clear hdry
    go_wp2_with fail
    refine HD.out.mono ?_
    rintro e w6 ⟨rfl, rfl⟩
    obtain ⟨l0, l1, l2, l3, l4⟩ := HLB4.out.at5
    go_wp2_with (first | (refine wpList_load_row (P := Try.prog) rfl 59 (.tmp 4) rfl (lb + 1) rfl 59 #[.int .i64 0, .bool q1, .bool q2, .int .i64 sa, .int .i64 so, .int .i64 pr, .bool sh, .int .i64 ba, .int .i64 oo, .bool false, .int .i64 0, .slice none 0 0, .slice none 0 0, .slice none 0 0] (0, 0) _ HRR4.out Try.underlying59 rfl info_res ?_) | (refine wpList_store_row (P := Try.prog) rfl 59 (.tmp 78) (.tmp 77) rfl pb #[.int .i64 0, .bool q1, .bool q2, .int .i64 sa, .int .i64 so, .int .i64 pr, .bool sh, .int .i64 ba, .int .i64 oo, .bool false, .int .i64 0, .slice none 0 0, .slice none 0 0, .slice none 0 0] rfl rfl 59 cs0 HP4.out info_res HC0.out HONE.out ?_))
    go_end0
    exact HE.out
set_option maxRecDepth 100000 in
set_option maxHeartbeats 2000000 in
theorem look_run3 (hd addr : Int) (pb : Nat) (cs0 : Array Value) (hc0 : cs0.size = 14) (p : Pl) (σ : LandS) (s : TrS) (F : List Nat) (n : Nat) (w : World) (h : TL w p σ s F) (hi : s.In n) (hn : n ≤ 1000000) (hov : s.over = false) (hh : hd < 9223372036854775808)
    (hp : Blk w pb 59 cs0) (hpf : pb ∉ p.all F) :
    Calls Try.prog 64 #[lookArg p.a pb hd addr 3, .pointer (some ⟨p.t, 0, none⟩)] w (TaskPostL (TaskQL w p σ s F (look3R hd addr) pb 59 RR) p) := by
  have A0 := Lib.hid (AtL.first h hi hov)
  have HP := Lib.hid hp
  have HPF := Lib.hid hpf
  have HPL := Lib.hid hp.lt
  have HLT := Lib.hid h.lt
  have HC0 := Lib.hid hc0
  clear h hi hov hp hpf hc0
  unfold lookArg
  go_enter Try.func64, Try.ntmps64
  replace A0 := Lib.hid (A0.out.thru (below_alloc0 w (.cells #[.pointer (some ⟨p.a, 0, none⟩), .int .i64 hd, .int .i64 addr, .int .i64 3, .pointer (some ⟨pb, 0, none⟩)] 64)))
  replace HP := Lib.hid (HP.out.thru (below_alloc0 w (.cells #[.pointer (some ⟨p.a, 0, none⟩), .int .i64 hd, .int .i64 addr, .int .i64 3, .pointer (some ⟨pb, 0, none⟩)] 64)))
  have HLB := Lib.hid (Blk.new w 64 #[.pointer (some ⟨p.a, 0, none⟩), .int .i64 hd, .int .i64 addr, .int .i64 3, .pointer (some ⟨pb, 0, none⟩)])
  go_upto_region 2 with fail
  have HZ := Lib.hid (World.size_alloc w (.cells #[.pointer (some ⟨p.a, 0, none⟩), .int .i64 hd, .int .i64 addr, .int .i64 3, .pointer (some ⟨pb, 0, none⟩)] 64))
  obtain ⟨lb, hlb⟩ : ∃ x, w.heap.size = x := ⟨_, rfl⟩
  simp only [hlb] at HLB HZ ⊢
  replace hlb := Lib.hid hlb
  generalize w.alloc (.cells #[.pointer (some ⟨p.a, 0, none⟩), .int .i64 hd, .int .i64 addr, .int .i64 3, .pointer (some ⟨pb, 0, none⟩)] 64) = w1 at *
  replace A0 := Lib.hid (A0.out.thru (below_alloc0 w1 (.cells #[.int .i64 0, .bool false, .bool false, .int .i64 0, .int .i64 0, .int .i64 0, .bool false, .int .i64 0, .int .i64 0, .bool false, .int .i64 0, .slice none 0 0, .slice none 0 0, .slice none 0 0] 59)))
  replace HP := Lib.hid (HP.out.thru (below_alloc0 w1 (.cells #[.int .i64 0, .bool false, .bool false, .int .i64 0, .int .i64 0, .int .i64 0, .bool false, .int .i64 0, .int .i64 0, .bool false, .int .i64 0, .slice none 0 0, .slice none 0 0, .slice none 0 0] 59)))
  replace HLB := Lib.hid (HLB.out.thru (below_alloc0 w1 (.cells #[.int .i64 0, .bool false, .bool false, .int .i64 0, .int .i64 0, .int .i64 0, .bool false, .int .i64 0, .int .i64 0, .bool false, .int .i64 0, .slice none 0 0, .slice none 0 0, .slice none 0 0] 59)))
  have HRR := Lib.hid (Blk.new w1 59 #[.int .i64 0, .bool false, .bool false, .int .i64 0, .int .i64 0, .int .i64 0, .bool false, .int .i64 0, .int .i64 0, .bool false, .int .i64 0, .slice none 0 0, .slice none 0 0, .slice none 0 0])
  rw [HZ.out] at HRR
  try simp only [HZ.out]
  replace HZ := Lib.hid (show (w1.alloc (.cells #[.int .i64 0, .bool false, .bool false, .int .i64 0, .int .i64 0, .int .i64 0, .bool false, .int .i64 0, .int .i64 0, .bool false, .int .i64 0, .slice none 0 0, .slice none 0 0, .slice none 0 0] 59)).heap.size = lb + 1 + 1 by rw [World.size_alloc, HZ.out])
  generalize w1.alloc (.cells #[.int .i64 0, .bool false, .bool false, .int .i64 0, .int .i64 0, .int .i64 0, .bool false, .int .i64 0, .int .i64 0, .bool false, .int .i64 0, .slice none 0 0, .slice none 0 0, .slice none 0 0] 59) = w2 at *
  have HNW := Lib.hid (show w.heap.size ≤ lb + 1 by rw [hlb.out]; omega)
  have HN1 := Lib.hid (show lb ∉ p.all F from fun hin => by have := HLT.out _ hin; have := hlb.out; omega)
  have HN2 := Lib.hid (show lb + 1 ∉ p.all F from fun hin => by have := HLT.out _ hin; have := hlb.out; omega)
  have HR := Lib.hid (seek_read hd addr p σ s F w2 A0.out.tl (A0.out.ok hn) hh)
  clear HZ HLT
  obtain ⟨l0, l1, l2, l3, l4⟩ := HLB.out.at5
  go_wp2_with fail
  refine HR.out.mono ?_
  rintro e w3 hd3
  obtain ⟨q0, x, σ3, s3, F3, rfl, ⟨rfl, hwf⟩, hsim, a3, hk⟩ := A0.out.doesK hd3
  have HX := Lib.hid (GoesL.bind (f := fun q => Res.ret (⟨q, false, false, zeroArea, none⟩ : ResV)) hsim)
  clear hwf hsim
  have HLB3 := Lib.hid (hk.blk HLB.out HN1.out)
  have HRR3 := Lib.hid (hk.blk HRR.out HN2.out)
  have HP3 := Lib.hid (hk.blk HP.out HPF.out)
  have HN3 := Lib.hid (hk.notin HRR.out.lt HN2.out)
  have A3 := Lib.hid a3
  clear l0 l1 l2 l3 l4 HR A0 HLB HRR HP HN1 HN2 hk a3 hd3
  obtain ⟨l0, l1, l2, l3, l4⟩ := HLB3.out.at5
  obtain ⟨m0, -⟩ := HRR3.out.at14
  have f0 := HRR3.out.free 0
  have HONE := Lib.hid (show (#[.int .i64 q0, .bool false, .bool false, .int .i64 0, .int .i64 0, .int .i64 0, .bool false, .int .i64 0, .int .i64 0, .bool false, .int .i64 0, .slice none 0 0, .slice none 0 0, .slice none 0 0] : Array Value).all (·.oneCell') = true by simp [Value.oneCell'])
  go_upto_region 13 with fail
  have A4 := Lib.hid (A3.out.own ((Upd.refl [lb + 1] w3).put (p := ⟨lb + 1, 0, none⟩) (.inl (by simp)) (.int .i64 q0)) HN3.out HNW.out)
  have HRR4 := Lib.hid (show Blk _ (lb + 1) 59 #[.int .i64 q0, .bool false, .bool false, .int .i64 0, .int .i64 0, .int .i64 0, .bool false, .int .i64 0, .int .i64 0, .bool false, .int .i64 0, .slice none 0 0, .slice none 0 0, .slice none 0 0] from HRR3.out.put 0 (.int .i64 q0))
  have HLB4 := Lib.hid (HLB3.out.upd ((Upd.refl [lb + 1] w3).put (p := ⟨lb + 1, 0, none⟩) (.inl (by simp)) (.int .i64 q0)) (by simp))
  have HP4 := Lib.hid (HP3.out.upd ((Upd.refl [lb + 1] w3).put (p := ⟨lb + 1, 0, none⟩) (.inl (by simp)) (.int .i64 q0)) (by have := HPL.out; have := hlb.out; simp; omega))
  clear l0 l1 l2 l3 l4
  clear m0 f0
  generalize w3.setCell ⟨lb + 1, 0, none⟩ (.int .i64 q0) = w5 at *
  have HD := Lib.hid (t_dry p.m p.c p.t σ3.mu s3 F3 w5 A4.out.tl.tm)
  rw [A4.out.over, Bool.not_false, Bool.and_true] at HD
  cases hdry : s3.dry with
  | true =>
    rw [hdry] at HD
    have HE := Lib.hid (A4.out.ends_dry (r := look3R hd addr) (pb := pb) (ty := 59) (R := RR) (HX.out.end_dry hdry ⟨q0, false, false, zeroArea, none⟩) hdry)
    clear hdry
    go_wp2_with fail
    refine HD.out.mono ?_
    rintro e w6 ⟨rfl, rfl⟩
    go_wp2
    go_end0
    exact HE.out
  | false =>
    rw [hdry] at HD
    have HE := Lib.hid (A4.out.ends_put (r := look3R hd addr) (R := RR) (HX.out.end_ret) hdry HPF.out HPL.out (upd_setRow HP4.out #[.int .i64 q0, .bool false, .bool false, .int .i64 0, .int .i64 0, .int .i64 0, .bool false, .int .i64 0, .int .i64 0, .bool false, .int .i64 0, .slice none 0 0, .slice none 0 0, .slice none 0 0]) (blk_setRow HP4.out #[.int .i64 q0, .bool false, .bool false, .int .i64 0, .int .i64 0, .int .i64 0, .bool false, .int .i64 0, .int .i64 0, .bool false, .int .i64 0, .slice none 0 0, .slice none 0 0, .slice none 0 0]) (RR.plain _ q0 false false zeroArea))
    clear hdry
    go_wp2_with fail
    refine HD.out.mono ?_
    rintro e w6 ⟨rfl, rfl⟩
    obtain ⟨l0, l1, l2, l3, l4⟩ := HLB4.out.at5
    go_wp2_with (first | (refine wpList_load_row (P := Try.prog) rfl 59 (.tmp 4) rfl (lb + 1) rfl 59 #[.int .i64 q0, .bool false, .bool false, .int .i64 0, .int .i64 0, .int .i64 0, .bool false, .int .i64 0, .int .i64 0, .bool false, .int .i64 0, .slice none 0 0, .slice none 0 0, .slice none 0 0] (0, 0) _ HRR4.out Try.underlying59 rfl info_res ?_) | (refine wpList_store_row (P := Try.prog) rfl 59 (.tmp 78) (.tmp 77) rfl pb #[.int .i64 q0, .bool false, .bool false, .int .i64 0, .int .i64 0, .int .i64 0, .bool false, .int .i64 0, .int .i64 0, .bool false, .int .i64 0, .slice none 0 0, .slice none 0 0, .slice none 0 0] rfl rfl 59 cs0 HP4.out info_res HC0.out HONE.out ?_))
    go_end0
    exact HE.out
theorem AtL.nodes {w0 w w' : World} {p : Pl} {σ σ' : LandS} {s s' : TrS} {F0 F F' : List Nat} {n : Nat} {β : Type} {r : Res LandS β} {v : β} (a : AtL w0 w p σ s F0 F n) (hs : Sim (r.run σ s) (v, σ', s')) (ht : TL w' p σ' s' F') (hk : Keeps w w' p F F') : AtL w0 w' p σ' s' F0 F' n := by
  obtain ⟨F2, a'⟩ := a.step hs ⟨F', ht, hk.2, hk.1⟩
  refine ⟨ht, fun b hb => ?_, a'.upd, a'.inn, a'.over⟩
  rcases hk.2 b hb with h | h
  · exact a.sub b h
  · exact .inr (Nat.le_trans a.upd.size h)
set_option maxRecDepth 100000 in
set_option maxHeartbeats 2000000 in
theorem look_run2 (hd addr : Int) (pb : Nat) (cs0 : Array Value) (hc0 : cs0.size = 14) (p : Pl) (σ : LandS) (s : TrS) (F : List Nat) (n : Nat) (w : World) (h : TL w p σ s F) (hi : s.In n) (hn : n ≤ 1000000) (hov : s.over = false) (hh : hd < 9223372036854775808)
    (hp : Blk w pb 59 cs0) (hpf : pb ∉ p.all F) :
    Calls Try.prog 64 #[lookArg p.a pb hd addr 2, .pointer (some ⟨p.t, 0, none⟩)] w (TaskPostL (TaskQL w p σ s F (look2R hd) pb 59 RR) p) := by
  have A0 := Lib.hid (AtL.first h hi hov)
  have HP := Lib.hid hp
  have HPF := Lib.hid hpf
  have HPL := Lib.hid hp.lt
  have HLT := Lib.hid h.lt
  have HC0 := Lib.hid hc0
  clear h hi hov hp hpf hc0
  unfold lookArg
  go_enter Try.func64, Try.ntmps64
  replace A0 := Lib.hid (A0.out.thru (below_alloc0 w (.cells #[.pointer (some ⟨p.a, 0, none⟩), .int .i64 hd, .int .i64 addr, .int .i64 2, .pointer (some ⟨pb, 0, none⟩)] 64)))
  replace HP := Lib.hid (HP.out.thru (below_alloc0 w (.cells #[.pointer (some ⟨p.a, 0, none⟩), .int .i64 hd, .int .i64 addr, .int .i64 2, .pointer (some ⟨pb, 0, none⟩)] 64)))
  have HLB := Lib.hid (Blk.new w 64 #[.pointer (some ⟨p.a, 0, none⟩), .int .i64 hd, .int .i64 addr, .int .i64 2, .pointer (some ⟨pb, 0, none⟩)])
  go_upto_region 2 with fail
  have HZ := Lib.hid (World.size_alloc w (.cells #[.pointer (some ⟨p.a, 0, none⟩), .int .i64 hd, .int .i64 addr, .int .i64 2, .pointer (some ⟨pb, 0, none⟩)] 64))
  obtain ⟨lb, hlb⟩ : ∃ x, w.heap.size = x := ⟨_, rfl⟩
  simp only [hlb] at HLB HZ ⊢
  replace hlb := Lib.hid hlb
  generalize w.alloc (.cells #[.pointer (some ⟨p.a, 0, none⟩), .int .i64 hd, .int .i64 addr, .int .i64 2, .pointer (some ⟨pb, 0, none⟩)] 64) = w1 at *
  replace A0 := Lib.hid (A0.out.thru (below_alloc0 w1 (.cells #[.int .i64 0, .bool false, .bool false, .int .i64 0, .int .i64 0, .int .i64 0, .bool false, .int .i64 0, .int .i64 0, .bool false, .int .i64 0, .slice none 0 0, .slice none 0 0, .slice none 0 0] 59)))
  replace HP := Lib.hid (HP.out.thru (below_alloc0 w1 (.cells #[.int .i64 0, .bool false, .bool false, .int .i64 0, .int .i64 0, .int .i64 0, .bool false, .int .i64 0, .int .i64 0, .bool false, .int .i64 0, .slice none 0 0, .slice none 0 0, .slice none 0 0] 59)))
  replace HLB := Lib.hid (HLB.out.thru (below_alloc0 w1 (.cells #[.int .i64 0, .bool false, .bool false, .int .i64 0, .int .i64 0, .int .i64 0, .bool false, .int .i64 0, .int .i64 0, .bool false, .int .i64 0, .slice none 0 0, .slice none 0 0, .slice none 0 0] 59)))
  have HRR := Lib.hid (Blk.new w1 59 #[.int .i64 0, .bool false, .bool false, .int .i64 0, .int .i64 0, .int .i64 0, .bool false, .int .i64 0, .int .i64 0, .bool false, .int .i64 0, .slice none 0 0, .slice none 0 0, .slice none 0 0])
  rw [HZ.out] at HRR
  try simp only [HZ.out]
  replace HZ := Lib.hid (show (w1.alloc (.cells #[.int .i64 0, .bool false, .bool false, .int .i64 0, .int .i64 0, .int .i64 0, .bool false, .int .i64 0, .int .i64 0, .bool false, .int .i64 0, .slice none 0 0, .slice none 0 0, .slice none 0 0] 59)).heap.size = lb + 1 + 1 by rw [World.size_alloc, HZ.out])
  generalize w1.alloc (.cells #[.int .i64 0, .bool false, .bool false, .int .i64 0, .int .i64 0, .int .i64 0, .bool false, .int .i64 0, .int .i64 0, .bool false, .int .i64 0, .slice none 0 0, .slice none 0 0, .slice none 0 0] 59) = w2 at *
  have HNW := Lib.hid (show w.heap.size ≤ lb + 1 by rw [hlb.out]; omega)
  have HN1 := Lib.hid (show lb ∉ p.all F from fun hin => by have := HLT.out _ hin; have := hlb.out; omega)
  have HN2 := Lib.hid (show lb + 1 ∉ p.all F from fun hin => by have := HLT.out _ hin; have := hlb.out; omega)
  have HR := Lib.hid (seek_node hd p σ s F n w2 A0.out.tl A0.out.inn hn A0.out.over hh)
  clear HZ HLT
  obtain ⟨l0, l1, l2, l3, l4⟩ := HLB.out.at5
  go_wp2_with fail
  refine HR.out.mono ?_
  rintro e w3 hd3
  obtain ⟨v, x, σ3, s3, F3, rfl, hnv, hsim, htl, hk⟩ := id hd3
  have a3 := A0.out.nodes hsim htl hk
  have HX := Lib.hid (GoesL.bind (f := fun q => Res.ret (⟨0, false, Option.isSome q, zeroArea, q⟩ : ResV)) hsim)
  clear hsim htl
  have HLB3 := Lib.hid (hk.blk HLB.out HN1.out)
  have HRR3 := Lib.hid (hk.blk HRR.out HN2.out)
  have HP3 := Lib.hid (hk.blk HP.out HPF.out)
  have HN3 := Lib.hid (hk.notin HRR.out.lt HN2.out)
  have A3 := Lib.hid a3
  clear l0 l1 l2 l3 l4 HR A0 HLB HRR HP HN1 HN2 hk a3 hd3
  obtain ⟨l0, l1, l2, l3, l4⟩ := HLB3.out.at5
  rcases hnv with ⟨rfl, rfl⟩ | ⟨m, g1, g2, g3, y1, y2, y3, rfl, rfl, hnew⟩
  · have HND := Lib.hid (show NodeIs w3 none (.bool false) (.int .i64 0) (.slice none 0 0) (.slice none 0 0) (.slice none 0 0) from .inl ⟨rfl, rfl, rfl, rfl, rfl, rfl⟩)
    clear l0 l1 l2 l3 l4
    replace HLB3 := Lib.hid (HLB3.out.thru (below_alloc0 w3 (.cells #[.bool false, .int .i64 0, .slice none 0 0, .slice none 0 0, .slice none 0 0] 50)))
    replace HRR3 := Lib.hid (HRR3.out.thru (below_alloc0 w3 (.cells #[.bool false, .int .i64 0, .slice none 0 0, .slice none 0 0, .slice none 0 0] 50)))
    replace HP3 := Lib.hid (HP3.out.thru (below_alloc0 w3 (.cells #[.bool false, .int .i64 0, .slice none 0 0, .slice none 0 0, .slice none 0 0] 50)))
    replace A3 := Lib.hid (A3.out.thru (below_alloc0 w3 (.cells #[.bool false, .int .i64 0, .slice none 0 0, .slice none 0 0, .slice none 0 0] 50)))
    replace HND := Lib.hid (HND.out.thru (below_alloc0 w3 (.cells #[.bool false, .int .i64 0, .slice none 0 0, .slice none 0 0, .slice none 0 0] 50)))
    have HAB := Lib.hid (Blk.new w3 50 #[.bool false, .int .i64 0, .slice none 0 0, .slice none 0 0, .slice none 0 0])
    go_upto_region 12 with fail
    have HZ := Lib.hid (World.size_alloc w3 (.cells #[.bool false, .int .i64 0, .slice none 0 0, .slice none 0 0, .slice none 0 0] 50))
    obtain ⟨ab, hab⟩ : ∃ x, w3.heap.size = x := ⟨_, rfl⟩
    simp only [hab] at HAB HZ ⊢
    replace hab := Lib.hid hab
    generalize w3.alloc (.cells #[.bool false, .int .i64 0, .slice none 0 0, .slice none 0 0, .slice none 0 0] 50) = w4 at *
    obtain ⟨l0, l1, l2, l3, l4⟩ := HLB3.out.at5
    obtain ⟨k0, k1, k2, k3, k4⟩ := HAB.out.at5
    have HONE := Lib.hid (show (#[.int .i64 0, .bool false, .bool false, .int .i64 0, .int .i64 0, .int .i64 0, .bool false, .int .i64 0, .int .i64 0, .bool false, .int .i64 0, .slice none 0 0, .slice none 0 0, .slice none 0 0] : Array Value).all (·.oneCell') = true by simp [Value.oneCell'])
    go_wp2_with (refine wpList_store_row (P := Try.prog) rfl 59 (.tmp 4) (.tmp 71) rfl (lb + 1) #[.int .i64 0, .bool false, .bool false, .int .i64 0, .int .i64 0, .int .i64 0, .bool false, .int .i64 0, .int .i64 0, .bool false, .int .i64 0, .slice none 0 0, .slice none 0 0, .slice none 0 0] rfl rfl 59 #[.int .i64 0, .bool false, .bool false, .int .i64 0, .int .i64 0, .int .i64 0, .bool false, .int .i64 0, .int .i64 0, .bool false, .int .i64 0, .slice none 0 0, .slice none 0 0, .slice none 0 0] HRR3.out info_res rfl HONE.out ?_)
    have A4 := Lib.hid (A3.out.own (upd_setRow HRR3.out #[.int .i64 0, .bool false, .bool false, .int .i64 0, .int .i64 0, .int .i64 0, .bool false, .int .i64 0, .int .i64 0, .bool false, .int .i64 0, .slice none 0 0, .slice none 0 0, .slice none 0 0]) HN3.out HNW.out)
    have HRR4 := Lib.hid (blk_setRow HRR3.out #[.int .i64 0, .bool false, .bool false, .int .i64 0, .int .i64 0, .int .i64 0, .bool false, .int .i64 0, .int .i64 0, .bool false, .int .i64 0, .slice none 0 0, .slice none 0 0, .slice none 0 0])
    have HLB4 := Lib.hid (HLB3.out.upd (upd_setRow HRR3.out #[.int .i64 0, .bool false, .bool false, .int .i64 0, .int .i64 0, .int .i64 0, .bool false, .int .i64 0, .int .i64 0, .bool false, .int .i64 0, .slice none 0 0, .slice none 0 0, .slice none 0 0]) (by simp))
    have HP4 := Lib.hid (HP3.out.upd (upd_setRow HRR3.out #[.int .i64 0, .bool false, .bool false, .int .i64 0, .int .i64 0, .int .i64 0, .bool false, .int .i64 0, .int .i64 0, .bool false, .int .i64 0, .slice none 0 0, .slice none 0 0, .slice none 0 0]) (by have := HPL.out; have := hlb.out; simp; omega))
    clear k0 k1 k2 k3 k4
    have HND4 := Lib.hid (HND.out.off HRR3.out (by decide) (upd_setRow HRR3.out #[.int .i64 0, .bool false, .bool false, .int .i64 0, .int .i64 0, .int .i64 0, .bool false, .int .i64 0, .int .i64 0, .bool false, .int .i64 0, .slice none 0 0, .slice none 0 0, .slice none 0 0]))
    clear l0 l1 l2 l3 l4
    generalize w4.setRow (lb + 1) #[.int .i64 0, .bool false, .bool false, .int .i64 0, .int .i64 0, .int .i64 0, .bool false, .int .i64 0, .int .i64 0, .bool false, .int .i64 0, .slice none 0 0, .slice none 0 0, .slice none 0 0] = w5 at *
    have HD := Lib.hid (t_dry p.m p.c p.t σ3.mu s3 F3 w5 A4.out.tl.tm)
    rw [A4.out.over, Bool.not_false, Bool.and_true] at HD
    cases hdry : s3.dry with
    | true =>
      rw [hdry] at HD
      have HE := Lib.hid (A4.out.ends_dry (r := look2R hd) (pb := pb) (ty := 59) (R := RR) (HX.out.end_dry hdry ⟨0, false, false, zeroArea, none⟩) hdry)
      clear hdry
      go_wp2_with fail
      refine HD.out.mono ?_
      rintro e w6 ⟨rfl, rfl⟩
      go_wp2
      go_end0
      exact HE.out
    | false =>
      rw [hdry] at HD
      have HE := Lib.hid (A4.out.ends_put (r := look2R hd) (R := RR) (HX.out.end_ret) hdry HPF.out HPL.out (upd_setRow HP4.out #[.int .i64 0, .bool false, .bool false, .int .i64 0, .int .i64 0, .int .i64 0, .bool false, .int .i64 0, .int .i64 0, .bool false, .int .i64 0, .slice none 0 0, .slice none 0 0, .slice none 0 0]) (blk_setRow HP4.out #[.int .i64 0, .bool false, .bool false, .int .i64 0, .int .i64 0, .int .i64 0, .bool false, .int .i64 0, .int .i64 0, .bool false, .int .i64 0, .slice none 0 0, .slice none 0 0, .slice none 0 0]) (⟨_, _, _, _, _, rfl, HND4.out.off HP4.out (by decide) (upd_setRow HP4.out #[.int .i64 0, .bool false, .bool false, .int .i64 0, .int .i64 0, .int .i64 0, .bool false, .int .i64 0, .int .i64 0, .bool false, .int .i64 0, .slice none 0 0, .slice none 0 0, .slice none 0 0])⟩))
      clear hdry
      go_wp2_with fail
      refine HD.out.mono ?_
      rintro e w6 ⟨rfl, rfl⟩
      obtain ⟨l0, l1, l2, l3, l4⟩ := HLB4.out.at5
      go_wp2_with (first | (refine wpList_load_row (P := Try.prog) rfl 59 (.tmp 4) rfl (lb + 1) rfl 59 #[.int .i64 0, .bool false, .bool false, .int .i64 0, .int .i64 0, .int .i64 0, .bool false, .int .i64 0, .int .i64 0, .bool false, .int .i64 0, .slice none 0 0, .slice none 0 0, .slice none 0 0] (0, 0) _ HRR4.out Try.underlying59 rfl info_res ?_) | (refine wpList_store_row (P := Try.prog) rfl 59 (.tmp 78) (.tmp 77) rfl pb #[.int .i64 0, .bool false, .bool false, .int .i64 0, .int .i64 0, .int .i64 0, .bool false, .int .i64 0, .int .i64 0, .bool false, .int .i64 0, .slice none 0 0, .slice none 0 0, .slice none 0 0] rfl rfl 59 cs0 HP4.out info_res HC0.out HONE.out ?_))
      go_end0
      exact HE.out
  · have HND := Lib.hid (show NodeIs w3 (some m) (.bool m.inner) (.int .i64 m.lo) (.slice (some ⟨g1, 0, none⟩) m.ends.length y1) (.slice (some ⟨g2, 0, none⟩) m.slots.length y2) (.slice (some ⟨g3, 0, none⟩) m.gaps.length y3) from
      .inr ⟨m, g1, g2, g3, y1, y2, y3, rfl, rfl, rfl, rfl, rfl, rfl, hnew.r1, hnew.r2, hnew.r3, hnew.wf, hnew.ok⟩)
    clear hnew
    clear l0 l1 l2 l3 l4
    replace HLB3 := Lib.hid (HLB3.out.thru (below_alloc0 w3 (.cells #[.bool m.inner, .int .i64 m.lo, .slice (some ⟨g1, 0, none⟩) m.ends.length y1, .slice (some ⟨g2, 0, none⟩) m.slots.length y2, .slice (some ⟨g3, 0, none⟩) m.gaps.length y3] 50)))
    replace HRR3 := Lib.hid (HRR3.out.thru (below_alloc0 w3 (.cells #[.bool m.inner, .int .i64 m.lo, .slice (some ⟨g1, 0, none⟩) m.ends.length y1, .slice (some ⟨g2, 0, none⟩) m.slots.length y2, .slice (some ⟨g3, 0, none⟩) m.gaps.length y3] 50)))
    replace HP3 := Lib.hid (HP3.out.thru (below_alloc0 w3 (.cells #[.bool m.inner, .int .i64 m.lo, .slice (some ⟨g1, 0, none⟩) m.ends.length y1, .slice (some ⟨g2, 0, none⟩) m.slots.length y2, .slice (some ⟨g3, 0, none⟩) m.gaps.length y3] 50)))
    replace A3 := Lib.hid (A3.out.thru (below_alloc0 w3 (.cells #[.bool m.inner, .int .i64 m.lo, .slice (some ⟨g1, 0, none⟩) m.ends.length y1, .slice (some ⟨g2, 0, none⟩) m.slots.length y2, .slice (some ⟨g3, 0, none⟩) m.gaps.length y3] 50)))
    replace HND := Lib.hid (HND.out.thru (below_alloc0 w3 (.cells #[.bool m.inner, .int .i64 m.lo, .slice (some ⟨g1, 0, none⟩) m.ends.length y1, .slice (some ⟨g2, 0, none⟩) m.slots.length y2, .slice (some ⟨g3, 0, none⟩) m.gaps.length y3] 50)))
    have HAB := Lib.hid (Blk.new w3 50 #[.bool m.inner, .int .i64 m.lo, .slice (some ⟨g1, 0, none⟩) m.ends.length y1, .slice (some ⟨g2, 0, none⟩) m.slots.length y2, .slice (some ⟨g3, 0, none⟩) m.gaps.length y3])
    go_upto_region 12 with fail
    have HZ := Lib.hid (World.size_alloc w3 (.cells #[.bool m.inner, .int .i64 m.lo, .slice (some ⟨g1, 0, none⟩) m.ends.length y1, .slice (some ⟨g2, 0, none⟩) m.slots.length y2, .slice (some ⟨g3, 0, none⟩) m.gaps.length y3] 50))
    obtain ⟨ab, hab⟩ : ∃ x, w3.heap.size = x := ⟨_, rfl⟩
    simp only [hab] at HAB HZ ⊢
    replace hab := Lib.hid hab
    generalize w3.alloc (.cells #[.bool m.inner, .int .i64 m.lo, .slice (some ⟨g1, 0, none⟩) m.ends.length y1, .slice (some ⟨g2, 0, none⟩) m.slots.length y2, .slice (some ⟨g3, 0, none⟩) m.gaps.length y3] 50) = w4 at *
    obtain ⟨l0, l1, l2, l3, l4⟩ := HLB3.out.at5
    obtain ⟨k0, k1, k2, k3, k4⟩ := HAB.out.at5
    have HONE := Lib.hid (show (#[.int .i64 0, .bool false, .bool true, .int .i64 0, .int .i64 0, .int .i64 0, .bool false, .int .i64 0, .int .i64 0, .bool m.inner, .int .i64 m.lo, .slice (some ⟨g1, 0, none⟩) m.ends.length y1, .slice (some ⟨g2, 0, none⟩) m.slots.length y2, .slice (some ⟨g3, 0, none⟩) m.gaps.length y3] : Array Value).all (·.oneCell') = true by simp [Value.oneCell'])
    go_wp2_with (refine wpList_store_row (P := Try.prog) rfl 59 (.tmp 4) (.tmp 71) rfl (lb + 1) #[.int .i64 0, .bool false, .bool true, .int .i64 0, .int .i64 0, .int .i64 0, .bool false, .int .i64 0, .int .i64 0, .bool m.inner, .int .i64 m.lo, .slice (some ⟨g1, 0, none⟩) m.ends.length y1, .slice (some ⟨g2, 0, none⟩) m.slots.length y2, .slice (some ⟨g3, 0, none⟩) m.gaps.length y3] rfl rfl 59 #[.int .i64 0, .bool false, .bool false, .int .i64 0, .int .i64 0, .int .i64 0, .bool false, .int .i64 0, .int .i64 0, .bool false, .int .i64 0, .slice none 0 0, .slice none 0 0, .slice none 0 0] HRR3.out info_res rfl HONE.out ?_)
    have A4 := Lib.hid (A3.out.own (upd_setRow HRR3.out #[.int .i64 0, .bool false, .bool true, .int .i64 0, .int .i64 0, .int .i64 0, .bool false, .int .i64 0, .int .i64 0, .bool m.inner, .int .i64 m.lo, .slice (some ⟨g1, 0, none⟩) m.ends.length y1, .slice (some ⟨g2, 0, none⟩) m.slots.length y2, .slice (some ⟨g3, 0, none⟩) m.gaps.length y3]) HN3.out HNW.out)
    have HRR4 := Lib.hid (blk_setRow HRR3.out #[.int .i64 0, .bool false, .bool true, .int .i64 0, .int .i64 0, .int .i64 0, .bool false, .int .i64 0, .int .i64 0, .bool m.inner, .int .i64 m.lo, .slice (some ⟨g1, 0, none⟩) m.ends.length y1, .slice (some ⟨g2, 0, none⟩) m.slots.length y2, .slice (some ⟨g3, 0, none⟩) m.gaps.length y3])
    have HLB4 := Lib.hid (HLB3.out.upd (upd_setRow HRR3.out #[.int .i64 0, .bool false, .bool true, .int .i64 0, .int .i64 0, .int .i64 0, .bool false, .int .i64 0, .int .i64 0, .bool m.inner, .int .i64 m.lo, .slice (some ⟨g1, 0, none⟩) m.ends.length y1, .slice (some ⟨g2, 0, none⟩) m.slots.length y2, .slice (some ⟨g3, 0, none⟩) m.gaps.length y3]) (by simp))
    have HP4 := Lib.hid (HP3.out.upd (upd_setRow HRR3.out #[.int .i64 0, .bool false, .bool true, .int .i64 0, .int .i64 0, .int .i64 0, .bool false, .int .i64 0, .int .i64 0, .bool m.inner, .int .i64 m.lo, .slice (some ⟨g1, 0, none⟩) m.ends.length y1, .slice (some ⟨g2, 0, none⟩) m.slots.length y2, .slice (some ⟨g3, 0, none⟩) m.gaps.length y3]) (by have := HPL.out; have := hlb.out; simp; omega))
    clear k0 k1 k2 k3 k4
    have HND4 := Lib.hid (HND.out.off HRR3.out (by decide) (upd_setRow HRR3.out #[.int .i64 0, .bool false, .bool true, .int .i64 0, .int .i64 0, .int .i64 0, .bool false, .int .i64 0, .int .i64 0, .bool m.inner, .int .i64 m.lo, .slice (some ⟨g1, 0, none⟩) m.ends.length y1, .slice (some ⟨g2, 0, none⟩) m.slots.length y2, .slice (some ⟨g3, 0, none⟩) m.gaps.length y3]))
    clear l0 l1 l2 l3 l4
    generalize w4.setRow (lb + 1) #[.int .i64 0, .bool false, .bool true, .int .i64 0, .int .i64 0, .int .i64 0, .bool false, .int .i64 0, .int .i64 0, .bool m.inner, .int .i64 m.lo, .slice (some ⟨g1, 0, none⟩) m.ends.length y1, .slice (some ⟨g2, 0, none⟩) m.slots.length y2, .slice (some ⟨g3, 0, none⟩) m.gaps.length y3] = w5 at *
    have HD := Lib.hid (t_dry p.m p.c p.t σ3.mu s3 F3 w5 A4.out.tl.tm)
    rw [A4.out.over, Bool.not_false, Bool.and_true] at HD
    cases hdry : s3.dry with
    | true =>
      rw [hdry] at HD
      have HE := Lib.hid (A4.out.ends_dry (r := look2R hd) (pb := pb) (ty := 59) (R := RR) (HX.out.end_dry hdry ⟨0, false, true, zeroArea, some m⟩) hdry)
      clear hdry
      go_wp2_with fail
      refine HD.out.mono ?_
      rintro e w6 ⟨rfl, rfl⟩
      go_wp2
      go_end0
      exact HE.out
    | false =>
      rw [hdry] at HD
      have HE := Lib.hid (A4.out.ends_put (r := look2R hd) (R := RR) (HX.out.end_ret) hdry HPF.out HPL.out (upd_setRow HP4.out #[.int .i64 0, .bool false, .bool true, .int .i64 0, .int .i64 0, .int .i64 0, .bool false, .int .i64 0, .int .i64 0, .bool m.inner, .int .i64 m.lo, .slice (some ⟨g1, 0, none⟩) m.ends.length y1, .slice (some ⟨g2, 0, none⟩) m.slots.length y2, .slice (some ⟨g3, 0, none⟩) m.gaps.length y3]) (blk_setRow HP4.out #[.int .i64 0, .bool false, .bool true, .int .i64 0, .int .i64 0, .int .i64 0, .bool false, .int .i64 0, .int .i64 0, .bool m.inner, .int .i64 m.lo, .slice (some ⟨g1, 0, none⟩) m.ends.length y1, .slice (some ⟨g2, 0, none⟩) m.slots.length y2, .slice (some ⟨g3, 0, none⟩) m.gaps.length y3]) (⟨_, _, _, _, _, rfl, HND4.out.off HP4.out (by decide) (upd_setRow HP4.out #[.int .i64 0, .bool false, .bool true, .int .i64 0, .int .i64 0, .int .i64 0, .bool false, .int .i64 0, .int .i64 0, .bool m.inner, .int .i64 m.lo, .slice (some ⟨g1, 0, none⟩) m.ends.length y1, .slice (some ⟨g2, 0, none⟩) m.slots.length y2, .slice (some ⟨g3, 0, none⟩) m.gaps.length y3])⟩))
      clear hdry
      go_wp2_with fail
      refine HD.out.mono ?_
      rintro e w6 ⟨rfl, rfl⟩
      obtain ⟨l0, l1, l2, l3, l4⟩ := HLB4.out.at5
      go_wp2_with (first | (refine wpList_load_row (P := Try.prog) rfl 59 (.tmp 4) rfl (lb + 1) rfl 59 #[.int .i64 0, .bool false, .bool true, .int .i64 0, .int .i64 0, .int .i64 0, .bool false, .int .i64 0, .int .i64 0, .bool m.inner, .int .i64 m.lo, .slice (some ⟨g1, 0, none⟩) m.ends.length y1, .slice (some ⟨g2, 0, none⟩) m.slots.length y2, .slice (some ⟨g3, 0, none⟩) m.gaps.length y3] (0, 0) _ HRR4.out Try.underlying59 rfl info_res ?_) | (refine wpList_store_row (P := Try.prog) rfl 59 (.tmp 78) (.tmp 77) rfl pb #[.int .i64 0, .bool false, .bool true, .int .i64 0, .int .i64 0, .int .i64 0, .bool false, .int .i64 0, .int .i64 0, .bool m.inner, .int .i64 m.lo, .slice (some ⟨g1, 0, none⟩) m.ends.length y1, .slice (some ⟨g2, 0, none⟩) m.slots.length y2, .slice (some ⟨g3, 0, none⟩) m.gaps.length y3] rfl rfl 59 cs0 HP4.out info_res HC0.out HONE.out ?_))
      go_end0
      exact HE.out
end Go.Proofs.Ytldccemgfjmcdaa
