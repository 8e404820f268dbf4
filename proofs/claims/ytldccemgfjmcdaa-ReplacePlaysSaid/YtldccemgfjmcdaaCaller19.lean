/- Law 19: a task of one call: caller.run. -/
import Derived.Test.YtldccemgfjmcdaaReserve19
import Derived.Test.YtldccemgfjmcdaaReclaim19
import Derived.Test.YtldccemgfjmcdaaAll16
import Derived.Laws.Tables
import Derived.Deep.Onto
namespace Go.Proofs.Ytldccemgfjmcdaa
open Go.RowKit
set_option linter.unusedSimpArgs false
set_option linter.unusedVariables false

structure V19 where
  h : Int
  l : List Int
  ok : Bool
  n : Int
/-- How it lies. -/
def R19 (B : Nat) (w : World) (v : V19) (cs : Array Value) : Prop :=
  ∃ A c, cs = #[.int .i64 v.h, .slice A v.l.length c, .bool v.ok, .int .i64 v.n] ∧ w.ownsRow B 2 1 (.slice A v.l.length c) v.l.length (i64s v.l) ∧ WfI v.h ∧ ∀ x ∈ v.l, WfI x
theorem own_off19 {w w' : World} {B z n c b : Nat} {t t' : TypeId} {A : Option Addr} {xs : List Value} {u : Array Value} (h : w.ownsRow B t z (.slice A n c) n xs) (hb : Blk w b t' u) (hne : t ≠ t') (hu : Upd [b] w w') : w'.ownsRow B t z (.slice A n c) n xs :=
  ownsRow_upd h hu fun x hx hin => by
    simp only [List.mem_singleton] at hin
    subst hin
    exact blk_notin h hb hne hx
theorem R19.off {B : Nat} {w w' : World} {v : V19} {cs : Array Value} {b : Nat} {t' : TypeId} {u : Array Value} (h : R19 B w v cs) (hb : Blk w b t' u) (h2 : 2 ≠ t') (hu : Upd [b] w w') : R19 B w' v cs := by
  obtain ⟨A, c, rfl, hn, hw⟩ := h
  exact ⟨A, c, rfl, own_off19 hn hb h2 hu, hw⟩
theorem R19.thru {B : Nat} {w w' : World} {v : V19} {cs : Array Value} (h : R19 B w v cs) (hb : Below w.heap.size w w') : R19 B w' v cs := by
  obtain ⟨A, c, rfl, hn, hw⟩ := h
  exact ⟨A, c, rfl, ownsRow_upd hn (Upd.of_below hb (F := [])) (by simp), hw⟩
theorem R19.apart (B t : Nat) : Apart t (R19 B) := fun w w' v cs u hb h hu => h.off hb (by decide) hu
theorem R19.plain (B : Nat) (w : World) {h n : Int} (hh : WfI h) (o : Bool) : R19 B w ⟨h, [], o, n⟩ #[.int .i64 h, .slice none 0 0, .bool o, .int .i64 n] :=
  ⟨none, 0, rfl, World.ownsRow_nil _ _ _ _, hh, by simp⟩
theorem info_res19 : (Try.prog.info? 84).map (·.size) = some 4 := by kernel_rfl
/-- What is handed to caller.run. -/
def callArg (lb pb : Nat) (k a o h tag kind : Int) : Value := .agg #[.pointer (some ⟨lb, 0, none⟩), .int .u8 k, .int .u8 a, .int .u8 o, .int .i64 h, .int .i64 tag, .pointer (some ⟨pb, 0, none⟩), .int .u8 kind]
def call0R : Res LandS V19 := takeR.bind fun h => .ret ⟨h, [], false, 0⟩
def call1R (h : Int) : Res LandS V19 := (giveR h).bind fun _ => .ret ⟨0, [], false, 0⟩
def call2R (h tag n : Int) : Res LandS V19 := (retireR h tag n).bind fun _ => .ret ⟨0, [], false, 0⟩
def call3R (k : Nat) : Res LandS V19 := (reserveGo k []).bind fun o => .ret ⟨0, o.getD [], o.isSome, 0⟩
def call4R (n : Int) (most : Nat) : Res LandS V19 := (reclaimR n most).bind fun k => .ret ⟨0, [], false, k⟩
def call5R (tag : Int) : Res LandS V19 := (stR 4 tag).bind fun _ => .ret ⟨0, [], false, 0⟩
section
variable {β : Type} {r0 rest : Res LandS β} {σ0 σ : LandS} {s0 s : TrS} {w0 w : World} {p : Pl} {lb pb : Nat} {n : Int} {F0 F : List Nat} {N : Nat} {ty : TypeId} {R : World → β → Array Value → Prop}
theorem Wk.post_dry (h : Wk r0 σ0 s0 w0 w p lb n F0 N rest σ s F) (hd : s.dry = true) (v : β) : TaskPostL (TaskQL w0 p σ0 s0 F0 r0 pb ty R) p (.returned (.tuple #[])) w :=
  h.at_.ends_dry (h.goes.end_dry hd v) hd
theorem Wk.post_put {w2 : World} {v : β} {cs : Array Value} (h : Wk r0 σ0 s0 w0 w p lb n F0 N (.ret v) σ s F) (hd : s.dry = false) (hp : pb ∉ p.all F0) (hp0 : pb < w0.heap.size) (hu : Upd [pb] w w2) (hb : Blk w2 pb ty cs) (hR : R w2 v cs) : TaskPostL (TaskQL w0 p σ0 s0 F0 r0 pb ty R) p (.returned (.tuple #[])) w2 :=
  h.at_.ends_put h.goes.end_ret hd hp hp0 hu hb hR
end
set_option maxRecDepth 100000 in
set_option maxHeartbeats 4000000 in
theorem caller_run0 (B : Nat) (lb : Nat) (n : Int) (k a o h tag : Int) (pb : Nat) (cs0 : Array Value) (hc0 : cs0.size = 4) (p : Pl) (σ : LandS) (s : TrS) (F : List Nat) (N : Nat) (w : World) (ht : TL w p σ s F) (hi : s.In N) (hN : N ≤ 1000000) (hov : s.over = false)
    (hp : Blk w pb 84 cs0) (hpf : pb ∉ p.all F) (hl : Blk w lb 93 #[.pointer (some ⟨p.m, 0, none⟩), .pointer (some ⟨p.a, 0, none⟩), .int .i64 n]) (hf : lb ∉ p.all F) :
    Calls Try.prog 71 #[callArg lb pb k a o h tag 0, .pointer (some ⟨p.t, 0, none⟩)] w (TaskPostL (TaskQL w p σ s F call0R pb 84 (R19 B)) p) := by
  have W0 := Lib.hid (Wk.start ht hi hov hl hf call0R)
  have HP := Lib.hid hp
  have HPF := Lib.hid hpf
  have HPL := Lib.hid hp.lt
  have HLT := Lib.hid ht.lt
  have HC0 := Lib.hid hc0
  clear ht hi hov hl hf hp hpf hc0
  unfold callArg
  go_enter Try.func71, Try.ntmps71
  replace W0 := Lib.hid (W0.out.thru (below_alloc0 w (.cells #[.pointer (some ⟨lb, 0, none⟩), .int .u8 k, .int .u8 a, .int .u8 o, .int .i64 h, .int .i64 tag, .pointer (some ⟨pb, 0, none⟩), .int .u8 0] 91)))
  replace HP := Lib.hid (HP.out.thru (below_alloc0 w (.cells #[.pointer (some ⟨lb, 0, none⟩), .int .u8 k, .int .u8 a, .int .u8 o, .int .i64 h, .int .i64 tag, .pointer (some ⟨pb, 0, none⟩), .int .u8 0] 91)))
  have HCB := Lib.hid (Blk.new w 91 #[.pointer (some ⟨lb, 0, none⟩), .int .u8 k, .int .u8 a, .int .u8 o, .int .i64 h, .int .i64 tag, .pointer (some ⟨pb, 0, none⟩), .int .u8 0])
  go_upto_region 1 with fail
  have HZ := Lib.hid (World.size_alloc w (.cells #[.pointer (some ⟨lb, 0, none⟩), .int .u8 k, .int .u8 a, .int .u8 o, .int .i64 h, .int .i64 tag, .pointer (some ⟨pb, 0, none⟩), .int .u8 0] 91))
  obtain ⟨cb, hcb⟩ : ∃ x, w.heap.size = x := ⟨_, rfl⟩
  simp only [hcb] at HCB HZ ⊢
  replace hcb := Lib.hid hcb
  generalize w.alloc (.cells #[.pointer (some ⟨lb, 0, none⟩), .int .u8 k, .int .u8 a, .int .u8 o, .int .i64 h, .int .i64 tag, .pointer (some ⟨pb, 0, none⟩), .int .u8 0] 91) = w1 at *
  have HZ1 := Lib.hid HZ.out
  replace W0 := Lib.hid (W0.out.thru (below_alloc0 w1 (.cells #[.int .i64 0, .slice none 0 0, .bool false, .int .i64 0] 84)))
  replace HP := Lib.hid (HP.out.thru (below_alloc0 w1 (.cells #[.int .i64 0, .slice none 0 0, .bool false, .int .i64 0] 84)))
  replace HCB := Lib.hid (HCB.out.thru (below_alloc0 w1 (.cells #[.int .i64 0, .slice none 0 0, .bool false, .int .i64 0] 84)))
  have HRR := Lib.hid (Blk.new w1 84 #[.int .i64 0, .slice none 0 0, .bool false, .int .i64 0])
  rw [HZ.out] at HRR
  try simp only [HZ.out]
  replace HZ := Lib.hid (show (w1.alloc (.cells #[.int .i64 0, .slice none 0 0, .bool false, .int .i64 0] 84)).heap.size = cb + 1 + 1 by rw [World.size_alloc, HZ.out])
  go_upto_region 2 with fail
  generalize w1.alloc (.cells #[.int .i64 0, .slice none 0 0, .bool false, .int .i64 0] 84) = w2 at *
  simp only [HZ1.out]
  clear HZ1
  have HNW := Lib.hid (show w.heap.size ≤ cb + 1 by rw [hcb.out]; omega)
  have HN1 := Lib.hid (show cb ∉ p.all F from fun hin => by have := HLT.out _ hin; have := hcb.out; omega)
  have HN2 := Lib.hid (show cb + 1 ∉ p.all F from fun hin => by have := HLT.out _ hin; have := hcb.out; omega)
  have HLB2 := Lib.hid (show lb ≠ cb + 1 from fun e => by have h1 := W0.out.land.lt; have h2 := HRR.out; have := (W0.out.land.inj (e ▸ h2)).1; exact absurd this (by decide))
  clear HZ HLT
  obtain ⟨l0, l1, l2, l3, l4, l5, l6, l7⟩ := HCB.out.at8
  have HT := Lib.hid (replace_take p lb n σ s F N w2 W0.out.at_.tl W0.out.at_.inn hN W0.out.at_.over W0.out.land W0.out.far)
  go_wp2_with fail
  refine HT.out.mono ?_
  rintro e w3 hd
  obtain ⟨v, x, σ3, s3, F3, rfl, ⟨rfl, hwf⟩, hw, hk⟩ := W0.out.call hd
  have HWV := Lib.hid hwf
  clear hd hwf HT
  have HCB3 := Lib.hid (hk.blk HCB.out HN1.out)
  have HRR3 := Lib.hid (hk.blk HRR.out HN2.out)
  have HP3 := Lib.hid (hk.blk HP.out HPF.out)
  have HN3 := Lib.hid (hk.notin HRR.out.lt HN2.out)
  have W3 := Lib.hid hw
  clear l0 l1 l2 l3 l4 l5 l6 l7
  clear W0 HCB HRR HP HN1 HN2 hk hw
  obtain ⟨l0, l1, l2, l3, l4, l5, l6, l7⟩ := HCB3.out.at8
  obtain ⟨f0, f1, f2, f3⟩ := HRR3.out.fr4
  obtain ⟨q0, q1, q2, q3⟩ := HRR3.out.at4
  go_upto_region 16 with fail
  clear f0 f1 f2 f3 q0 q1 q2 q3
  have hux : Upd [cb + 1] w3 ((w3).setCell ⟨cb + 1, 0, none⟩ (.int .i64 v)) := (Upd.refl _ _).put (.inl (by simp)) _
  have W4 := Lib.hid (W3.out.own hux (by intro b hb hin; simp at hin; exact HN3.out (hin ▸ hb)) (by simp; exact HLB2.out) (by simp; exact HNW.out))
  have HRR4 := Lib.hid (show Blk ((w3).setCell ⟨cb + 1, 0, none⟩ (.int .i64 v)) (cb + 1) 84 #[.int .i64 v, .slice none 0 0, .bool false, .int .i64 0] from HRR3.out.put 0 _)
  have HCB4 := Lib.hid (HCB3.out.upd hux (by simp))
  have HP4 := Lib.hid (HP3.out.upd hux (by have := HPL.out; have := HNW.out; simp; omega))
  have HUX := Lib.hid (show Upd [cb + 1] w3 _ from hux)
  have HRB3 := Lib.hid HRR3.out
  clear hux l0 l1 l2 l3 l4 l5 l6 l7 W3 HRR3 HCB3 HP3
  generalize (w3).setCell ⟨cb + 1, 0, none⟩ (.int .i64 v) = w4 at *
  have W3 := Lib.hid W4.out
  have HRR3 := Lib.hid HRR4.out
  have HCB3 := Lib.hid HCB4.out
  have HP3 := Lib.hid HP4.out
  clear W4 HRR4 HCB4 HP4
  obtain ⟨l0, l1, l2, l3, l4, l5, l6, l7⟩ := HCB3.out.at8
  have HRG := Lib.hid (R19.plain B w4 (n := 0) HWV.out false)
  have HONE := Lib.hid (show (#[.int .i64 v, .slice none 0 0, .bool false, .int .i64 0] : Array Value).all (·.oneCell') = true by simp [Value.oneCell'])
  have HD := Lib.hid (W3.out.dry_ok)
  cases hdry : s3.dry with
  | true =>
    rw [hdry] at HD
    have HE := Lib.hid (W3.out.post_dry (pb := pb) (ty := 84) (R := R19 B) hdry ⟨v, [], false, 0⟩)
    clear hdry W3
    go_wp2_with fail
    refine HD.out.mono ?_
    rintro e w6 ⟨rfl, rfl⟩
    go_wp2
    go_end0
    exact HE.out
  | false =>
    rw [hdry] at HD
    have HRG5 := Lib.hid (HRG.out.off HP3.out (by decide) (upd_setRow HP3.out #[.int .i64 v, .slice none 0 0, .bool false, .int .i64 0]))
    have HE := Lib.hid (W3.out.post_put (ty := 84) (R := R19 B) hdry HPF.out HPL.out (upd_setRow HP3.out #[.int .i64 v, .slice none 0 0, .bool false, .int .i64 0]) (blk_setRow HP3.out #[.int .i64 v, .slice none 0 0, .bool false, .int .i64 0]) HRG5.out)
    clear hdry W3
    go_wp2_with fail
    refine HD.out.mono ?_
    rintro e w6 ⟨rfl, rfl⟩
    go_wp2_with (first | (refine wpList_load_row (P := Try.prog) rfl 84 (.tmp 4) rfl (cb + 1) rfl 84 #[.int .i64 v, .slice none 0 0, .bool false, .int .i64 0] (0, 0) _ HRR3.out Try.underlying84 rfl info_res19 ?_) | (refine wpList_store_row (P := Try.prog) rfl 84 (.tmp 72) (.tmp 71) rfl pb #[.int .i64 v, .slice none 0 0, .bool false, .int .i64 0] rfl rfl 84 cs0 HP3.out info_res19 HC0.out HONE.out ?_))
    go_end0
    exact HE.out
set_option maxRecDepth 100000 in
set_option maxHeartbeats 4000000 in
theorem caller_run1 (B : Nat) (lb : Nat) (n : Int) (k a o h tag : Int) (hh : WfI h) (pb : Nat) (cs0 : Array Value) (hc0 : cs0.size = 4) (p : Pl) (σ : LandS) (s : TrS) (F : List Nat) (N : Nat) (w : World) (ht : TL w p σ s F) (hi : s.In N) (hN : N ≤ 1000000) (hov : s.over = false)
    (hp : Blk w pb 84 cs0) (hpf : pb ∉ p.all F) (hl : Blk w lb 93 #[.pointer (some ⟨p.m, 0, none⟩), .pointer (some ⟨p.a, 0, none⟩), .int .i64 n]) (hf : lb ∉ p.all F) :
    Calls Try.prog 71 #[callArg lb pb k a o h tag 1, .pointer (some ⟨p.t, 0, none⟩)] w (TaskPostL (TaskQL w p σ s F (call1R h) pb 84 (R19 B)) p) := by
  have HH := Lib.hid hh
  clear hh
  have W0 := Lib.hid (Wk.start ht hi hov hl hf (call1R h))
  have HP := Lib.hid hp
  have HPF := Lib.hid hpf
  have HPL := Lib.hid hp.lt
  have HLT := Lib.hid ht.lt
  have HC0 := Lib.hid hc0
  clear ht hi hov hl hf hp hpf hc0
  unfold callArg
  go_enter Try.func71, Try.ntmps71
  replace W0 := Lib.hid (W0.out.thru (below_alloc0 w (.cells #[.pointer (some ⟨lb, 0, none⟩), .int .u8 k, .int .u8 a, .int .u8 o, .int .i64 h, .int .i64 tag, .pointer (some ⟨pb, 0, none⟩), .int .u8 1] 91)))
  replace HP := Lib.hid (HP.out.thru (below_alloc0 w (.cells #[.pointer (some ⟨lb, 0, none⟩), .int .u8 k, .int .u8 a, .int .u8 o, .int .i64 h, .int .i64 tag, .pointer (some ⟨pb, 0, none⟩), .int .u8 1] 91)))
  have HCB := Lib.hid (Blk.new w 91 #[.pointer (some ⟨lb, 0, none⟩), .int .u8 k, .int .u8 a, .int .u8 o, .int .i64 h, .int .i64 tag, .pointer (some ⟨pb, 0, none⟩), .int .u8 1])
  go_upto_region 1 with fail
  have HZ := Lib.hid (World.size_alloc w (.cells #[.pointer (some ⟨lb, 0, none⟩), .int .u8 k, .int .u8 a, .int .u8 o, .int .i64 h, .int .i64 tag, .pointer (some ⟨pb, 0, none⟩), .int .u8 1] 91))
  obtain ⟨cb, hcb⟩ : ∃ x, w.heap.size = x := ⟨_, rfl⟩
  simp only [hcb] at HCB HZ ⊢
  replace hcb := Lib.hid hcb
  generalize w.alloc (.cells #[.pointer (some ⟨lb, 0, none⟩), .int .u8 k, .int .u8 a, .int .u8 o, .int .i64 h, .int .i64 tag, .pointer (some ⟨pb, 0, none⟩), .int .u8 1] 91) = w1 at *
  have HZ1 := Lib.hid HZ.out
  replace W0 := Lib.hid (W0.out.thru (below_alloc0 w1 (.cells #[.int .i64 0, .slice none 0 0, .bool false, .int .i64 0] 84)))
  replace HP := Lib.hid (HP.out.thru (below_alloc0 w1 (.cells #[.int .i64 0, .slice none 0 0, .bool false, .int .i64 0] 84)))
  replace HCB := Lib.hid (HCB.out.thru (below_alloc0 w1 (.cells #[.int .i64 0, .slice none 0 0, .bool false, .int .i64 0] 84)))
  have HRR := Lib.hid (Blk.new w1 84 #[.int .i64 0, .slice none 0 0, .bool false, .int .i64 0])
  rw [HZ.out] at HRR
  try simp only [HZ.out]
  replace HZ := Lib.hid (show (w1.alloc (.cells #[.int .i64 0, .slice none 0 0, .bool false, .int .i64 0] 84)).heap.size = cb + 1 + 1 by rw [World.size_alloc, HZ.out])
  go_upto_region 2 with fail
  generalize w1.alloc (.cells #[.int .i64 0, .slice none 0 0, .bool false, .int .i64 0] 84) = w2 at *
  simp only [HZ1.out]
  clear HZ1
  have HNW := Lib.hid (show w.heap.size ≤ cb + 1 by rw [hcb.out]; omega)
  have HN1 := Lib.hid (show cb ∉ p.all F from fun hin => by have := HLT.out _ hin; have := hcb.out; omega)
  have HN2 := Lib.hid (show cb + 1 ∉ p.all F from fun hin => by have := HLT.out _ hin; have := hcb.out; omega)
  have HLB2 := Lib.hid (show lb ≠ cb + 1 from fun e => by have h1 := W0.out.land.lt; have h2 := HRR.out; have := (W0.out.land.inj (e ▸ h2)).1; exact absurd this (by decide))
  clear HZ HLT
  obtain ⟨l0, l1, l2, l3, l4, l5, l6, l7⟩ := HCB.out.at8
  have HT := Lib.hid (replace_give h p lb n σ s F N w2 W0.out.at_.tl W0.out.at_.inn hN W0.out.at_.over W0.out.land W0.out.far HH.out)
  go_wp2_with fail
  refine HT.out.mono ?_
  rintro e w3 hd
  obtain ⟨v, x, σ3, s3, F3, rfl, rfl, hw, hk⟩ := W0.out.call hd
  clear hd HT
  have HCB3 := Lib.hid (hk.blk HCB.out HN1.out)
  have HRR3 := Lib.hid (hk.blk HRR.out HN2.out)
  have HP3 := Lib.hid (hk.blk HP.out HPF.out)
  have HN3 := Lib.hid (hk.notin HRR.out.lt HN2.out)
  have W3 := Lib.hid hw
  clear l0 l1 l2 l3 l4 l5 l6 l7
  clear W0 HCB HRR HP HN1 HN2 hk hw
  obtain ⟨l0, l1, l2, l3, l4, l5, l6, l7⟩ := HCB3.out.at8
  have HRG := Lib.hid (R19.plain B w3 (h := 0) (n := 0) WfI.zero false)
  have HONE := Lib.hid (show (#[.int .i64 0, .slice none 0 0, .bool false, .int .i64 0] : Array Value).all (·.oneCell') = true by simp [Value.oneCell'])
  have HD := Lib.hid (W3.out.dry_ok)
  cases hdry : s3.dry with
  | true =>
    rw [hdry] at HD
    have HE := Lib.hid (W3.out.post_dry (pb := pb) (ty := 84) (R := R19 B) hdry ⟨0, [], false, 0⟩)
    clear hdry W3
    go_wp2_with fail
    refine HD.out.mono ?_
    rintro e w6 ⟨rfl, rfl⟩
    go_wp2
    go_end0
    exact HE.out
  | false =>
    rw [hdry] at HD
    have HRG5 := Lib.hid (HRG.out.off HP3.out (by decide) (upd_setRow HP3.out #[.int .i64 0, .slice none 0 0, .bool false, .int .i64 0]))
    have HE := Lib.hid (W3.out.post_put (ty := 84) (R := R19 B) hdry HPF.out HPL.out (upd_setRow HP3.out #[.int .i64 0, .slice none 0 0, .bool false, .int .i64 0]) (blk_setRow HP3.out #[.int .i64 0, .slice none 0 0, .bool false, .int .i64 0]) HRG5.out)
    clear hdry W3
    go_wp2_with fail
    refine HD.out.mono ?_
    rintro e w6 ⟨rfl, rfl⟩
    go_wp2_with (first | (refine wpList_load_row (P := Try.prog) rfl 84 (.tmp 4) rfl (cb + 1) rfl 84 #[.int .i64 0, .slice none 0 0, .bool false, .int .i64 0] (0, 0) _ HRR3.out Try.underlying84 rfl info_res19 ?_) | (refine wpList_store_row (P := Try.prog) rfl 84 (.tmp 72) (.tmp 71) rfl pb #[.int .i64 0, .slice none 0 0, .bool false, .int .i64 0] rfl rfl 84 cs0 HP3.out info_res19 HC0.out HONE.out ?_))
    go_end0
    exact HE.out
set_option maxRecDepth 100000 in
set_option maxHeartbeats 4000000 in
theorem caller_run2 (B : Nat) (lb : Nat) (n : Int) (h1 : 1 ≤ n) (h2 : n ≤ 1000) (k a o h tag : Int) (hh : WfI h) (hg : WfI tag) (pb : Nat) (cs0 : Array Value) (hc0 : cs0.size = 4) (p : Pl) (σ : LandS) (s : TrS) (F : List Nat) (N : Nat) (w : World) (ht : TL w p σ s F) (hi : s.In N) (hN : N ≤ 1000000) (hov : s.over = false)
    (hp : Blk w pb 84 cs0) (hpf : pb ∉ p.all F) (hl : Blk w lb 93 #[.pointer (some ⟨p.m, 0, none⟩), .pointer (some ⟨p.a, 0, none⟩), .int .i64 n]) (hf : lb ∉ p.all F) :
    Calls Try.prog 71 #[callArg lb pb k a o h tag 2, .pointer (some ⟨p.t, 0, none⟩)] w (TaskPostL (TaskQL w p σ s F (call2R h tag n) pb 84 (R19 B)) p) := by
  have HH := Lib.hid hh
  have HG := Lib.hid hg
  have HN1' := Lib.hid h1
  have HN2' := Lib.hid h2
  clear hh hg h1 h2
  have W0 := Lib.hid (Wk.start ht hi hov hl hf (call2R h tag n))
  have HP := Lib.hid hp
  have HPF := Lib.hid hpf
  have HPL := Lib.hid hp.lt
  have HLT := Lib.hid ht.lt
  have HC0 := Lib.hid hc0
  clear ht hi hov hl hf hp hpf hc0
  unfold callArg
  go_enter Try.func71, Try.ntmps71
  replace W0 := Lib.hid (W0.out.thru (below_alloc0 w (.cells #[.pointer (some ⟨lb, 0, none⟩), .int .u8 k, .int .u8 a, .int .u8 o, .int .i64 h, .int .i64 tag, .pointer (some ⟨pb, 0, none⟩), .int .u8 2] 91)))
  replace HP := Lib.hid (HP.out.thru (below_alloc0 w (.cells #[.pointer (some ⟨lb, 0, none⟩), .int .u8 k, .int .u8 a, .int .u8 o, .int .i64 h, .int .i64 tag, .pointer (some ⟨pb, 0, none⟩), .int .u8 2] 91)))
  have HCB := Lib.hid (Blk.new w 91 #[.pointer (some ⟨lb, 0, none⟩), .int .u8 k, .int .u8 a, .int .u8 o, .int .i64 h, .int .i64 tag, .pointer (some ⟨pb, 0, none⟩), .int .u8 2])
  go_upto_region 1 with fail
  have HZ := Lib.hid (World.size_alloc w (.cells #[.pointer (some ⟨lb, 0, none⟩), .int .u8 k, .int .u8 a, .int .u8 o, .int .i64 h, .int .i64 tag, .pointer (some ⟨pb, 0, none⟩), .int .u8 2] 91))
  obtain ⟨cb, hcb⟩ : ∃ x, w.heap.size = x := ⟨_, rfl⟩
  simp only [hcb] at HCB HZ ⊢
  replace hcb := Lib.hid hcb
  generalize w.alloc (.cells #[.pointer (some ⟨lb, 0, none⟩), .int .u8 k, .int .u8 a, .int .u8 o, .int .i64 h, .int .i64 tag, .pointer (some ⟨pb, 0, none⟩), .int .u8 2] 91) = w1 at *
  have HZ1 := Lib.hid HZ.out
  replace W0 := Lib.hid (W0.out.thru (below_alloc0 w1 (.cells #[.int .i64 0, .slice none 0 0, .bool false, .int .i64 0] 84)))
  replace HP := Lib.hid (HP.out.thru (below_alloc0 w1 (.cells #[.int .i64 0, .slice none 0 0, .bool false, .int .i64 0] 84)))
  replace HCB := Lib.hid (HCB.out.thru (below_alloc0 w1 (.cells #[.int .i64 0, .slice none 0 0, .bool false, .int .i64 0] 84)))
  have HRR := Lib.hid (Blk.new w1 84 #[.int .i64 0, .slice none 0 0, .bool false, .int .i64 0])
  rw [HZ.out] at HRR
  try simp only [HZ.out]
  replace HZ := Lib.hid (show (w1.alloc (.cells #[.int .i64 0, .slice none 0 0, .bool false, .int .i64 0] 84)).heap.size = cb + 1 + 1 by rw [World.size_alloc, HZ.out])
  go_upto_region 2 with fail
  generalize w1.alloc (.cells #[.int .i64 0, .slice none 0 0, .bool false, .int .i64 0] 84) = w2 at *
  simp only [HZ1.out]
  clear HZ1
  have HNW := Lib.hid (show w.heap.size ≤ cb + 1 by rw [hcb.out]; omega)
  have HN1 := Lib.hid (show cb ∉ p.all F from fun hin => by have := HLT.out _ hin; have := hcb.out; omega)
  have HN2 := Lib.hid (show cb + 1 ∉ p.all F from fun hin => by have := HLT.out _ hin; have := hcb.out; omega)
  have HLB2 := Lib.hid (show lb ≠ cb + 1 from fun e => by have h1 := W0.out.land.lt; have h2 := HRR.out; have := (W0.out.land.inj (e ▸ h2)).1; exact absurd this (by decide))
  clear HZ HLT
  obtain ⟨l0, l1, l2, l3, l4, l5, l6, l7⟩ := HCB.out.at8
  have HT := Lib.hid (replace_retire h tag p lb n σ s F N w2 W0.out.at_.tl W0.out.at_.inn hN W0.out.at_.over W0.out.land W0.out.far HN1'.out HN2'.out HH.out HG.out)
  go_wp2_with fail
  refine HT.out.mono ?_
  rintro e w3 hd
  obtain ⟨v, x, σ3, s3, F3, rfl, rfl, hw, hk⟩ := W0.out.call hd
  clear hd HT
  have HCB3 := Lib.hid (hk.blk HCB.out HN1.out)
  have HRR3 := Lib.hid (hk.blk HRR.out HN2.out)
  have HP3 := Lib.hid (hk.blk HP.out HPF.out)
  have HN3 := Lib.hid (hk.notin HRR.out.lt HN2.out)
  have W3 := Lib.hid hw
  clear l0 l1 l2 l3 l4 l5 l6 l7
  clear W0 HCB HRR HP HN1 HN2 hk hw
  obtain ⟨l0, l1, l2, l3, l4, l5, l6, l7⟩ := HCB3.out.at8
  have HRG := Lib.hid (R19.plain B w3 (h := 0) (n := 0) WfI.zero false)
  have HONE := Lib.hid (show (#[.int .i64 0, .slice none 0 0, .bool false, .int .i64 0] : Array Value).all (·.oneCell') = true by simp [Value.oneCell'])
  have HD := Lib.hid (W3.out.dry_ok)
  cases hdry : s3.dry with
  | true =>
    rw [hdry] at HD
    have HE := Lib.hid (W3.out.post_dry (pb := pb) (ty := 84) (R := R19 B) hdry ⟨0, [], false, 0⟩)
    clear hdry W3
    go_wp2_with fail
    refine HD.out.mono ?_
    rintro e w6 ⟨rfl, rfl⟩
    go_wp2
    go_end0
    exact HE.out
  | false =>
    rw [hdry] at HD
    have HRG5 := Lib.hid (HRG.out.off HP3.out (by decide) (upd_setRow HP3.out #[.int .i64 0, .slice none 0 0, .bool false, .int .i64 0]))
    have HE := Lib.hid (W3.out.post_put (ty := 84) (R := R19 B) hdry HPF.out HPL.out (upd_setRow HP3.out #[.int .i64 0, .slice none 0 0, .bool false, .int .i64 0]) (blk_setRow HP3.out #[.int .i64 0, .slice none 0 0, .bool false, .int .i64 0]) HRG5.out)
    clear hdry W3
    go_wp2_with fail
    refine HD.out.mono ?_
    rintro e w6 ⟨rfl, rfl⟩
    go_wp2_with (first | (refine wpList_load_row (P := Try.prog) rfl 84 (.tmp 4) rfl (cb + 1) rfl 84 #[.int .i64 0, .slice none 0 0, .bool false, .int .i64 0] (0, 0) _ HRR3.out Try.underlying84 rfl info_res19 ?_) | (refine wpList_store_row (P := Try.prog) rfl 84 (.tmp 72) (.tmp 71) rfl pb #[.int .i64 0, .slice none 0 0, .bool false, .int .i64 0] rfl rfl 84 cs0 HP3.out info_res19 HC0.out HONE.out ?_))
    go_end0
    exact HE.out
set_option maxRecDepth 100000 in
set_option maxHeartbeats 4000000 in
theorem caller_run3 (B : Nat) (lb : Nat) (n : Int) (k a h tag : Int) (q : Nat) (hq : q ≤ 255) (pb : Nat) (cs0 : Array Value) (hc0 : cs0.size = 4) (p : Pl) (σ : LandS) (s : TrS) (F : List Nat) (N : Nat) (w : World) (ht : TL w p σ s F) (hi : s.In N) (hN : N ≤ 1000000) (hov : s.over = false)
    (hp : Blk w pb 84 cs0) (hpf : pb ∉ p.all F) (hl : Blk w lb 93 #[.pointer (some ⟨p.m, 0, none⟩), .pointer (some ⟨p.a, 0, none⟩), .int .i64 n]) (hf : lb ∉ p.all F) (hB : B ≤ w.heap.size) :
    Calls Try.prog 71 #[callArg lb pb k a q h tag 3, .pointer (some ⟨p.t, 0, none⟩)] w (TaskPostL (TaskQL w p σ s F (call3R q) pb 84 (R19 B)) p) := by
  have W0 := Lib.hid (Wk.start ht hi hov hl hf (call3R q))
  have HP := Lib.hid hp
  have HPF := Lib.hid hpf
  have HPL := Lib.hid hp.lt
  have HLT := Lib.hid ht.lt
  have HC0 := Lib.hid hc0
  clear ht hi hov hl hf hp hpf hc0
  unfold callArg
  go_enter Try.func71, Try.ntmps71
  replace W0 := Lib.hid (W0.out.thru (below_alloc0 w (.cells #[.pointer (some ⟨lb, 0, none⟩), .int .u8 k, .int .u8 a, .int .u8 (q : Int), .int .i64 h, .int .i64 tag, .pointer (some ⟨pb, 0, none⟩), .int .u8 3] 91)))
  replace HP := Lib.hid (HP.out.thru (below_alloc0 w (.cells #[.pointer (some ⟨lb, 0, none⟩), .int .u8 k, .int .u8 a, .int .u8 (q : Int), .int .i64 h, .int .i64 tag, .pointer (some ⟨pb, 0, none⟩), .int .u8 3] 91)))
  have HCB := Lib.hid (Blk.new w 91 #[.pointer (some ⟨lb, 0, none⟩), .int .u8 k, .int .u8 a, .int .u8 (q : Int), .int .i64 h, .int .i64 tag, .pointer (some ⟨pb, 0, none⟩), .int .u8 3])
  go_upto_region 1 with fail
  have HZ := Lib.hid (World.size_alloc w (.cells #[.pointer (some ⟨lb, 0, none⟩), .int .u8 k, .int .u8 a, .int .u8 (q : Int), .int .i64 h, .int .i64 tag, .pointer (some ⟨pb, 0, none⟩), .int .u8 3] 91))
  obtain ⟨cb, hcb⟩ : ∃ x, w.heap.size = x := ⟨_, rfl⟩
  simp only [hcb] at HCB HZ ⊢
  replace hcb := Lib.hid hcb
  generalize w.alloc (.cells #[.pointer (some ⟨lb, 0, none⟩), .int .u8 k, .int .u8 a, .int .u8 (q : Int), .int .i64 h, .int .i64 tag, .pointer (some ⟨pb, 0, none⟩), .int .u8 3] 91) = w1 at *
  have HZ1 := Lib.hid HZ.out
  replace W0 := Lib.hid (W0.out.thru (below_alloc0 w1 (.cells #[.int .i64 0, .slice none 0 0, .bool false, .int .i64 0] 84)))
  replace HP := Lib.hid (HP.out.thru (below_alloc0 w1 (.cells #[.int .i64 0, .slice none 0 0, .bool false, .int .i64 0] 84)))
  replace HCB := Lib.hid (HCB.out.thru (below_alloc0 w1 (.cells #[.int .i64 0, .slice none 0 0, .bool false, .int .i64 0] 84)))
  have HRR := Lib.hid (Blk.new w1 84 #[.int .i64 0, .slice none 0 0, .bool false, .int .i64 0])
  rw [HZ.out] at HRR
  try simp only [HZ.out]
  replace HZ := Lib.hid (show (w1.alloc (.cells #[.int .i64 0, .slice none 0 0, .bool false, .int .i64 0] 84)).heap.size = cb + 1 + 1 by rw [World.size_alloc, HZ.out])
  go_upto_region 2 with fail
  generalize w1.alloc (.cells #[.int .i64 0, .slice none 0 0, .bool false, .int .i64 0] 84) = w2 at *
  simp only [HZ1.out]
  clear HZ1
  have HNW := Lib.hid (show w.heap.size ≤ cb + 1 by rw [hcb.out]; omega)
  have HN1 := Lib.hid (show cb ∉ p.all F from fun hin => by have := HLT.out _ hin; have := hcb.out; omega)
  have HN2 := Lib.hid (show cb + 1 ∉ p.all F from fun hin => by have := HLT.out _ hin; have := hcb.out; omega)
  have HLB2 := Lib.hid (show lb ≠ cb + 1 from fun e => by have h1 := W0.out.land.lt; have h2 := HRR.out; have := (W0.out.land.inj (e ▸ h2)).1; exact absurd this (by decide))
  clear HZ HLT
  obtain ⟨l0, l1, l2, l3, l4, l5, l6, l7⟩ := HCB.out.at8
  have HBB := Lib.hid (show B ≤ w2.heap.size from Nat.le_trans hB W0.out.at_.upd.size)
  have HT := Lib.hid (replace_reserve q (by omega) p lb n σ s F N w2 W0.out.at_.tl W0.out.at_.inn hN W0.out.at_.over W0.out.land W0.out.far)
  go_wp2_with fail
  refine HT.out.mono ?_
  rintro e w3 ⟨v, x, σ3, s3, F3, rfl, hres, hsim, htl, hk⟩
  have hw := W0.out.next hsim htl hk
  have HRS := Lib.hid hres
  clear hsim htl hres HT
  have HCB3 := Lib.hid (hk.blk HCB.out HN1.out)
  have HRR3 := Lib.hid (hk.blk HRR.out HN2.out)
  have HP3 := Lib.hid (hk.blk HP.out HPF.out)
  have HN3 := Lib.hid (hk.notin HRR.out.lt HN2.out)
  have W3 := Lib.hid hw
  clear l0 l1 l2 l3 l4 l5 l6 l7
  clear W0 HCB HRR HP HN1 HN2 hk hw
  obtain ⟨l0, l1, l2, l3, l4, l5, l6, l7⟩ := HCB3.out.at8
  cases v with
  | none =>
    obtain rfl := HRS.out
    obtain ⟨f0, f1, f2, f3⟩ := HRR3.out.fr4
    obtain ⟨q0, q1, q2, q3⟩ := HRR3.out.at4
    go_upto_region 13 with fail
    clear f0 f1 f2 f3 q0 q1 q2 q3
    have hux : Upd [cb + 1] w3 ((w3).setCell ⟨cb + 1, 1, none⟩ (.slice none 0 0)) := (Upd.refl _ _).put (.inl (by simp)) _
    have W4 := Lib.hid (W3.out.own hux (by intro b hb hin; simp at hin; exact HN3.out (hin ▸ hb)) (by simp; exact HLB2.out) (by simp; exact HNW.out))
    have HRR4 := Lib.hid (show Blk ((w3).setCell ⟨cb + 1, 1, none⟩ (.slice none 0 0)) (cb + 1) 84 #[.int .i64 0, .slice none 0 0, .bool false, .int .i64 0] from HRR3.out.put 1 _)
    have HCB4 := Lib.hid (HCB3.out.upd hux (by simp))
    have HP4 := Lib.hid (HP3.out.upd hux (by have := HPL.out; have := HNW.out; simp; omega))
    have HUX := Lib.hid (show Upd [cb + 1] w3 _ from hux)
    have HRB3 := Lib.hid HRR3.out
    clear hux l0 l1 l2 l3 l4 l5 l6 l7 W3 HRR3 HCB3 HP3
    generalize (w3).setCell ⟨cb + 1, 1, none⟩ (.slice none 0 0) = w4 at *
    have W3 := Lib.hid W4.out
    have HRR3 := Lib.hid HRR4.out
    have HCB3 := Lib.hid HCB4.out
    have HP3 := Lib.hid HP4.out
    clear W4 HRR4 HCB4 HP4
    obtain ⟨l0, l1, l2, l3, l4, l5, l6, l7⟩ := HCB3.out.at8
    obtain ⟨f0, f1, f2, f3⟩ := HRR3.out.fr4
    obtain ⟨q0, q1, q2, q3⟩ := HRR3.out.at4
    go_upto_region 16 with fail
    clear f0 f1 f2 f3 q0 q1 q2 q3
    have hux : Upd [cb + 1] w4 ((w4).setCell ⟨cb + 1, 2, none⟩ (.bool false)) := (Upd.refl _ _).put (.inl (by simp)) _
    have W4 := Lib.hid (W3.out.own hux (by intro b hb hin; simp at hin; exact HN3.out (hin ▸ hb)) (by simp; exact HLB2.out) (by simp; exact HNW.out))
    have HRR4 := Lib.hid (show Blk ((w4).setCell ⟨cb + 1, 2, none⟩ (.bool false)) (cb + 1) 84 #[.int .i64 0, .slice none 0 0, .bool false, .int .i64 0] from HRR3.out.put 2 _)
    have HCB4 := Lib.hid (HCB3.out.upd hux (by simp))
    have HP4 := Lib.hid (HP3.out.upd hux (by have := HPL.out; have := HNW.out; simp; omega))
    have HUX := Lib.hid (show Upd [cb + 1] w4 _ from hux)
    have HRB3 := Lib.hid HRR3.out
    clear hux l0 l1 l2 l3 l4 l5 l6 l7 W3 HRR3 HCB3 HP3
    generalize (w4).setCell ⟨cb + 1, 2, none⟩ (.bool false) = w5 at *
    have W3 := Lib.hid W4.out
    have HRR3 := Lib.hid HRR4.out
    have HCB3 := Lib.hid HCB4.out
    have HP3 := Lib.hid HP4.out
    clear W4 HRR4 HCB4 HP4
    obtain ⟨l0, l1, l2, l3, l4, l5, l6, l7⟩ := HCB3.out.at8
    have HRG := Lib.hid (R19.plain B w5 (h := 0) (n := 0) WfI.zero false)
    have HONE := Lib.hid (show (#[.int .i64 0, .slice none 0 0, .bool false, .int .i64 0] : Array Value).all (·.oneCell') = true by simp [Value.oneCell'])
    have HD := Lib.hid (W3.out.dry_ok)
    cases hdry : s3.dry with
    | true =>
      rw [hdry] at HD
      have HE := Lib.hid (W3.out.post_dry (pb := pb) (ty := 84) (R := R19 B) hdry ⟨0, [], false, 0⟩)
      clear hdry W3
      go_wp2_with fail
      refine HD.out.mono ?_
      rintro e w6 ⟨rfl, rfl⟩
      go_wp2
      go_end0
      exact HE.out
    | false =>
      rw [hdry] at HD
      have HRG5 := Lib.hid (HRG.out.off HP3.out (by decide) (upd_setRow HP3.out #[.int .i64 0, .slice none 0 0, .bool false, .int .i64 0]))
      have HE := Lib.hid (W3.out.post_put (ty := 84) (R := R19 B) hdry HPF.out HPL.out (upd_setRow HP3.out #[.int .i64 0, .slice none 0 0, .bool false, .int .i64 0]) (blk_setRow HP3.out #[.int .i64 0, .slice none 0 0, .bool false, .int .i64 0]) HRG5.out)
      clear hdry W3
      go_wp2_with fail
      refine HD.out.mono ?_
      rintro e w6 ⟨rfl, rfl⟩
      go_wp2_with (first | (refine wpList_load_row (P := Try.prog) rfl 84 (.tmp 4) rfl (cb + 1) rfl 84 #[.int .i64 0, .slice none 0 0, .bool false, .int .i64 0] (0, 0) _ HRR3.out Try.underlying84 rfl info_res19 ?_) | (refine wpList_store_row (P := Try.prog) rfl 84 (.tmp 72) (.tmp 71) rfl pb #[.int .i64 0, .slice none 0 0, .bool false, .int .i64 0] rfl rfl 84 cs0 HP3.out info_res19 HC0.out HONE.out ?_))
      go_end0
      exact HE.out
  | some out =>
    obtain ⟨A, c, rfl, hout⟩ := HRS.out
    have HO := Lib.hid hout
    clear hout HRS
    obtain ⟨f0, f1, f2, f3⟩ := HRR3.out.fr4
    obtain ⟨q0, q1, q2, q3⟩ := HRR3.out.at4
    go_upto_region 13 with fail
    clear f0 f1 f2 f3 q0 q1 q2 q3
    have hux : Upd [cb + 1] w3 ((w3).setCell ⟨cb + 1, 1, none⟩ (.slice A out.length c)) := (Upd.refl _ _).put (.inl (by simp)) _
    have W4 := Lib.hid (W3.out.own hux (by intro b hb hin; simp at hin; exact HN3.out (hin ▸ hb)) (by simp; exact HLB2.out) (by simp; exact HNW.out))
    have HRR4 := Lib.hid (show Blk ((w3).setCell ⟨cb + 1, 1, none⟩ (.slice A out.length c)) (cb + 1) 84 #[.int .i64 0, .slice A out.length c, .bool false, .int .i64 0] from HRR3.out.put 1 _)
    have HCB4 := Lib.hid (HCB3.out.upd hux (by simp))
    have HP4 := Lib.hid (HP3.out.upd hux (by have := HPL.out; have := HNW.out; simp; omega))
    have HUX := Lib.hid (show Upd [cb + 1] w3 _ from hux)
    have HRB3 := Lib.hid HRR3.out
    clear hux l0 l1 l2 l3 l4 l5 l6 l7 W3 HRR3 HCB3 HP3
    generalize (w3).setCell ⟨cb + 1, 1, none⟩ (.slice A out.length c) = w4 at *
    have W3 := Lib.hid W4.out
    have HRR3 := Lib.hid HRR4.out
    have HCB3 := Lib.hid HCB4.out
    have HP3 := Lib.hid HP4.out
    clear W4 HRR4 HCB4 HP4
    obtain ⟨l0, l1, l2, l3, l4, l5, l6, l7⟩ := HCB3.out.at8
    have HO4 := Lib.hid (own_off19 HO.out.own HRB3.out (by decide) HUX.out)
    clear HUX HRB3
    obtain ⟨f0, f1, f2, f3⟩ := HRR3.out.fr4
    obtain ⟨q0, q1, q2, q3⟩ := HRR3.out.at4
    go_upto_region 16 with fail
    clear f0 f1 f2 f3 q0 q1 q2 q3
    have hux : Upd [cb + 1] w4 ((w4).setCell ⟨cb + 1, 2, none⟩ (.bool true)) := (Upd.refl _ _).put (.inl (by simp)) _
    have W4 := Lib.hid (W3.out.own hux (by intro b hb hin; simp at hin; exact HN3.out (hin ▸ hb)) (by simp; exact HLB2.out) (by simp; exact HNW.out))
    have HRR4 := Lib.hid (show Blk ((w4).setCell ⟨cb + 1, 2, none⟩ (.bool true)) (cb + 1) 84 #[.int .i64 0, .slice A out.length c, .bool true, .int .i64 0] from HRR3.out.put 2 _)
    have HCB4 := Lib.hid (HCB3.out.upd hux (by simp))
    have HP4 := Lib.hid (HP3.out.upd hux (by have := HPL.out; have := HNW.out; simp; omega))
    have HUX := Lib.hid (show Upd [cb + 1] w4 _ from hux)
    have HRB3 := Lib.hid HRR3.out
    clear hux l0 l1 l2 l3 l4 l5 l6 l7 W3 HRR3 HCB3 HP3
    generalize (w4).setCell ⟨cb + 1, 2, none⟩ (.bool true) = w5 at *
    have W3 := Lib.hid W4.out
    have HRR3 := Lib.hid HRR4.out
    have HCB3 := Lib.hid HCB4.out
    have HP3 := Lib.hid HP4.out
    clear W4 HRR4 HCB4 HP4
    obtain ⟨l0, l1, l2, l3, l4, l5, l6, l7⟩ := HCB3.out.at8
    have HO5 := own_off19 HO4.out HRB3.out (by decide) HUX.out
    have HRG := Lib.hid (show R19 B w5 ⟨0, out, true, 0⟩ #[.int .i64 0, .slice A out.length c, .bool true, .int .i64 0] from ⟨A, c, rfl, World.ownsRow.mono HO5 HBB.out, WfI.zero, HO.out.wf⟩)
    clear HO5 HO4
    have HONE := Lib.hid (show (#[.int .i64 0, .slice A out.length c, .bool true, .int .i64 0] : Array Value).all (·.oneCell') = true by simp [Value.oneCell'])
    have HD := Lib.hid (W3.out.dry_ok)
    cases hdry : s3.dry with
    | true =>
      rw [hdry] at HD
      have HE := Lib.hid (W3.out.post_dry (pb := pb) (ty := 84) (R := R19 B) hdry ⟨0, out, true, 0⟩)
      clear hdry W3
      go_wp2_with fail
      refine HD.out.mono ?_
      rintro e w6 ⟨rfl, rfl⟩
      go_wp2
      go_end0
      exact HE.out
    | false =>
      rw [hdry] at HD
      have HRG5 := Lib.hid (HRG.out.off HP3.out (by decide) (upd_setRow HP3.out #[.int .i64 0, .slice A out.length c, .bool true, .int .i64 0]))
      have HE := Lib.hid (W3.out.post_put (ty := 84) (R := R19 B) hdry HPF.out HPL.out (upd_setRow HP3.out #[.int .i64 0, .slice A out.length c, .bool true, .int .i64 0]) (blk_setRow HP3.out #[.int .i64 0, .slice A out.length c, .bool true, .int .i64 0]) HRG5.out)
      clear hdry W3
      go_wp2_with fail
      refine HD.out.mono ?_
      rintro e w6 ⟨rfl, rfl⟩
      go_wp2_with (first | (refine wpList_load_row (P := Try.prog) rfl 84 (.tmp 4) rfl (cb + 1) rfl 84 #[.int .i64 0, .slice A out.length c, .bool true, .int .i64 0] (0, 0) _ HRR3.out Try.underlying84 rfl info_res19 ?_) | (refine wpList_store_row (P := Try.prog) rfl 84 (.tmp 72) (.tmp 71) rfl pb #[.int .i64 0, .slice A out.length c, .bool true, .int .i64 0] rfl rfl 84 cs0 HP3.out info_res19 HC0.out HONE.out ?_))
      go_end0
      exact HE.out
set_option maxRecDepth 100000 in
set_option maxHeartbeats 4000000 in
theorem caller_run4 (B : Nat) (lb : Nat) (n : Int) (h1 : 1 ≤ n) (h2 : n ≤ 1000) (k a h tag : Int) (q : Nat) (hq : q ≤ 255) (pb : Nat) (cs0 : Array Value) (hc0 : cs0.size = 4) (p : Pl) (σ : LandS) (s : TrS) (F : List Nat) (N : Nat) (w : World) (ht : TL w p σ s F) (hi : s.In N) (hN : N ≤ 1000000) (hov : s.over = false)
    (hp : Blk w pb 84 cs0) (hpf : pb ∉ p.all F) (hl : Blk w lb 93 #[.pointer (some ⟨p.m, 0, none⟩), .pointer (some ⟨p.a, 0, none⟩), .int .i64 n]) (hf : lb ∉ p.all F) :
    Calls Try.prog 71 #[callArg lb pb k a q h tag 4, .pointer (some ⟨p.t, 0, none⟩)] w (TaskPostL (TaskQL w p σ s F (call4R n q) pb 84 (R19 B)) p) := by
  have HN1' := Lib.hid h1
  have HN2' := Lib.hid h2
  clear h1 h2
  have W0 := Lib.hid (Wk.start ht hi hov hl hf (call4R n q))
  have HP := Lib.hid hp
  have HPF := Lib.hid hpf
  have HPL := Lib.hid hp.lt
  have HLT := Lib.hid ht.lt
  have HC0 := Lib.hid hc0
  clear ht hi hov hl hf hp hpf hc0
  unfold callArg
  go_enter Try.func71, Try.ntmps71
  replace W0 := Lib.hid (W0.out.thru (below_alloc0 w (.cells #[.pointer (some ⟨lb, 0, none⟩), .int .u8 k, .int .u8 a, .int .u8 (q : Int), .int .i64 h, .int .i64 tag, .pointer (some ⟨pb, 0, none⟩), .int .u8 4] 91)))
  replace HP := Lib.hid (HP.out.thru (below_alloc0 w (.cells #[.pointer (some ⟨lb, 0, none⟩), .int .u8 k, .int .u8 a, .int .u8 (q : Int), .int .i64 h, .int .i64 tag, .pointer (some ⟨pb, 0, none⟩), .int .u8 4] 91)))
  have HCB := Lib.hid (Blk.new w 91 #[.pointer (some ⟨lb, 0, none⟩), .int .u8 k, .int .u8 a, .int .u8 (q : Int), .int .i64 h, .int .i64 tag, .pointer (some ⟨pb, 0, none⟩), .int .u8 4])
  go_upto_region 1 with fail
  have HZ := Lib.hid (World.size_alloc w (.cells #[.pointer (some ⟨lb, 0, none⟩), .int .u8 k, .int .u8 a, .int .u8 (q : Int), .int .i64 h, .int .i64 tag, .pointer (some ⟨pb, 0, none⟩), .int .u8 4] 91))
  obtain ⟨cb, hcb⟩ : ∃ x, w.heap.size = x := ⟨_, rfl⟩
  simp only [hcb] at HCB HZ ⊢
  replace hcb := Lib.hid hcb
  generalize w.alloc (.cells #[.pointer (some ⟨lb, 0, none⟩), .int .u8 k, .int .u8 a, .int .u8 (q : Int), .int .i64 h, .int .i64 tag, .pointer (some ⟨pb, 0, none⟩), .int .u8 4] 91) = w1 at *
  have HZ1 := Lib.hid HZ.out
  replace W0 := Lib.hid (W0.out.thru (below_alloc0 w1 (.cells #[.int .i64 0, .slice none 0 0, .bool false, .int .i64 0] 84)))
  replace HP := Lib.hid (HP.out.thru (below_alloc0 w1 (.cells #[.int .i64 0, .slice none 0 0, .bool false, .int .i64 0] 84)))
  replace HCB := Lib.hid (HCB.out.thru (below_alloc0 w1 (.cells #[.int .i64 0, .slice none 0 0, .bool false, .int .i64 0] 84)))
  have HRR := Lib.hid (Blk.new w1 84 #[.int .i64 0, .slice none 0 0, .bool false, .int .i64 0])
  rw [HZ.out] at HRR
  try simp only [HZ.out]
  replace HZ := Lib.hid (show (w1.alloc (.cells #[.int .i64 0, .slice none 0 0, .bool false, .int .i64 0] 84)).heap.size = cb + 1 + 1 by rw [World.size_alloc, HZ.out])
  go_upto_region 2 with fail
  generalize w1.alloc (.cells #[.int .i64 0, .slice none 0 0, .bool false, .int .i64 0] 84) = w2 at *
  simp only [HZ1.out]
  clear HZ1
  have HNW := Lib.hid (show w.heap.size ≤ cb + 1 by rw [hcb.out]; omega)
  have HN1 := Lib.hid (show cb ∉ p.all F from fun hin => by have := HLT.out _ hin; have := hcb.out; omega)
  have HN2 := Lib.hid (show cb + 1 ∉ p.all F from fun hin => by have := HLT.out _ hin; have := hcb.out; omega)
  have HLB2 := Lib.hid (show lb ≠ cb + 1 from fun e => by have h1 := W0.out.land.lt; have h2 := HRR.out; have := (W0.out.land.inj (e ▸ h2)).1; exact absurd this (by decide))
  clear HZ HLT
  obtain ⟨l0, l1, l2, l3, l4, l5, l6, l7⟩ := HCB.out.at8
  have HT := Lib.hid (replace_reclaim q (by omega) p lb n σ s F N w2 W0.out.at_.tl W0.out.at_.inn hN W0.out.at_.over W0.out.land W0.out.far HN1'.out HN2'.out)
  go_wp2_with fail
  refine HT.out.mono ?_
  rintro e w3 hd
  obtain ⟨v, x, σ3, s3, F3, rfl, rfl, hw, hk⟩ := W0.out.call hd
  clear hd HT
  have HCB3 := Lib.hid (hk.blk HCB.out HN1.out)
  have HRR3 := Lib.hid (hk.blk HRR.out HN2.out)
  have HP3 := Lib.hid (hk.blk HP.out HPF.out)
  have HN3 := Lib.hid (hk.notin HRR.out.lt HN2.out)
  have W3 := Lib.hid hw
  clear l0 l1 l2 l3 l4 l5 l6 l7
  clear W0 HCB HRR HP HN1 HN2 hk hw
  obtain ⟨l0, l1, l2, l3, l4, l5, l6, l7⟩ := HCB3.out.at8
  obtain ⟨f0, f1, f2, f3⟩ := HRR3.out.fr4
  obtain ⟨q0, q1, q2, q3⟩ := HRR3.out.at4
  go_upto_region 16 with fail
  clear f0 f1 f2 f3 q0 q1 q2 q3
  have hux : Upd [cb + 1] w3 ((w3).setCell ⟨cb + 1, 3, none⟩ (.int .i64 v)) := (Upd.refl _ _).put (.inl (by simp)) _
  have W4 := Lib.hid (W3.out.own hux (by intro b hb hin; simp at hin; exact HN3.out (hin ▸ hb)) (by simp; exact HLB2.out) (by simp; exact HNW.out))
  have HRR4 := Lib.hid (show Blk ((w3).setCell ⟨cb + 1, 3, none⟩ (.int .i64 v)) (cb + 1) 84 #[.int .i64 0, .slice none 0 0, .bool false, .int .i64 v] from HRR3.out.put 3 _)
  have HCB4 := Lib.hid (HCB3.out.upd hux (by simp))
  have HP4 := Lib.hid (HP3.out.upd hux (by have := HPL.out; have := HNW.out; simp; omega))
  have HUX := Lib.hid (show Upd [cb + 1] w3 _ from hux)
  have HRB3 := Lib.hid HRR3.out
  clear hux l0 l1 l2 l3 l4 l5 l6 l7 W3 HRR3 HCB3 HP3
  generalize (w3).setCell ⟨cb + 1, 3, none⟩ (.int .i64 v) = w4 at *
  have W3 := Lib.hid W4.out
  have HRR3 := Lib.hid HRR4.out
  have HCB3 := Lib.hid HCB4.out
  have HP3 := Lib.hid HP4.out
  clear W4 HRR4 HCB4 HP4
  obtain ⟨l0, l1, l2, l3, l4, l5, l6, l7⟩ := HCB3.out.at8
  have HRG := Lib.hid (R19.plain B w4 (h := 0) (n := v) WfI.zero false)
  have HONE := Lib.hid (show (#[.int .i64 0, .slice none 0 0, .bool false, .int .i64 v] : Array Value).all (·.oneCell') = true by simp [Value.oneCell'])
  have HD := Lib.hid (W3.out.dry_ok)
  cases hdry : s3.dry with
  | true =>
    rw [hdry] at HD
    have HE := Lib.hid (W3.out.post_dry (pb := pb) (ty := 84) (R := R19 B) hdry ⟨0, [], false, v⟩)
    clear hdry W3
    go_wp2_with fail
    refine HD.out.mono ?_
    rintro e w6 ⟨rfl, rfl⟩
    go_wp2
    go_end0
    exact HE.out
  | false =>
    rw [hdry] at HD
    have HRG5 := Lib.hid (HRG.out.off HP3.out (by decide) (upd_setRow HP3.out #[.int .i64 0, .slice none 0 0, .bool false, .int .i64 v]))
    have HE := Lib.hid (W3.out.post_put (ty := 84) (R := R19 B) hdry HPF.out HPL.out (upd_setRow HP3.out #[.int .i64 0, .slice none 0 0, .bool false, .int .i64 v]) (blk_setRow HP3.out #[.int .i64 0, .slice none 0 0, .bool false, .int .i64 v]) HRG5.out)
    clear hdry W3
    go_wp2_with fail
    refine HD.out.mono ?_
    rintro e w6 ⟨rfl, rfl⟩
    go_wp2_with (first | (refine wpList_load_row (P := Try.prog) rfl 84 (.tmp 4) rfl (cb + 1) rfl 84 #[.int .i64 0, .slice none 0 0, .bool false, .int .i64 v] (0, 0) _ HRR3.out Try.underlying84 rfl info_res19 ?_) | (refine wpList_store_row (P := Try.prog) rfl 84 (.tmp 72) (.tmp 71) rfl pb #[.int .i64 0, .slice none 0 0, .bool false, .int .i64 v] rfl rfl 84 cs0 HP3.out info_res19 HC0.out HONE.out ?_))
    go_end0
    exact HE.out
set_option maxRecDepth 100000 in
set_option maxHeartbeats 4000000 in
theorem caller_run5 (B : Nat) (lb : Nat) (n : Int) (k a o h tag : Int) (hg : WfI tag) (pb : Nat) (cs0 : Array Value) (hc0 : cs0.size = 4) (p : Pl) (σ : LandS) (s : TrS) (F : List Nat) (N : Nat) (w : World) (ht : TL w p σ s F) (hi : s.In N) (hN : N ≤ 1000000) (hov : s.over = false)
    (hp : Blk w pb 84 cs0) (hpf : pb ∉ p.all F) (hl : Blk w lb 93 #[.pointer (some ⟨p.m, 0, none⟩), .pointer (some ⟨p.a, 0, none⟩), .int .i64 n]) (hf : lb ∉ p.all F) :
    Calls Try.prog 71 #[callArg lb pb k a o h tag 5, .pointer (some ⟨p.t, 0, none⟩)] w (TaskPostL (TaskQL w p σ s F (call5R tag) pb 84 (R19 B)) p) := by
  have HG := Lib.hid hg
  clear hg
  have W0 := Lib.hid (Wk.start ht hi hov hl hf (call5R tag))
  have HP := Lib.hid hp
  have HPF := Lib.hid hpf
  have HPL := Lib.hid hp.lt
  have HLT := Lib.hid ht.lt
  have HC0 := Lib.hid hc0
  clear ht hi hov hl hf hp hpf hc0
  unfold callArg
  go_enter Try.func71, Try.ntmps71
  replace W0 := Lib.hid (W0.out.thru (below_alloc0 w (.cells #[.pointer (some ⟨lb, 0, none⟩), .int .u8 k, .int .u8 a, .int .u8 o, .int .i64 h, .int .i64 tag, .pointer (some ⟨pb, 0, none⟩), .int .u8 5] 91)))
  replace HP := Lib.hid (HP.out.thru (below_alloc0 w (.cells #[.pointer (some ⟨lb, 0, none⟩), .int .u8 k, .int .u8 a, .int .u8 o, .int .i64 h, .int .i64 tag, .pointer (some ⟨pb, 0, none⟩), .int .u8 5] 91)))
  have HCB := Lib.hid (Blk.new w 91 #[.pointer (some ⟨lb, 0, none⟩), .int .u8 k, .int .u8 a, .int .u8 o, .int .i64 h, .int .i64 tag, .pointer (some ⟨pb, 0, none⟩), .int .u8 5])
  go_upto_region 1 with fail
  have HZ := Lib.hid (World.size_alloc w (.cells #[.pointer (some ⟨lb, 0, none⟩), .int .u8 k, .int .u8 a, .int .u8 o, .int .i64 h, .int .i64 tag, .pointer (some ⟨pb, 0, none⟩), .int .u8 5] 91))
  obtain ⟨cb, hcb⟩ : ∃ x, w.heap.size = x := ⟨_, rfl⟩
  simp only [hcb] at HCB HZ ⊢
  replace hcb := Lib.hid hcb
  generalize w.alloc (.cells #[.pointer (some ⟨lb, 0, none⟩), .int .u8 k, .int .u8 a, .int .u8 o, .int .i64 h, .int .i64 tag, .pointer (some ⟨pb, 0, none⟩), .int .u8 5] 91) = w1 at *
  have HZ1 := Lib.hid HZ.out
  replace W0 := Lib.hid (W0.out.thru (below_alloc0 w1 (.cells #[.int .i64 0, .slice none 0 0, .bool false, .int .i64 0] 84)))
  replace HP := Lib.hid (HP.out.thru (below_alloc0 w1 (.cells #[.int .i64 0, .slice none 0 0, .bool false, .int .i64 0] 84)))
  replace HCB := Lib.hid (HCB.out.thru (below_alloc0 w1 (.cells #[.int .i64 0, .slice none 0 0, .bool false, .int .i64 0] 84)))
  have HRR := Lib.hid (Blk.new w1 84 #[.int .i64 0, .slice none 0 0, .bool false, .int .i64 0])
  rw [HZ.out] at HRR
  try simp only [HZ.out]
  replace HZ := Lib.hid (show (w1.alloc (.cells #[.int .i64 0, .slice none 0 0, .bool false, .int .i64 0] 84)).heap.size = cb + 1 + 1 by rw [World.size_alloc, HZ.out])
  go_upto_region 2 with fail
  generalize w1.alloc (.cells #[.int .i64 0, .slice none 0 0, .bool false, .int .i64 0] 84) = w2 at *
  simp only [HZ1.out]
  clear HZ1
  have HNW := Lib.hid (show w.heap.size ≤ cb + 1 by rw [hcb.out]; omega)
  have HN1 := Lib.hid (show cb ∉ p.all F from fun hin => by have := HLT.out _ hin; have := hcb.out; omega)
  have HN2 := Lib.hid (show cb + 1 ∉ p.all F from fun hin => by have := HLT.out _ hin; have := hcb.out; omega)
  have HLB2 := Lib.hid (show lb ≠ cb + 1 from fun e => by have h1 := W0.out.land.lt; have h2 := HRR.out; have := (W0.out.land.inj (e ▸ h2)).1; exact absurd this (by decide))
  clear HZ HLT
  obtain ⟨l0, l1, l2, l3, l4, l5, l6, l7⟩ := HCB.out.at8
  have HT := Lib.hid (W0.out.st HG.out hN)
  go_wp2_with fail
  refine HT.out.mono ?_
  rintro e w3 ⟨rfl, σ3, s3, F3, hw, hk, -⟩
  clear HT
  have HCB3 := Lib.hid (hk.blk HCB.out HN1.out)
  have HRR3 := Lib.hid (hk.blk HRR.out HN2.out)
  have HP3 := Lib.hid (hk.blk HP.out HPF.out)
  have HN3 := Lib.hid (hk.notin HRR.out.lt HN2.out)
  have W3 := Lib.hid hw
  clear l0 l1 l2 l3 l4 l5 l6 l7
  clear W0 HCB HRR HP HN1 HN2 hk hw
  obtain ⟨l0, l1, l2, l3, l4, l5, l6, l7⟩ := HCB3.out.at8
  have HRG := Lib.hid (R19.plain B w3 (h := 0) (n := 0) WfI.zero false)
  have HONE := Lib.hid (show (#[.int .i64 0, .slice none 0 0, .bool false, .int .i64 0] : Array Value).all (·.oneCell') = true by simp [Value.oneCell'])
  have HD := Lib.hid (W3.out.dry_ok)
  cases hdry : s3.dry with
  | true =>
    rw [hdry] at HD
    have HE := Lib.hid (W3.out.post_dry (pb := pb) (ty := 84) (R := R19 B) hdry ⟨0, [], false, 0⟩)
    clear hdry W3
    go_wp2_with fail
    refine HD.out.mono ?_
    rintro e w6 ⟨rfl, rfl⟩
    go_wp2
    go_end0
    exact HE.out
  | false =>
    rw [hdry] at HD
    have HRG5 := Lib.hid (HRG.out.off HP3.out (by decide) (upd_setRow HP3.out #[.int .i64 0, .slice none 0 0, .bool false, .int .i64 0]))
    have HE := Lib.hid (W3.out.post_put (ty := 84) (R := R19 B) hdry HPF.out HPL.out (upd_setRow HP3.out #[.int .i64 0, .slice none 0 0, .bool false, .int .i64 0]) (blk_setRow HP3.out #[.int .i64 0, .slice none 0 0, .bool false, .int .i64 0]) HRG5.out)
    clear hdry W3
    go_wp2_with fail
    refine HD.out.mono ?_
    rintro e w6 ⟨rfl, rfl⟩
    go_wp2_with (first | (refine wpList_load_row (P := Try.prog) rfl 84 (.tmp 4) rfl (cb + 1) rfl 84 #[.int .i64 0, .slice none 0 0, .bool false, .int .i64 0] (0, 0) _ HRR3.out Try.underlying84 rfl info_res19 ?_) | (refine wpList_store_row (P := Try.prog) rfl 84 (.tmp 72) (.tmp 71) rfl pb #[.int .i64 0, .slice none 0 0, .bool false, .int .i64 0] rfl rfl 84 cs0 HP3.out info_res19 HC0.out HONE.out ?_))
    go_end0
    exact HE.out
end Go.Proofs.Ytldccemgfjmcdaa
