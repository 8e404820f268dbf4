/- Law 17: what comes of a task that goes through a tree, or finds an address: goer.run. -/
import Derived.Test.YtldccemgfjmcdaaWalkE
import Derived.Test.YtldccemgfjmcdaaLook16
import Derived.Deep.Onto
namespace Go.Proofs.Ytldccemgfjmcdaa
open Go.RowKit
set_option linter.unusedSimpArgs false
set_option linter.unusedVariables false

structure GV where
  h : Int
  ok : Bool
  es : List EntV
  ns : List Int
def WfG (v : GV) : Prop := WfI v.h ∧ (∀ x ∈ v.ns, WfI x) ∧ (∀ e ∈ v.es, WfI e.lo ∧ WfI e.stop ∧ WfI e.h) ∧ v.ns.length ≤ 64 ∧ v.es.length ≤ 512
/-- How it lies. -/
def RG (w : World) (v : GV) (cs : Array Value) : Prop :=
  ∃ EA ec NA nc, cs = #[.int .i64 v.h, .bool v.ok, .slice EA v.es.length ec, .slice NA v.ns.length nc] ∧ w.ownsRow 0 47 3 (.slice EA v.es.length ec) v.es.length (v.es.flatMap entCells) ∧ w.ownsRow 0 2 1 (.slice NA v.ns.length nc) v.ns.length (i64s v.ns) ∧ WfG v
theorem own_off {w w' : World} {B z n c b : Nat} {t t' : TypeId} {A : Option Addr} {xs : List Value} {u : Array Value} (h : w.ownsRow B t z (.slice A n c) n xs) (hb : Blk w b t' u) (hne : t ≠ t') (hu : Upd [b] w w') : w'.ownsRow B t z (.slice A n c) n xs :=
  ownsRow_upd h hu fun x hx hin => by
    simp only [List.mem_singleton] at hin
    subst hin
    exact blk_notin h hb hne hx
theorem RG.off {w w' : World} {v : GV} {cs : Array Value} {b : Nat} {t' : TypeId} {u : Array Value} (h : RG w v cs) (hb : Blk w b t' u) (h1 : 47 ≠ t') (h2 : 2 ≠ t') (hu : Upd [b] w w') : RG w' v cs := by
  obtain ⟨EA, ec, NA, nc, rfl, he, hn, hw⟩ := h
  exact ⟨EA, ec, NA, nc, rfl, own_off he hb h1 hu, own_off hn hb h2 hu, hw⟩
theorem own_thru {w w' : World} {B z n c : Nat} {t : TypeId} {A : Option Addr} {xs : List Value} (h : w.ownsRow B t z (.slice A n c) n xs) (hb : Below w.heap.size w w') : w'.ownsRow B t z (.slice A n c) n xs := ownsRow_upd h (Upd.of_below hb (F := [])) (by simp)
theorem RG.thru {w w' : World} {v : GV} {cs : Array Value} (h : RG w v cs) (hb : Below w.heap.size w w') : RG w' v cs := by
  obtain ⟨EA, ec, NA, nc, rfl, he, hn, hw⟩ := h
  exact ⟨EA, ec, NA, nc, rfl, own_thru he hb, own_thru hn hb, hw⟩
theorem RG.apart (t : Nat) : Apart t RG := fun w w' v cs u hb h hu => h.off hb (by decide) (by decide) hu
theorem RG.plain (w : World) {v : Int} (hv : WfI v) (o : Bool) : RG w ⟨v, o, [], []⟩ #[.int .i64 v, .bool o, .slice none 0 0, .slice none 0 0] :=
  ⟨none, 0, none, 0, rfl, World.ownsRow_nil _ _ _ _, World.ownsRow_nil _ _ _ _, hv, by simp, by simp, by simp, by simp⟩
theorem info_res17 : (Try.prog.info? 33).map (·.size) = some 4 := by kernel_rfl
def goFindR (root addr : Int) : Res LandS GV := (findR addr 8 root).bind fun q => .ret ⟨q.1, q.2, [], []⟩
def goAllR (root : Int) : Res LandS GV := (allR root).bind fun q => .ret ⟨0, q.2.2, q.1, q.2.1⟩
theorem goFind_free (root addr : Int) : (goFindR root addr).free := Res.bind_free (find_free _ _ _) fun _ => trivial
theorem goAll_free (root : Int) : (goAllR root).free := Res.bind_free (all_free _) fun _ => trivial
/-- What is handed to goer.run. -/
def goArg (a pb : Nat) (root addr : Int) (all : Bool) : Value := .agg #[.pointer (some ⟨a, 0, none⟩), .int .i64 root, .int .i64 addr, .bool all, .pointer (some ⟨pb, 0, none⟩)]

set_option maxRecDepth 100000 in
set_option maxHeartbeats 2000000 in
theorem goer_find (root addr : Int) (pb : Nat) (cs0 : Array Value) (hc0 : cs0.size = 4) (p : Pl) (σ : LandS) (s : TrS) (F : List Nat) (n : Nat) (w : World) (h : TL w p σ s F) (hi : s.In n) (hn : n ≤ 1000000) (hov : s.over = false) (hh : WfI root)
    (hp : Blk w pb 33 cs0) (hpf : pb ∉ p.all F) :
    Calls Try.prog 61 #[goArg p.a pb root addr false, .pointer (some ⟨p.t, 0, none⟩)] w (TaskPostL (TaskQL w p σ s F (goFindR root addr) pb 33 RG) p) := by
  have A0 := Lib.hid (AtL.first h hi hov)
  have HP := Lib.hid hp
  have HPF := Lib.hid hpf
  have HPL := Lib.hid hp.lt
  have HLT := Lib.hid h.lt
  have HC0 := Lib.hid hc0
  have HW := Lib.hid hh
  clear h hi hov hp hpf hc0
  unfold goArg
  go_enter Try.func61, Try.ntmps61
  replace A0 := Lib.hid (A0.out.thru (below_alloc0 w (.cells #[.pointer (some ⟨p.a, 0, none⟩), .int .i64 root, .int .i64 addr, .bool false, .pointer (some ⟨pb, 0, none⟩)] 38)))
  replace HP := Lib.hid (HP.out.thru (below_alloc0 w (.cells #[.pointer (some ⟨p.a, 0, none⟩), .int .i64 root, .int .i64 addr, .bool false, .pointer (some ⟨pb, 0, none⟩)] 38)))
  have HLB := Lib.hid (Blk.new w 38 #[.pointer (some ⟨p.a, 0, none⟩), .int .i64 root, .int .i64 addr, .bool false, .pointer (some ⟨pb, 0, none⟩)])
  go_upto_region 2 with fail
  have HZ := Lib.hid (World.size_alloc w (.cells #[.pointer (some ⟨p.a, 0, none⟩), .int .i64 root, .int .i64 addr, .bool false, .pointer (some ⟨pb, 0, none⟩)] 38))
  obtain ⟨lb, hlb⟩ : ∃ x, w.heap.size = x := ⟨_, rfl⟩
  simp only [hlb] at HLB HZ ⊢
  replace hlb := Lib.hid hlb
  generalize w.alloc (.cells #[.pointer (some ⟨p.a, 0, none⟩), .int .i64 root, .int .i64 addr, .bool false, .pointer (some ⟨pb, 0, none⟩)] 38) = w1 at *
  replace A0 := Lib.hid (A0.out.thru (below_alloc0 w1 (.cells #[.int .i64 0, .bool false, .slice none 0 0, .slice none 0 0] 33)))
  replace HP := Lib.hid (HP.out.thru (below_alloc0 w1 (.cells #[.int .i64 0, .bool false, .slice none 0 0, .slice none 0 0] 33)))
  replace HLB := Lib.hid (HLB.out.thru (below_alloc0 w1 (.cells #[.int .i64 0, .bool false, .slice none 0 0, .slice none 0 0] 33)))
  have HRR := Lib.hid (Blk.new w1 33 #[.int .i64 0, .bool false, .slice none 0 0, .slice none 0 0])
  rw [HZ.out] at HRR
  try simp only [HZ.out]
  replace HZ := Lib.hid (show (w1.alloc (.cells #[.int .i64 0, .bool false, .slice none 0 0, .slice none 0 0] 33)).heap.size = lb + 1 + 1 by rw [World.size_alloc, HZ.out])
  generalize w1.alloc (.cells #[.int .i64 0, .bool false, .slice none 0 0, .slice none 0 0] 33) = w2 at *
  have HNW := Lib.hid (show w.heap.size ≤ lb + 1 by rw [hlb.out]; omega)
  have HN1 := Lib.hid (show lb ∉ p.all F from fun hin => by have := HLT.out _ hin; have := hlb.out; omega)
  have HN2 := Lib.hid (show lb + 1 ∉ p.all F from fun hin => by have := HLT.out _ hin; have := hlb.out; omega)
  have HR := Lib.hid (walk_find root addr p σ s F n w2 A0.out.tl A0.out.inn hn A0.out.over HW.out)
  clear HZ HLT
  obtain ⟨l0, l1, l2, l3, l4⟩ := HLB.out.at5
  go_wp2_with fail
  refine HR.out.mono ?_
  rintro e w3 hd3
  obtain ⟨⟨q0, q1⟩, x, σ3, s3, F3, rfl, ⟨rfl, hwf⟩, hsim, a3, hk⟩ := A0.out.doesK hd3
  have HX := Lib.hid (GoesL.bind (f := fun q => Res.ret (⟨q.1, q.2, [], []⟩ : GV)) hsim)
  have HRG := Lib.hid (RG.plain w3 hwf q1)
  clear hwf hsim
  have HLB3 := Lib.hid (hk.blk HLB.out HN1.out)
  have HRR3 := Lib.hid (hk.blk HRR.out HN2.out)
  have HP3 := Lib.hid (hk.blk HP.out HPF.out)
  have HN3 := Lib.hid (hk.notin HRR.out.lt HN2.out)
  have A3 := Lib.hid a3
  clear l0 l1 l2 l3 l4 HR A0 HLB HRR HP HN1 HN2 hk a3 hd3
  obtain ⟨l0, l1, l2, l3, l4⟩ := HLB3.out.at5
  simp only
  have HONE := Lib.hid (show (#[.int .i64 q0, .bool q1, .slice none 0 0, .slice none 0 0] : Array Value).all (·.oneCell') = true by simp [Value.oneCell'])
  go_wp2_with (refine wpList_store_row (P := Try.prog) rfl 33 (.tmp 4) (.tmp 39) rfl (lb + 1) #[.int .i64 q0, .bool q1, .slice none 0 0, .slice none 0 0] rfl rfl 33 #[.int .i64 0, .bool false, .slice none 0 0, .slice none 0 0] HRR3.out info_res17 rfl HONE.out ?_)
  have HSU := Lib.hid (upd_setRow HRR3.out #[.int .i64 q0, .bool q1, .slice none 0 0, .slice none 0 0])
  have A4 := Lib.hid (A3.out.own HSU.out HN3.out HNW.out)
  have HRR4 := Lib.hid (blk_setRow HRR3.out #[.int .i64 q0, .bool q1, .slice none 0 0, .slice none 0 0])
  have HLB4 := Lib.hid (HLB3.out.upd HSU.out (by simp))
  have HP4 := Lib.hid (HP3.out.upd HSU.out (by have := HPL.out; have := hlb.out; simp; omega))
  have HRG4 := Lib.hid (HRG.out.off HRR3.out (by decide) (by decide) HSU.out)
  clear l0 l1 l2 l3 l4
  clear HSU
  generalize w3.setRow (lb + 1) #[.int .i64 q0, .bool q1, .slice none 0 0, .slice none 0 0] = w5 at *
  have HRG5 := Lib.hid (HRG4.out.off HP4.out (by decide) (by decide) (upd_setRow HP4.out #[.int .i64 q0, .bool q1, .slice none 0 0, .slice none 0 0]))
  have HD := Lib.hid (t_dry p.m p.c p.t σ3.mu s3 F3 w5 A4.out.tl.tm)
  rw [A4.out.over, Bool.not_false, Bool.and_true] at HD
  cases hdry : s3.dry with
  | true =>
    rw [hdry] at HD
    have HE := Lib.hid (A4.out.ends_dry (r := goFindR root addr) (pb := pb) (ty := 33) (R := RG) (HX.out.end_dry hdry ⟨q0, q1, [], []⟩) hdry)
    clear hdry
    go_wp2_with fail
    refine HD.out.mono ?_
    rintro e w6 ⟨rfl, rfl⟩
    go_wp2
    go_end0
    exact HE.out
  | false =>
    rw [hdry] at HD
    have HE := Lib.hid (A4.out.ends_put (r := goFindR root addr) (R := RG) (HX.out.end_ret) hdry HPF.out HPL.out (upd_setRow HP4.out #[.int .i64 q0, .bool q1, .slice none 0 0, .slice none 0 0]) (blk_setRow HP4.out #[.int .i64 q0, .bool q1, .slice none 0 0, .slice none 0 0]) HRG5.out)
    clear hdry
    go_wp2_with fail
    refine HD.out.mono ?_
    rintro e w6 ⟨rfl, rfl⟩
    obtain ⟨l0, l1, l2, l3, l4⟩ := HLB4.out.at5
    go_wp2_with (first | (refine wpList_load_row (P := Try.prog) rfl 33 (.tmp 4) rfl (lb + 1) rfl 33 #[.int .i64 q0, .bool q1, .slice none 0 0, .slice none 0 0] (0, 0) _ HRR4.out Try.underlying33 rfl info_res17 ?_) | (refine wpList_store_row (P := Try.prog) rfl 33 (.tmp 46) (.tmp 45) rfl pb #[.int .i64 q0, .bool q1, .slice none 0 0, .slice none 0 0] rfl rfl 33 cs0 HP4.out info_res17 HC0.out HONE.out ?_))
    go_end0
    exact HE.out
set_option maxRecDepth 100000 in
set_option maxHeartbeats 2000000 in
theorem goer_all (root addr : Int) (pb : Nat) (cs0 : Array Value) (hc0 : cs0.size = 4) (p : Pl) (σ : LandS) (s : TrS) (F : List Nat) (n : Nat) (w : World) (h : TL w p σ s F) (hi : s.In n) (hn : n ≤ 1000000) (hov : s.over = false) (hh : WfI root)
    (hp : Blk w pb 33 cs0) (hpf : pb ∉ p.all F) :
    Calls Try.prog 61 #[goArg p.a pb root addr true, .pointer (some ⟨p.t, 0, none⟩)] w (TaskPostL (TaskQL w p σ s F (goAllR root) pb 33 RG) p) := by
  have A0 := Lib.hid (AtL.first h hi hov)
  have HP := Lib.hid hp
  have HPF := Lib.hid hpf
  have HPL := Lib.hid hp.lt
  have HLT := Lib.hid h.lt
  have HC0 := Lib.hid hc0
  have HW := Lib.hid hh
  clear h hi hov hp hpf hc0
  unfold goArg
  go_enter Try.func61, Try.ntmps61
  replace A0 := Lib.hid (A0.out.thru (below_alloc0 w (.cells #[.pointer (some ⟨p.a, 0, none⟩), .int .i64 root, .int .i64 addr, .bool true, .pointer (some ⟨pb, 0, none⟩)] 38)))
  replace HP := Lib.hid (HP.out.thru (below_alloc0 w (.cells #[.pointer (some ⟨p.a, 0, none⟩), .int .i64 root, .int .i64 addr, .bool true, .pointer (some ⟨pb, 0, none⟩)] 38)))
  have HLB := Lib.hid (Blk.new w 38 #[.pointer (some ⟨p.a, 0, none⟩), .int .i64 root, .int .i64 addr, .bool true, .pointer (some ⟨pb, 0, none⟩)])
  go_upto_region 2 with fail
  have HZ := Lib.hid (World.size_alloc w (.cells #[.pointer (some ⟨p.a, 0, none⟩), .int .i64 root, .int .i64 addr, .bool true, .pointer (some ⟨pb, 0, none⟩)] 38))
  obtain ⟨lb, hlb⟩ : ∃ x, w.heap.size = x := ⟨_, rfl⟩
  simp only [hlb] at HLB HZ ⊢
  replace hlb := Lib.hid hlb
  generalize w.alloc (.cells #[.pointer (some ⟨p.a, 0, none⟩), .int .i64 root, .int .i64 addr, .bool true, .pointer (some ⟨pb, 0, none⟩)] 38) = w1 at *
  replace A0 := Lib.hid (A0.out.thru (below_alloc0 w1 (.cells #[.int .i64 0, .bool false, .slice none 0 0, .slice none 0 0] 33)))
  replace HP := Lib.hid (HP.out.thru (below_alloc0 w1 (.cells #[.int .i64 0, .bool false, .slice none 0 0, .slice none 0 0] 33)))
  replace HLB := Lib.hid (HLB.out.thru (below_alloc0 w1 (.cells #[.int .i64 0, .bool false, .slice none 0 0, .slice none 0 0] 33)))
  have HRR := Lib.hid (Blk.new w1 33 #[.int .i64 0, .bool false, .slice none 0 0, .slice none 0 0])
  rw [HZ.out] at HRR
  try simp only [HZ.out]
  replace HZ := Lib.hid (show (w1.alloc (.cells #[.int .i64 0, .bool false, .slice none 0 0, .slice none 0 0] 33)).heap.size = lb + 1 + 1 by rw [World.size_alloc, HZ.out])
  generalize w1.alloc (.cells #[.int .i64 0, .bool false, .slice none 0 0, .slice none 0 0] 33) = w2 at *
  have HNW := Lib.hid (show w.heap.size ≤ lb + 1 by rw [hlb.out]; omega)
  have HN1 := Lib.hid (show lb ∉ p.all F from fun hin => by have := HLT.out _ hin; have := hlb.out; omega)
  have HN2 := Lib.hid (show lb + 1 ∉ p.all F from fun hin => by have := HLT.out _ hin; have := hlb.out; omega)
  have HR := Lib.hid (walk_all root p σ s F n w2 A0.out.tl A0.out.inn hn A0.out.over HW.out)
  clear HZ HLT
  obtain ⟨l0, l1, l2, l3, l4⟩ := HLB.out.at5
  go_wp2_with fail
  refine HR.out.mono ?_
  rintro e w3 hd3
  obtain ⟨⟨es, ns, ok⟩, x, σ3, s3, F3, rfl, ⟨EA, ec, NA, nc, rfl, hoe, hon, -, -, hwn, hwe, h64, h512⟩, hsim, htl, hk⟩ := id hd3
  have a3 := A0.out.nodes hsim htl hk
  have HX := Lib.hid (GoesL.bind (f := fun q => Res.ret (⟨0, q.2.2, q.1, q.2.1⟩ : GV)) hsim)
  have HRG := Lib.hid (show RG w3 ⟨0, ok, es, ns⟩ #[.int .i64 0, .bool ok, .slice EA es.length ec, .slice NA ns.length nc] from ⟨EA, ec, NA, nc, rfl, hoe.mono (Nat.zero_le _), hon.mono (Nat.zero_le _), WfI.zero, hwn, hwe, h64, h512⟩)
  clear hsim htl hoe hon hwn hwe h64 h512
  have HLB3 := Lib.hid (hk.blk HLB.out HN1.out)
  have HRR3 := Lib.hid (hk.blk HRR.out HN2.out)
  have HP3 := Lib.hid (hk.blk HP.out HPF.out)
  have HN3 := Lib.hid (hk.notin HRR.out.lt HN2.out)
  have A3 := Lib.hid a3
  clear l0 l1 l2 l3 l4 HR A0 HLB HRR HP HN1 HN2 hk a3 hd3
  obtain ⟨l0, l1, l2, l3, l4⟩ := HLB3.out.at5
  simp only
  have HONE := Lib.hid (show (#[.int .i64 0, .bool ok, .slice EA es.length ec, .slice NA ns.length nc] : Array Value).all (·.oneCell') = true by simp [Value.oneCell'])
  go_wp2_with (refine wpList_store_row (P := Try.prog) rfl 33 (.tmp 4) (.tmp 25) rfl (lb + 1) #[.int .i64 0, .bool ok, .slice EA es.length ec, .slice NA ns.length nc] rfl rfl 33 #[.int .i64 0, .bool false, .slice none 0 0, .slice none 0 0] HRR3.out info_res17 rfl HONE.out ?_)
  have HSU := Lib.hid (upd_setRow HRR3.out #[.int .i64 0, .bool ok, .slice EA es.length ec, .slice NA ns.length nc])
  have A4 := Lib.hid (A3.out.own HSU.out HN3.out HNW.out)
  have HRR4 := Lib.hid (blk_setRow HRR3.out #[.int .i64 0, .bool ok, .slice EA es.length ec, .slice NA ns.length nc])
  have HLB4 := Lib.hid (HLB3.out.upd HSU.out (by simp))
  have HP4 := Lib.hid (HP3.out.upd HSU.out (by have := HPL.out; have := hlb.out; simp; omega))
  have HRG4 := Lib.hid (HRG.out.off HRR3.out (by decide) (by decide) HSU.out)
  clear l0 l1 l2 l3 l4
  clear HSU
  generalize w3.setRow (lb + 1) #[.int .i64 0, .bool ok, .slice EA es.length ec, .slice NA ns.length nc] = w5 at *
  have HRG5 := Lib.hid (HRG4.out.off HP4.out (by decide) (by decide) (upd_setRow HP4.out #[.int .i64 0, .bool ok, .slice EA es.length ec, .slice NA ns.length nc]))
  have HD := Lib.hid (t_dry p.m p.c p.t σ3.mu s3 F3 w5 A4.out.tl.tm)
  rw [A4.out.over, Bool.not_false, Bool.and_true] at HD
  cases hdry : s3.dry with
  | true =>
    rw [hdry] at HD
    have HE := Lib.hid (A4.out.ends_dry (r := goAllR root) (pb := pb) (ty := 33) (R := RG) (HX.out.end_dry hdry ⟨0, ok, es, ns⟩) hdry)
    clear hdry
    go_wp2_with fail
    refine HD.out.mono ?_
    rintro e w6 ⟨rfl, rfl⟩
    go_wp2
    go_end0
    exact HE.out
  | false =>
    rw [hdry] at HD
    have HE := Lib.hid (A4.out.ends_put (r := goAllR root) (R := RG) (HX.out.end_ret) hdry HPF.out HPL.out (upd_setRow HP4.out #[.int .i64 0, .bool ok, .slice EA es.length ec, .slice NA ns.length nc]) (blk_setRow HP4.out #[.int .i64 0, .bool ok, .slice EA es.length ec, .slice NA ns.length nc]) HRG5.out)
    clear hdry
    go_wp2_with fail
    refine HD.out.mono ?_
    rintro e w6 ⟨rfl, rfl⟩
    obtain ⟨l0, l1, l2, l3, l4⟩ := HLB4.out.at5
    go_wp2_with (first | (refine wpList_load_row (P := Try.prog) rfl 33 (.tmp 4) rfl (lb + 1) rfl 33 #[.int .i64 0, .bool ok, .slice EA es.length ec, .slice NA ns.length nc] (0, 0) _ HRR4.out Try.underlying33 rfl info_res17 ?_) | (refine wpList_store_row (P := Try.prog) rfl 33 (.tmp 46) (.tmp 45) rfl pb #[.int .i64 0, .bool ok, .slice EA es.length ec, .slice NA ns.length nc] rfl rfl 33 cs0 HP4.out info_res17 HC0.out HONE.out ?_))
    go_end0
    exact HE.out
end Go.Proofs.Ytldccemgfjmcdaa
