/- samaralaw03's small statements, walked. -/
import Derived.Test.YtcphidmfdakbeaaThread
import Derived.Test.YtcphidmfdakbeaaOwn
namespace Go.Proofs.Ytcphidmfdakbeaa
open Go.RowKit
set_option linter.unusedSimpArgs false

theorem opcells_len (o : OpV) : o.cells.length = 5 := rfl
/-- A step of a program whose sum goes nowhere. -/
theorem prog_bare (a : Option Addr) (len cap : Nat) (zs : List OpV) (m c t : Nat) (μ : MemS) (s : TrS) (F : List Nat) (cur : Res MemS Int) (time : Int) (w : World) (h : TM w m c t μ s F) (hat : (progR zs 0).follow s.told = some cur) (hso : s.over = false)
    (hl : s.told.length < 900000) (hmk : s.marks.length ≤ 500000) (ha : ArgOf OpV.cells 5 OpV.Ok w a len cap zs) (hlen : len ≤ 400000) (hfar : zs ≠ [] → ∀ b ∈ blockOf a, b ∉ m :: c :: F) :
    Calls Try.prog 19 #[.pointer (some ⟨t, 0, none⟩), .int .i64 time, .func (.func 20) #[.agg #[.slice a len cap, .pointer none]] #[]] w (BareStep w m c t (progR zs 0) μ s F cur time) :=
  bare_run _ _ m c t _ μ s F cur time w h hat hso (fun _ => by kernel_rfl) fun w1 h1 hu1 =>
    prog_run a len cap zs none _ m c t μ (s.begin time) F (s.told.length + 1) w1 h1 (begin_in s time) (by omega) hso rfl hmk
      (ha.upd hu1 fun hz b hb hin => hfar hz b hb (by simp at hin; subst hin; simp [h.tF])) hlen hfar (Lib.hid fun _ _ _ _ _ hat hs _ => hat.ends_bare hs) (Lib.hid fun _ _ _ _ _ hat hs _ => hat.ends_bare hs) (fun _ hq => by cases hq)
/-- .. or of one that is over. -/
theorem prog_bare' (a : Option Addr) (len cap : Nat) (zs : List OpV) (m c t : Nat) (μ : MemS) (s : TrS) (F : List Nat) (cur : Res MemS Int) (time : Int) (w : World) (h : Bare w m c t (progR zs 0) μ s F cur)
    (hl : s.told.length < 900000) (hmk : s.marks.length ≤ 500000) (ha : ArgOf OpV.cells 5 OpV.Ok w a len cap zs) (hlen : len ≤ 400000) (hfar : zs ≠ [] → ∀ b ∈ blockOf a, b ∉ m :: c :: F) :
    Calls Try.prog 19 #[.pointer (some ⟨t, 0, none⟩), .int .i64 time, .func (.func 20) #[.agg #[.slice a len cap, .pointer none]] #[]] w (BareStep w m c t (progR zs 0) μ s F cur time) :=
  bare_step _ _ m c t _ μ s F cur time w h (fun _ => by kernel_rfl) fun w1 h1 hu1 hso =>
    prog_run a len cap zs none _ m c t μ (s.begin time) F (s.told.length + 1) w1 h1 (begin_in s time) (by omega) hso rfl hmk
      (ha.upd hu1 fun hz b hb hin => hfar hz b hb (by simp at hin; subst hin; simp [h.tm.tF])) hlen hfar (Lib.hid fun _ _ _ _ _ hat hs _ => hat.ends_bare hs) (Lib.hid fun _ _ _ _ _ hat hs _ => hat.ends_bare hs) (fun _ hq => by cases hq)

def op03 : OpV := ⟨2, 0, 5, 0, false⟩
theorem step03 : (progR [op03] 0).step ⟨[0], 0⟩ = (.ret 0, ⟨[5], 1⟩, []) ∧ (progR [op03] 0).tells ⟨[0], 0⟩ = [0] := ⟨by kernel_rfl, by kernel_rfl⟩

set_option maxRecDepth 100000 in
theorem awake03 (w : World) : Calls Try.prog 15 #[] w fun e w' => e = .returned (.bool true) ∧ Below w.heap.size w w' := by
  go_enter Try.func15, Try.ntmps15
  go_wp2_with fail
  refine (cell_new 1 _).mono ?_
  rintro e w1 ⟨rfl, hm, hb1, -⟩
  rw [show (⟨List.replicate (capn 1).toNat 0, 0⟩ : MemS) = ⟨[0], 0⟩ from rfl] at hm
  generalize hx1 : w.heap.size + 1 = m at *
  generalize hc : w.heap.size = c at *
  go_wp2_with fail
  refine (t_new m c _ _ hm).mono ?_
  rintro e w2 ⟨rfl, ht, hb2⟩
  go_upto_region 4 with fail
  have hO := (Blk.new w2 27 #[.int .u8 2, .int .i64 0, .int .i64 5, .int .i64 0, .bool false]).alloc (.cells #[.slice (some ⟨w2.heap.size, 0, none⟩) 1 1, .pointer none] 34)
  have hP := Blk.new (w2.alloc (.cells #[.int .u8 2, .int .i64 0, .int .i64 5, .int .i64 0, .bool false] 27)) 34 #[.slice (some ⟨w2.heap.size, 0, none⟩) 1 1, .pointer none]
  have ht2 := (ht.alloc (.cells #[.int .u8 2, .int .i64 0, .int .i64 5, .int .i64 0, .bool false] 27)).alloc (.cells #[.slice (some ⟨w2.heap.size, 0, none⟩) 1 1, .pointer none] 34)
  have hfar : w2.heap.size ∉ m :: c :: [w1.heap.size] := fun hin => by have := ht.lt _ hin; omega
  have hb1s := hb1.size
  have hb2s := hb2.size
  have hb3 : Below c w ((w2.alloc (.cells #[.int .u8 2, .int .i64 0, .int .i64 5, .int .i64 0, .bool false] 27)).alloc (.cells #[.slice (some ⟨w2.heap.size, 0, none⟩) 1 1, .pointer none] 34)) :=
    ((hb1.trans (hb2.mono (by omega))).alloc (by omega) _).alloc (by simp; omega) _
  have hge : ∀ b ∈ m :: c :: [w1.heap.size], c ≤ b := by simp; omega
  simp only [World.size_alloc] at hP
  generalize (w2.alloc (.cells #[.int .u8 2, .int .i64 0, .int .i64 5, .int .i64 0, .bool false] 27)).alloc (.cells #[.slice (some ⟨w2.heap.size, 0, none⟩) 1 1, .pointer none] 34) = w3 at *
  generalize w2.heap.size = ob at *
  generalize w1.heap.size = t at *
  have ha : ArgOf OpV.cells 5 OpV.Ok w3 (some ⟨ob, 0, none⟩) 1 1 [op03] := ArgOf.ofBlk (zs := [op03]) (cap := 1) opcells_len hO (fun i _ => by rw [← Array.getElem?_toList]; rfl) (Nat.le_refl _) (by unfold maxLen; decide) (by simp [op03, OpV.Ok])
  have HS := Lib.hid (prog_bare _ 1 1 [op03] m c t _ _ _ _ 0 w3 ht2 (follow_nil _) rfl (by simp [TrS.new]) (by simp [TrS.new]) ha (by decide) (by simp only [blockOf, List.mem_singleton]; intro _ b hb; subst hb; exact hfar))
  have p0 := hP.at_ (i := 0) rfl
  have p1 := hP.at_ (i := 1) rfl
  simp only [List.getElem_toArray, List.getElem_cons_succ, List.getElem_cons_zero] at p0 p1
  clear hO hP ht2 ha hm hb1 hb2 ht
  have HC := Lib.hid hc
  have HX := Lib.hid hx1
  clear hc hx1
  go_wp2_with fail
  refine HS.out.mono ?_
  rintro e w4 ⟨he, s4, F4, hB4, htold, -, hF4, hu4⟩
  have hn : (progR [op03] 0).next = progR [op03] 0 := rfl
  rw [hn, step03.1] at he hB4
  rw [hn, step03.2] at htold
  obtain ⟨ht4, -, hov4⟩ := hB4
  simp only [Res.isRet] at he hov4
  simp only at ht4
  subst he
  have hl4 : s4.told.length = 1 := by rw [htold]; rfl
  have HL4 := Lib.hid hl4
  have HO4 := Lib.hid hov4
  have HT4 := Lib.hid ht4
  clear hl4 hov4 ht4 hn htold p0 p1
  go_wp2_with fail
  refine (t_over m c t _ _ _ _ HT4.out).mono ?_
  rw [HO4.out]
  rintro e w5 ⟨rfl, rfl⟩
  go_wp2_with fail
  refine (t_steps m c t _ _ _ _ HT4.out).mono ?_
  rw [HL4.out]
  rintro e w5 ⟨rfl, rfl⟩
  go_wp2_with fail
  refine (cell_count m c _ _ HT4.out.mem).mono ?_
  rintro e w5 ⟨rfl, rfl⟩
  go_wp2
  go_ret
  exact ⟨rfl, by rw [HC.out]; exact hb3.trans (hu4.below (HC.out ▸ hb3.size) hge)⟩

/-! ### TrailWaits -/
def opsW (v : Int) : List OpV := [⟨4, 0, 0, v, false⟩, ⟨1, 1, 7, 0, false⟩]
theorem stepW (v : Int) (hv : v ≠ 0) (k : Int) : (progR (opsW v) 0).step ⟨[0, 0], k⟩ = (progR (opsW v) 0, ⟨[0, 0], wrap64 (k + 1)⟩, []) ∧ (progR (opsW v) 0).tells ⟨[0, 0], k⟩ = [] := by
  have e : progR (opsW v) 0 = .acc (dWait 0 v) fun x => progR [⟨1, 1, 7, 0, false⟩] (wrap64 (0 + v)) := rfl
  have h : (dWait 0 v ⟨[0, 0], k⟩) = (0, false, ⟨[0, 0], wrap64 (k + 1)⟩) := by
    have hl : (⟨[0, 0], k⟩ : MemS).load 0 = (0, 0, ⟨[0, 0], wrap64 (k + 1)⟩) := rfl
    unfold dWait
    rw [hl]
    simp [Ne.symm hv]
  rw [e]
  simp [Res.step, Res.tells, h]
theorem stepV (v k : Int) : (progR (opsW v) 0).step ⟨[v, 0], k⟩ = (progR [⟨1, 1, 7, 0, false⟩] (wrap64 (0 + v)), ⟨[v, 0], wrap64 (k + 1)⟩, []) ∧ (progR (opsW v) 0).tells ⟨[v, 0], k⟩ = [v] := by
  have e : progR (opsW v) 0 = .acc (dWait 0 v) fun x => progR [⟨1, 1, 7, 0, false⟩] (wrap64 (0 + v)) := rfl
  have h : (dWait 0 v ⟨[v, 0], k⟩) = (v, true, ⟨[v, 0], wrap64 (k + 1)⟩) := by
    have hl : (⟨[v, 0], k⟩ : MemS).load 0 = (v, 0, ⟨[v, 0], wrap64 (k + 1)⟩) := rfl
    unfold dWait
    rw [hl]
    simp
  rw [e]
  simp [Res.step, Res.tells, h]
  exact ⟨rfl, rfl⟩
theorem stepX (v g k : Int) : (progR [⟨1, 1, 7, 0, false⟩] g).step ⟨[v, 0], k⟩ = (.ret (wrap64 (g + 0)), ⟨[v, 7], wrap64 (k + 1)⟩, []) ∧ (progR [⟨1, 1, 7, 0, false⟩] g).tells ⟨[v, 0], k⟩ = [0] := by
  have e : progR [⟨1, 1, 7, 0, false⟩] g = .acc (dStore 1 7) fun x => .ret (wrap64 (g + 0)) := rfl
  have h : (dStore 1 7 ⟨[v, 0], k⟩) = (0, true, ⟨[v, 7], wrap64 (k + 1)⟩) := by
    rfl
  rw [e]
  simp [Res.step, Res.tells, h]
  exact ⟨rfl, rfl⟩

/-- A trail alone with its program's blocks, all new. -/
structure Trial (w0 : World) (w : World) (m c t ob pb : Nat) (ocs : Array Value) (n : Nat) (r : Res MemS Int) (μ : MemS) (s : TrS) (F : List Nat) (cur : Res MemS Int) : Prop where
  bare : Bare w m c t r μ s F cur
  nomark : s.marks = []
  ops : Blk w ob 27 ocs
  prog : Blk w pb 34 #[.slice (some ⟨ob, 0, none⟩) n n, .pointer none]
  far : ob ∉ m :: c :: F ∧ pb ∉ m :: c :: F
  new : ∀ b ∈ m :: c :: F, w0.heap.size ≤ b
  low : Below w0.heap.size w0 w
theorem Trial.step {w0 w w' : World} {m c t ob pb : Nat} {ocs : Array Value} {n : Nat} {r : Res MemS Int} {μ : MemS} {s : TrS} {F : List Nat} {cur : Res MemS Int} {time : Int} {e : Ending} (h : Trial w0 w m c t ob pb ocs n r μ s F cur) (hs : BareStep w m c t r μ s F cur time e w') (hk : (cur.step μ).2.2 = []) :
    e = .returned (.bool (cur.step μ).1.isRet) ∧ ∃ s' F', Trial w0 w' m c t ob pb ocs n r (cur.step μ).2.1 s' F' (cur.step μ).1 ∧ s'.told = s.told ++ cur.tells μ := by
  obtain ⟨hb, hmk, ho, hp, hfar, hnew, hlow⟩ := h
  obtain ⟨he, s', F', hb', ht, hm', hF', hu⟩ := hs
  have key : ∀ b, b < w.heap.size → b ∉ m :: c :: F → b ∉ m :: c :: F' := by
    intro b hlt hn hin
    simp only [List.mem_cons, not_or] at hin hn
    rcases hin with e | e | e
    · exact hn.1 e
    · exact hn.2.1 e
    · rcases hF' b e with h | h
      · exact hn.2.2 h
      · omega
  refine ⟨he, s', F', ⟨hb', by rw [hm', hk, hmk]; rfl, ho.upd hu hfar.1, hp.upd hu hfar.2, ⟨key _ ho.lt hfar.1, key _ hp.lt hfar.2⟩, fun b hb => ?_, hlow.trans (hu.below hlow.size hnew)⟩, ht⟩
  simp only [List.mem_cons] at hb
  rcases hb with rfl | rfl | hb
  · exact hnew _ (by simp)
  · exact hnew _ (by simp)
  · rcases hF' b hb with h | h
    · exact hnew b (by simp [h])
    · exact Nat.le_trans hlow.size h
theorem Trial.store {w0 w w' : World} {m c t ob pb : Nat} {ocs : Array Value} {n : Nat} {r : Res MemS Int} {μ μ' : MemS} {s : TrS} {F : List Nat} {cur : Res MemS Int} (h : Trial w0 w m c t ob pb ocs n r μ s F cur) (hm : MemAt w' m c μ') (hu : Upd [m, c] w w') : Trial w0 w' m c t ob pb ocs n r μ' s F cur := by
  obtain ⟨⟨hb, hat, hov⟩, hmk, ho, hp, hfar, hnew, hlow⟩ := h
  have h1 := hfar.1
  have h2 := hfar.2
  simp only [List.mem_cons, not_or] at h1 h2
  refine ⟨⟨hb.with_mem hm hu, hat, hov⟩, hmk, ho.upd hu (by simp; exact ⟨h1.1, h1.2.1⟩), hp.upd hu (by simp; exact ⟨h2.1, h2.2.1⟩), hfar, hnew, hlow.trans (hu.below hlow.size fun b hb => hnew b (by simp at hb; rcases hb with e | e <;> simp [e]))⟩
theorem Trial.go {w0 w : World} {m c t ob pb : Nat} {zs : List OpV} {n : Nat} {μ : MemS} {s : TrS} {F : List Nat} {cur : Res MemS Int} (time : Int) (h : Trial w0 w m c t ob pb (zs.flatMap OpV.cells).toArray n (progR zs 0) μ s F cur) (hn : zs.length = n) (hn1 : n ≤ 1000) (hok : ∀ o ∈ zs, o.Ok) (hl : s.told.length < 900000) (hk : (cur.step μ).2.2 = []) :
    Calls Try.prog 19 #[.pointer (some ⟨t, 0, none⟩), .int .i64 time, .func (.func 20) #[.agg #[.slice (some ⟨ob, 0, none⟩) n n, .pointer none]] #[]] w fun e w' =>
      e = .returned (.bool (cur.step μ).1.isRet) ∧ ∃ s' F', Trial w0 w' m c t ob pb (zs.flatMap OpV.cells).toArray n (progR zs 0) (cur.step μ).2.1 s' F' (cur.step μ).1 ∧ s'.told = s.told ++ cur.tells μ := by
  refine (prog_bare' _ n n zs m c t μ s F cur time w h.bare hl (by rw [h.nomark]; simp) ?_ (by omega) ?_).mono fun e w' hs => h.step hs hk
  · subst hn
    exact ArgOf.ofBlk (zs := zs) (cap := zs.length) opcells_len h.ops (fun i _ => by rw [← Array.getElem?_toList]) (Nat.le_refl _) (by unfold maxLen; omega) hok
  · intro _ b hb
    simp [blockOf] at hb
    subst hb
    exact h.far.1
theorem Trial.cells {w0 w : World} {m c t ob pb : Nat} {ocs : Array Value} {n : Nat} {r : Res MemS Int} {μ : MemS} {s : TrS} {F : List Nat} {cur : Res MemS Int} (h : Trial w0 w m c t ob pb ocs n r μ s F cur) :
    w.cell? ⟨pb, 0, none⟩ = some (.slice (some ⟨ob, 0, none⟩) n n) ∧ w.cell? ⟨pb, 1, none⟩ = some (.pointer none) := ⟨h.prog.at_ rfl, h.prog.at_ rfl⟩

set_option maxRecDepth 100000 in
set_option maxHeartbeats 1000000 in
theorem waits03 (v st : Int) (w : World) (_ : (Lit.int .i64 v).wf = true) (hst : (Lit.int .u8 st).wf = true) :
    Calls Try.prog 4 #[.int .i64 v, .int .u8 st] w fun e w' => e = .returned (.bool true) ∧ Below w.heap.size w w' := by
  obtain ⟨N, hN, hN100⟩ : ∃ N : Nat, wrap64 (st.tmod 100) = N ∧ N < 100 := by
    have h0 := bounds_u8 hst
    refine ⟨(st % 100).toNat, ?_, by omega⟩
    rw [Int.tmod_eq_emod_of_nonneg h0.1]
    generalize hx : st % 100 = x
    unfold wrap64
    omega
  have HW := Lib.hid hN
  have HA := Lib.hid awake03
  clear hN hst
  go_enter Try.func4, Try.ntmps4
  go_wp2_with fail
  refine (cell_new 2 _).mono ?_
  rintro e w1 ⟨rfl, hm, hb1, -⟩
  rw [show (⟨List.replicate (capn 2).toNat 0, 0⟩ : MemS) = ⟨[0, 0], 0⟩ from rfl] at hm
  have hmc : w.heap.size ≤ w.heap.size + 1 ∧ w.heap.size ≤ w.heap.size := ⟨by omega, Nat.le_refl _⟩
  generalize hx1 : w.heap.size + 1 = m at *
  obtain ⟨c, hc⟩ : ∃ c, c = w.heap.size := ⟨_, rfl⟩
  have hmc2 : w.heap.size ≤ c := Nat.le_of_eq hc.symm
  rw [← hc] at hm
  clear hx1 hc
  go_wp2_with fail
  refine (t_new m c _ _ hm).mono ?_
  rintro e w2 ⟨rfl, ht, hb2⟩
  have hb12 := below_then hb1 hb2 (Nat.le_refl _)
  have hB1 := hb1.size
  have hB2 := hb2.size
  go_upto_region 4 with fail
  have hT : Trial w ((w2.alloc (.cells #[.int .u8 4, .int .i64 0, .int .i64 0, .int .i64 v, .bool false, .int .u8 1, .int .i64 1, .int .i64 7, .int .i64 0, .bool false] 27)).alloc (.cells #[.slice (some ⟨w2.heap.size, 0, none⟩) 2 2, .pointer none] 34)) m c w1.heap.size w2.heap.size (w2.heap.size + 1) (opsW v |>.flatMap OpV.cells).toArray 2 (progR (opsW v) 0) ⟨[0, 0], 0⟩ TrS.new [w1.heap.size] (progR (opsW v) 0) := by
    refine ⟨Bare.first ((ht.alloc (.cells #[.int .u8 4, .int .i64 0, .int .i64 0, .int .i64 v, .bool false, .int .u8 1, .int .i64 1, .int .i64 7, .int .i64 0, .bool false] 27)).alloc (.cells #[.slice (some ⟨w2.heap.size, 0, none⟩) 2 2, .pointer none] 34)) rfl, rfl, (Blk.new w2 _ _).alloc _, ?_, ⟨fun hin => ?_, fun hin => ?_⟩, ?_, ((hb12.alloc (by omega) _).alloc (by simp; omega) _)⟩
    · have h := Blk.new (w2.alloc (.cells #[.int .u8 4, .int .i64 0, .int .i64 0, .int .i64 v, .bool false, .int .u8 1, .int .i64 1, .int .i64 7, .int .i64 0, .bool false] 27)) 34 #[.slice (some ⟨w2.heap.size, 0, none⟩) 2 2, .pointer none]
      simpa using h
    · have := ht.lt _ hin; omega
    · have := ht.lt _ hin; omega
    · simp; omega
  generalize (w2.alloc (.cells #[.int .u8 4, .int .i64 0, .int .i64 0, .int .i64 v, .bool false, .int .u8 1, .int .i64 1, .int .i64 7, .int .i64 0, .bool false] 27)).alloc (.cells #[.slice (some ⟨w2.heap.size, 0, none⟩) 2 2, .pointer none] 34) = w3 at *
  generalize w2.heap.size = ob at *
  generalize w1.heap.size = t at *
  clear hb1 hb2 hb12 hB1 hB2 ht hm
  go_upto_region 5 with fail
  rw [HW.out]
  go_wp2_with fail
  have HPB := Lib.hid (show ob + 1 = ob + 1 from rfl)
  generalize ob + 1 = pb at *
  have hok : ∀ o ∈ opsW v, o.Ok := by simp [opsW, OpV.Ok]
  go_loopw [9] (fun i wr => ∃ (k : Nat) (s : TrS) (F : List Nat), k ≤ N ∧ (v = 0 → k = 0) ∧ i = .int .i64 k ∧ Trial w wr m c t ob pb (opsW v |>.flatMap OpV.cells).toArray 2 (progR (opsW v) 0) ⟨[0, 0], k⟩ s F (progR (opsW v) 0) ∧ s.told = []) (fun i _ => N - (intOf i).toNat)
  case atStart => exact ⟨0, _, _, Nat.zero_le _, fun _ => rfl, rfl, hT, rfl⟩
  case round =>
    clear hT
    obtain ⟨k, s, F, hk, hv0, rfl, hT, htold⟩ := hrel
    by_cases hlt : k < N ∧ v ≠ 0
    · obtain ⟨hlt, hv⟩ := hlt
      have hv1 : (v == 0) = false := beq_eq_false_iff_ne.2 hv
      have hv2 : (v != 0) = true := bne_iff_ne.2 hv
      have hki : (k : Int) < N := by omega
      have hsw := stepW v hv (k : Int)
      have HS := Lib.hid (hT.go (k : Int) rfl (by decide) hok (by rw [htold]; simp) (by rw [hsw.1]))
      rw [hsw.1, hsw.2] at HS
      obtain ⟨p0, p1⟩ := hT.cells
      have HV := Lib.hid hv0
      have HTD := Lib.hid htold
      clear hsw hT htold hv0 hv
      go_wp2_with fail
      refine HS.out.mono ?_
      rintro e w4 ⟨he, s4, F4, hT4, htd4⟩
      rw [HTD.out] at htd4
      have hr : (progR (opsW v) 0).isRet = false := rfl
      rw [hr] at he
      subst he
      rw [show wrap64 ((k : Int) + 1) = ((k + 1 : Nat) : Int) by unfold wrap64; omega] at hT4
      have HT4 := Lib.hid hT4
      have HTD4 := Lib.hid htd4
      clear hT4 htd4 hr p0 p1 HS
      go_wp2_with fail
      refine (t_steps m c t _ _ _ _ HT4.out.bare.tm).mono ?_
      rw [HTD4.out]
      rintro e w5 ⟨rfl, rfl⟩
      go_wp2_with fail
      refine (cell_count m c _ _ HT4.out.bare.tm.mem).mono ?_
      rintro e w5 ⟨rfl, rfl⟩
      go_wp2
      go_roundw
      case rel => exact ⟨k + 1, s4, F4, by omega, fun h => by simp [h] at hv1, by go_num, HT4.out, by rw [HTD4.out]; rfl⟩
      case measure => simp [intOf]; omega
    · have hsv := stepV v (wrap64 (k + 1))
      have hst : (⟨[0, 0], (k : Int)⟩ : MemS).store 0 v = (0, ⟨[v, 0], wrap64 (k + 1)⟩) := rfl
      have HSV := Lib.hid hsv
      have HST := Lib.hid hst
      have HT := Lib.hid hT
      have HTD := Lib.hid htold
      have HV := Lib.hid hv0
      clear hsv hst hT htold hv0
      have hcase : (k < N ∧ v = 0) ∨ ¬ (k < N) := by
        by_cases h1 : k < N
        · by_cases h2 : v = 0
          · exact .inl ⟨h1, h2⟩
          · exact absurd ⟨h1, h2⟩ hlt
        · exact .inr h1
      clear hlt
      rcases hcase with ⟨hkn, h0⟩ | hkn
      case' inl =>
        have hv1 : (v == 0) = true := beq_iff_eq.2 h0
        have hv2 : (v != 0) = false := by rw [h0]; rfl
        have hki : (k : Int) < N := by omega
        clear h0 hkn
        go_wp2_with fail
        clear hv1 hv2 hki
      case' inr =>
        have hki : ¬ ((k : Int) < N) := by omega
        clear hkn
        go_wp2_with fail
        clear hki
      all_goals
        refine (cell_store m c _ 0 v _ HT.out.bare.tm.mem).mono ?_
        rw [HST.out]
        rintro e w4 ⟨rfl, hm4, hu4⟩
        have hT4 := HT.out.store hm4 hu4
        clear HST hm4 hu4
        obtain ⟨p0, p1⟩ := hT4.cells
        have HS := Lib.hid (hT4.go 100 rfl (by decide) hok (by rw [HTD.out]; simp) (by rw [HSV.out.1]))
        rw [HSV.out.1, HSV.out.2, HTD.out] at HS
        clear hT4
        go_wp2_with fail
        refine HS.out.mono ?_
        rintro e w5 ⟨he, s5, F5, hT5, htd5⟩
        have hr : (progR [⟨1, 1, 7, 0, false⟩] (wrap64 (0 + v))).isRet = false := rfl
        try simp only at he hT5
        rw [hr] at he
        subst he
        clear p0 p1 hr HS
        obtain ⟨p0, p1⟩ := hT5.cells
        have hsx := stepX v (wrap64 (0 + v)) (wrap64 (wrap64 (k + 1) + 1))
        have HS := Lib.hid (hT5.go 101 rfl (by decide) hok (by rw [htd5]; simp) (by rw [hsx.1]))
        rw [hsx.1, hsx.2, htd5] at HS
        clear hT5 hsx htd5
        go_wp2_with fail
        refine HS.out.mono ?_
        rintro e w6 ⟨he, s6, F6, hT6, htd6⟩
        subst he
        have HT6 := Lib.hid hT6
        have hl6 : s6.told.length = 2 := by rw [htd6]; rfl
        have HL6 := Lib.hid hl6
        clear hT6 htd6 hl6 p0 p1 HS
        go_wp2_with fail
        refine (cell_load m c _ 1 _ HT6.out.bare.tm.mem).mono ?_
        have hld : ∀ x, (⟨[v, 7], x⟩ : MemS).load 1 = (7, 0, ⟨[v, 7], wrap64 (x + 1)⟩) := fun _ => rfl
        rw [hld]
        clear hld
        rintro e w7 ⟨rfl, hm7, hu7⟩
        have hT7 := HT6.out.store hm7 (hu7.mono (by simp))
        have HT7 := Lib.hid hT7
        clear hT7 hm7 hu7 HT6
        go_wp2_with fail
        refine (HA.out _).mono ?_
        rintro e w8 ⟨rfl, hb8⟩
        have HB8 := Lib.hid hb8
        have htm8 := HT7.out.bare.tm.upd (Upd.of_below hb8 (F := [])) (by simp) (by simp) (by simp)
        have HTM8 := Lib.hid htm8
        clear hb8 htm8
        go_wp2_with fail
        refine (t_steps m c t _ _ _ _ HTM8.out).mono ?_
        rw [HL6.out]
        rintro e w9 ⟨rfl, rfl⟩
        go_wp2
        go_ret
        exact ⟨rfl, below_then HT7.out.low HB8.out (Nat.le_refl _)⟩
end Go.Proofs.Ytcphidmfdakbeaa
