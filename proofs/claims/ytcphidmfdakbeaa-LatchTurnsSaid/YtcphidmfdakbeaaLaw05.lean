/- Layer 5's statements, walked: the tasks' steps, awake, LatchIdle, LatchWaits. -/
import Derived.Test.YtcphidmfdakbeaaLatch
import Derived.Test.YtcphidmfdakbeaaPut
import Derived.OpenShut
namespace Go.Proofs.Ytcphidmfdakbeaa
open Go.RowKit

theorem user_step (m c t pb po : Nat) (ty : TypeId) (μ : MemS) (s : TrS) (F : List Nat) (cs : Array Value) (cur : Res MemS Int) (time : Int) (w : World)
    (h : Put w m c t pb po ty userR (Value.int .i64) μ s F cs cur) (hl : s.told.length < 1000000) :
    Calls Try.prog 19 #[.pointer (some ⟨t, 0, none⟩), .int .i64 time, .func (.func 41) #[.agg #[.pointer (some ⟨pb, po, none⟩)]] #[]] w (PutStep w m c t pb po ty userR (Value.int .i64) μ s F cs cur time) := by
  refine put_step _ _ m c t pb po ty userR _ μ s F cs cur time w h (fun _ => by kernel_rfl) fun w1 h1 hb1 hso => ?_
  have hc := hb1.at_ (i := po) (v := cs[po]'h.cell) (by simp [h.cell])
  exact user_run pb po _ m c t μ (s.begin time) F _ w1 h1 (h.begin_in time) (by omega) hso hc (hb1.free po) h.far

set_option maxRecDepth 100000 in
theorem idler_run (pb po : Nat) (x : Value) (m c t : Nat) (μ : MemS) (s : TrS) (F : List Nat) (n : Nat) (w : World) (h : TM w m c t μ s F) (hi : s.In n) (hn : n ≤ 1000000) (hov : s.over = false)
    (hp : w.cell? ⟨pb, po, none⟩ = some x) (hf : w.frozen? ⟨pb, po, none⟩ = false) (hpF : pb ∉ m :: c :: F) :
    Calls Try.prog 42 #[.agg #[.pointer (some ⟨pb, po, none⟩)], .pointer (some ⟨t, 0, none⟩)] w (TaskPost (TaskQ w m c μ s F (idleR 1) ⟨pb, po, none⟩ Value.bool) m c t) := by
  have hlt := World.block_lt_of_cell? w _ hp
  simp only at hlt
  have hb0 := Blk.new w 88 #[.pointer (some ⟨pb, po, none⟩)]
  have hbn : w.heap.size ∉ m :: c :: F := fun hin => by have := h.lt _ hin; omega
  have hpw : (w.alloc (.cells #[.pointer (some ⟨pb, po, none⟩)] 88)).cell? ⟨pb, po, none⟩ = some x := by rw [World.cell?_alloc_past _ _ _ hlt]; exact hp
  have hfw : (w.alloc (.cells #[.pointer (some ⟨pb, po, none⟩)] 88)).frozen? ⟨pb, po, none⟩ = false := by rw [World.frozen?_alloc_past _ _ _ hlt]; exact hf
  have a0 := At.first (h.alloc (.cells #[.pointer (some ⟨pb, po, none⟩)] 88)) hi hov
  have hsz : w.heap.size < (w.alloc (.cells #[.pointer (some ⟨pb, po, none⟩)] 88)).heap.size := by simp
  have HQ := Lib.hid (fun (e : Ending) (w2 : World) (h : TaskPost (TaskQ (w.alloc (.cells #[.pointer (some ⟨pb, po, none⟩)] 88)) m c μ s F (idleR 1) ⟨pb, po, none⟩ Value.bool) m c t e w2) => TaskPost.mono (Q' := TaskQ w m c μ s F (idleR 1) ⟨pb, po, none⟩ Value.bool) h (fun _ _ _ _ => TaskQ.of_alloc _))
  clear h hi hov hp hf
  go_enter Try.func42, Try.ntmps42
  go_wp2_with fail
  generalize w.alloc (.cells #[.pointer (some ⟨pb, po, none⟩)] 88) = w1 at *
  generalize hbb : w.heap.size = bb at *
  have HB := Lib.hid hbb
  clear hbb
  refine (latch_idle 1 (by omega) (by omega) m c t μ s F n _ a0.tm a0.inn hn a0.over).mono ?_
  intro e w2 hd
  obtain ⟨k, μ5, s5, F5, rfl, sim1, a5⟩ := a0.does hd
  clear hd
  have hbx := a5.blk hb0 hbn
  have hx := hbx.at_ (i := 0) rfl
  have hpc := (a5.upd.cell (p := ⟨pb, po, none⟩) (show pb < _ by omega) hpF).trans hpw
  have hfc := (a5.upd.free (p := ⟨pb, po, none⟩) (show pb < _ by omega) hpF).trans hfw
  simp only [List.getElem_toArray, List.getElem_cons_zero] at hx
  have HS := Lib.hid sim1
  clear sim1 hb0 hbx hpw hfw
  go_wp2_with fail
  refine (t_dry m c t μ5 s5 F5 _ a5.tm).mono ?_
  cases hd : s5.dry with
  | true =>
    rw [a5.over]
    rintro e w' ⟨rfl, rfl⟩
    have HD := Lib.hid hd
    clear hd
    go_wp2
    go_end0
    exact HQ.out _ _ (a5.ends_dry HS.out HD.out)
  | false =>
    rw [a5.over]
    rintro e w' ⟨rfl, rfl⟩
    have HD := Lib.hid hd
    clear hd
    go_wp2
    go_end0
    exact HQ.out _ _ (a5.ends_put HS.out HD.out hpF (show pb < _ by omega))

theorem idler_step (m c t pb po : Nat) (ty : TypeId) (μ : MemS) (s : TrS) (F : List Nat) (cs : Array Value) (cur : Res MemS Bool) (time : Int) (w : World)
    (h : Put w m c t pb po ty (idleR 1) Value.bool μ s F cs cur) (hl : s.told.length < 1000000) :
    Calls Try.prog 19 #[.pointer (some ⟨t, 0, none⟩), .int .i64 time, .func (.func 42) #[.agg #[.pointer (some ⟨pb, po, none⟩)]] #[]] w (PutStep w m c t pb po ty (idleR 1) Value.bool μ s F cs cur time) := by
  refine put_step _ _ m c t pb po ty (idleR 1) _ μ s F cs cur time w h (fun _ => by kernel_rfl) fun w1 h1 hb1 hso => ?_
  have hc := hb1.at_ (i := po) (v := cs[po]'h.cell) (by simp [h.cell])
  exact idler_run pb po _ m c t μ (s.begin time) F _ w1 h1 (h.begin_in time) (by omega) hso hc (hb1.free po) h.far

theorem alone05 : Res.alone 5 userR.next ⟨[0, 0, 0], 0⟩ = (.ret 0, ⟨[1, 1, 1], 5⟩) := by kernel_rfl


theorem user_alone (w0 : World) (m c t pb po : Nat) (ty : TypeId) (p0 : Res MemS Int) (μ0 : MemS) (told0 : List Int) (cs : Array Value) (k : Nat) (time : Int) (w : World) (s : TrS) (F : List Nat) (h : AloneAt w0 m c t pb po ty userR (Value.int .i64) p0 μ0 told0 cs k w s F) (hk : told0.length + k < 1000000) (hmc : ∀ b ∈ [pb, m, c], w0.heap.size ≤ b) :
    Calls Try.prog 19 #[.pointer (some ⟨t, 0, none⟩), .int .i64 time, .func (.func 41) #[.agg #[.pointer (some ⟨pb, po, none⟩)]] #[]] w
      fun e w' => e = .returned (.bool (Res.alone (k + 1) p0 μ0).1.isRet) ∧ ∃ s' F', AloneAt w0 m c t pb po ty userR (Value.int .i64) p0 μ0 told0 cs (k + 1) w' s' F' :=
  (user_step m c t pb po ty _ s F _ _ time w h.put (h.short hk)).mono fun _ _ hs => h.next hmc hs
theorem idler_alone (w0 : World) (m c t pb po : Nat) (ty : TypeId) (p0 : Res MemS Bool) (μ0 : MemS) (told0 : List Int) (cs : Array Value) (k : Nat) (time : Int) (w : World) (s : TrS) (F : List Nat) (h : AloneAt w0 m c t pb po ty (idleR 1) Value.bool p0 μ0 told0 cs k w s F) (hk : told0.length + k < 1000000) (hmc : ∀ b ∈ [pb, m, c], w0.heap.size ≤ b) :
    Calls Try.prog 19 #[.pointer (some ⟨t, 0, none⟩), .int .i64 time, .func (.func 42) #[.agg #[.pointer (some ⟨pb, po, none⟩)]] #[]] w
      fun e w' => e = .returned (.bool (Res.alone (k + 1) p0 μ0).1.isRet) ∧ ∃ s' F', AloneAt w0 m c t pb po ty (idleR 1) Value.bool p0 μ0 told0 cs (k + 1) w' s' F' :=
  (idler_step m c t pb po ty _ s F _ _ time w h.put (h.short hk)).mono fun _ _ hs => h.next hmc hs

theorem awake05 (w : World) : Calls Try.prog 40 #[] w fun e w' => e = .returned (.bool true) ∧ Below w.heap.size w w' := by
  go_enter Try.func40, Try.ntmps40
  go_wp2_with fail
  refine (cell_new 3 _).mono ?_
  rintro e w1 ⟨rfl, hm, hb, -⟩
  rw [show (⟨List.replicate (capn 3).toNat 0, 0⟩ : MemS) = ⟨[0, 0, 0], 0⟩ from rfl] at hm
  have hB1 := hb.size
  generalize hx1 : w.heap.size + 1 = m at *
  obtain ⟨c, hc⟩ : ∃ c, c = w.heap.size := ⟨_, rfl⟩
  rw [← hc] at hm
  have hbm : ∀ b ∈ [m, c], w.heap.size ≤ b := by simp; omega
  clear hx1 hc
  go_wp2_with fail
  refine (t_new m c ⟨[0, 0, 0], 0⟩ _ hm).mono ?_
  rintro e w2 ⟨rfl, ht, hb2⟩
  have hbt := below_then hb hb2 (Nat.le_refl _)
  have hB2 := hbt.size
  generalize w1.heap.size = t at *
  have hb0 := (Blk.new w2 2 #[.int .i64 (-1)])
  have hA : AloneAt w m c t w2.heap.size 0 2 userR (Value.int .i64) userR.next ⟨[0, 0, 0], 0⟩ [] #[.int .i64 (-1)] 0 (w2.alloc (.cells #[.int .i64 (-1)] 2)) _ _ :=
    AloneAt.first (ht.alloc _) hb0 (fun hin => by have := ht.lt _ hin; omega) (by simp) rfl (by simp; omega) (hbt.alloc hB2 _)
  have hmc : ∀ b ∈ [w2.heap.size, m, c], w.heap.size ≤ b := by
    intro b hb
    simp only [List.mem_cons] at hb
    rcases hb with e | hb
    · omega
    · exact hbm b (by simpa using hb)
  have H5 := Lib.hid alone05
  clear ht hb0 hbt hb2 hm hb
  go_wp2_with fail
  generalize w2.alloc (.cells #[.int .i64 (-1)] 2) = w3 at *
  generalize w2.heap.size = pb at *
  go_loopw [4] (fun i wr => ∃ (k : Nat) (s : TrS) (F : List Nat), k ≤ 5 ∧ i = .int .i64 k ∧ AloneAt w m c t pb 0 2 userR (Value.int .i64) userR.next ⟨[0, 0, 0], 0⟩ [] #[.int .i64 (-1)] k wr s F) (fun i _ => 5 - (intOf i).toNat)
  case atStart => exact ⟨0, _, _, Nat.zero_le _, rfl, hA⟩
  case round =>
    obtain ⟨k, s, F, hk, rfl, hA⟩ := hrel
    by_cases hlt : k < 5
    · go_wp2_with fail
      refine (user_alone w m c t pb 0 _ _ _ _ _ k k _ _ _ hA (by simp; omega) hmc).mono ?_
      rintro e w4 ⟨rfl, s', F', hA⟩
      go_wp2
      go_roundw
      case rel => exact ⟨k + 1, s', F', by omega, by go_num, hA⟩
      case measure => simp [intOf]; omega
    · obtain rfl : k = 5 := by omega
      obtain ⟨hp, -, -, hw⟩ := hA
      rw [H5.out] at hp
      have hm := hp.tm.mem
      have HP := Lib.hid hp
      clear hp
      go_wp2_with fail
      refine (cell_load m c _ 0 _ hm).mono ?_
      rw [show (⟨[1, 1, 1], 5⟩ : MemS).load 0 = (1, 0, ⟨[1, 1, 1], 6⟩) by kernel_rfl]
      rintro e w5 ⟨rfl, hm5, hu5⟩
      have hp := HP.out.mem hm5 hu5 (by simp)
      have hw5 := below_upd hw hu5 (Nat.le_refl _) (fun b hb => hmc b (by simp at hb; simp [hb]))
      have hx := hp.blk.at_ (i := 0) (v := .int .i64 0) (by simp [Res.putIn])
      have hf := hp.blk.free 0
      have ho := Lib.hid hp.over
      have ht := hp.tm
      clear hp hm hm5 hu5 hw
      go_wp2_with fail
      refine (t_over m c t _ s F _ ht).mono ?_
      rw [ho.out]
      rintro e w' ⟨rfl, rfl⟩
      simp only [Res.isRet]
      go_wp2
      go_ret
      exact ⟨rfl, hw5⟩

theorem two05 (a b : Int) : (⟨[0, 0, 0], 0⟩ : MemS).store 1 a = (0, ⟨[0, a, 0], 1⟩) ∧ (⟨[0, a, 0], 1⟩ : MemS).store 2 b = (0, ⟨[0, a, b], 2⟩) := by
  constructor <;> simp [MemS.store, MemS.has, MemS.tick, MemS.set, wrap64]
theorem load05 (a b : Int) (n : Int) (i : Int) (h : i = 1 ∨ i = 2) : (⟨[0, a, b], n⟩ : MemS).load i = (if i = 1 then a else b, 0, ⟨[0, a, b], wrap64 (n + 1)⟩) := by
  rcases h with rfl | rfl <;> simp [MemS.load, MemS.has, MemS.tick, MemS.get]
theorem alone05_idle (a b : Int) : Res.alone 3 (idleR 1).next ⟨[0, a, b], 2⟩ = (.ret (b == a), ⟨[0, a, b], 4⟩) := by
  simp [Res.alone, idleR, Res.next, Res.step, dLoad, load05, wrap64]
theorem idle_two (l : List Int) (b : Bool) (h : (idleR 1).follow l = some (.ret b)) : l.length = 2 := by
  match l, h with
  | [], h => simp [idleR, Res.follow] at h
  | [_], h => simp [idleR, Res.follow] at h
  | [_, _], _ => rfl
  | _ :: _ :: _ :: _, h => simp [idleR, Res.follow] at h

set_option maxRecDepth 100000 in
theorem idle05 (drawn served : Int) (w : World) (_ : (Lit.int .i64 drawn).wf = true) (_ : (Lit.int .i64 served).wf = true) :
    Calls Try.prog 12 #[.int .i64 drawn, .int .i64 served] w fun e w' => e = .returned (.bool true) ∧ Below w.heap.size w w' := by
  have HA := Lib.hid awake05
  go_enter Try.func12, Try.ntmps12
  go_wp2_with fail
  refine (cell_new 3 _).mono ?_
  rintro e w1 ⟨rfl, hm, hb, -⟩
  rw [show (⟨List.replicate (capn 3).toNat 0, 0⟩ : MemS) = ⟨[0, 0, 0], 0⟩ from rfl] at hm
  generalize hx1 : w.heap.size + 1 = m at *
  obtain ⟨c, hc⟩ : ∃ c, c = w.heap.size := ⟨_, rfl⟩
  rw [← hc] at hm
  have hbm : ∀ b ∈ [m, c], w.heap.size ≤ b := by simp; omega
  clear hx1 hc
  go_wp2_with fail
  refine (cell_store m c _ 1 drawn _ hm).mono ?_
  rw [(two05 drawn served).1]
  rintro e w2 ⟨rfl, hm2, hu2⟩
  go_wp2_with fail
  refine (cell_store m c _ 2 served _ hm2).mono ?_
  rw [(two05 drawn served).2]
  rintro e w3 ⟨rfl, hm3, hu3⟩
  have hb3 := below_upd (below_upd hb hu2 (Nat.le_refl _) hbm) hu3 (Nat.le_refl _) hbm
  clear hm hm2 hu2 hu3 hb
  have hB1 := hb3.size
  go_wp2_with fail
  refine (t_new m c _ _ hm3).mono ?_
  rintro e w4 ⟨rfl, ht, hb2⟩
  have hbt := below_then hb3 hb2 (Nat.le_refl _)
  have hB2 := hbt.size
  generalize w3.heap.size = t at *
  have hb0 := (Blk.new w4 4 #[.bool false])
  have hA : AloneAt w m c t w4.heap.size 0 4 (idleR 1) Value.bool (idleR 1).next ⟨[0, drawn, served], 2⟩ [] #[.bool false] 0 (w4.alloc (.cells #[.bool false] 4)) _ _ :=
    AloneAt.first (ht.alloc _) hb0 (fun hin => by have := ht.lt _ hin; omega) (by simp) rfl (by simp; omega) (hbt.alloc hB2 _)
  have hmc : ∀ b ∈ [w4.heap.size, m, c], w.heap.size ≤ b := by
    intro b hb
    simp only [List.mem_cons] at hb
    rcases hb with e | hb
    · omega
    · exact hbm b (by simpa using hb)
  have H5 := Lib.hid (alone05_idle drawn served)
  clear ht hb0 hbt hb2 hm3 hb3
  go_wp2_with fail
  generalize w4.alloc (.cells #[.bool false] 4) = w5 at *
  generalize w4.heap.size = pb at *
  go_wp2_with fail
  go_loopw [8] (fun i wr => ∃ (k : Nat) (s : TrS) (F : List Nat), k ≤ 3 ∧ i = .int .i64 k ∧ AloneAt w m c t pb 0 4 (idleR 1) Value.bool (idleR 1).next ⟨[0, drawn, served], 2⟩ [] #[.bool false] k wr s F) (fun i _ => 3 - (intOf i).toNat)
  case atStart => exact ⟨0, _, _, Nat.zero_le _, rfl, hA⟩
  case round =>
    clear hA
    obtain ⟨k, s, F, hk, rfl, hA⟩ := hrel
    by_cases hlt : k < 3
    · go_wp2_with fail
      refine (idler_alone w m c t pb 0 _ _ _ _ _ k k _ _ _ hA (by simp; omega) hmc).mono ?_
      rintro e w4 ⟨rfl, s', F', hA⟩
      go_wp2
      go_roundw
      case rel => exact ⟨k + 1, s', F', by omega, by go_num, hA⟩
      case measure => simp [intOf]; omega
    · obtain rfl : k = 3 := by omega
      obtain ⟨hp, -, -, hw⟩ := hA
      rw [H5.out] at hp
      have hm := hp.tm.mem
      have HP := Lib.hid hp
      clear hp
      go_wp2_with fail
      refine (HA.out _).mono ?_
      rintro e w5 ⟨rfl, hb5⟩
      have hp := HP.out.below hb5
      have hw5 := below_then hw hb5 (Nat.le_refl _)
      have hx := hp.blk.at_ (i := 0) (v := .bool (served == drawn)) (by simp [Res.putIn])
      have hf := hp.blk.free 0
      have ho := Lib.hid hp.over
      have hl := idle_two s.told (served == drawn) hp.at_
      have ht := hp.tm
      have hL := Lib.hid hl
      clear hp hm hw hl
      go_wp2_with fail
      refine (t_over m c t _ s F _ ht).mono ?_
      rw [ho.out]
      rintro e w' ⟨rfl, rfl⟩
      simp only [Res.isRet]
      have he : ((served == drawn) == (drawn == served)) = true := by
        rw [Bool.beq_comm (a := served)]
        simp
      go_wp2_with fail
      refine (t_steps m c t _ s F _ ht).mono ?_
      rw [hL.out]
      rintro e w' ⟨rfl, rfl⟩
      go_wp2
      go_ret
      exact ⟨rfl, hw5⟩

/-! ### LatchWaits -/
def giveP (k : Int) : Res MemS Int := .acc (dStore 2 (wrap64 (k + 1))) fun _ => .ret k
def storeP (k v : Int) : Res MemS Int := .acc (dStore 0 (wrap64 (v + 1))) fun _ => giveP k
def loadP (k : Int) : Res MemS Int := .acc (dLoad 0) fun v => storeP k v
def waitP (k : Int) : Res MemS Int := .acc (dWait 2 k) fun _ => loadP k
theorem user_eq : userR = .acc (dAdd 1 1) waitP := by kernel_rfl

theorem drawn05 (a b n : Int) : dAdd 1 1 ⟨[0, a, b], n⟩ = (a, true, ⟨[0, wrap64 (a + 1), b], wrap64 (n + 1)⟩) := by
  simp [dAdd, MemS.add, MemS.has, MemS.tick, MemS.get, MemS.set]
theorem waits05 (a b d n : Int) : dWait 2 d ⟨[0, a, b], n⟩ = (b, b == d, ⟨[0, a, b], wrap64 (n + 1)⟩) := by
  simp [dWait, MemS.load, MemS.has, MemS.tick, MemS.get]
theorem stays05 (drawn served : Int) (h : drawn ≠ served) (k : Nat) : ∃ n, Res.alone (k + 1) userR.next ⟨[0, drawn, served], 2⟩ = (waitP drawn, ⟨[0, wrap64 (drawn + 1), served], n⟩) ∧ Res.aloneTold (k + 1) userR.next ⟨[0, drawn, served], 2⟩ = [drawn] := by
  induction k with
  | zero =>
    refine ⟨wrap64 (2 + 1), ?_, ?_⟩
    · simp only [Res.alone, user_eq, Res.next, Res.step, drawn05]
      rfl
    · simp only [Res.aloneTold, Res.alone, user_eq, Res.next, Res.tells, drawn05]
      rfl
  | succ k ih =>
    obtain ⟨n, e1, e2⟩ := ih
    have hne : (served == drawn) = false := by simp; exact fun e => h e.symm
    refine ⟨wrap64 (n + 1), ?_, ?_⟩
    · rw [Res.alone, e1]
      simp only [waitP, Res.step, waits05, hne]
      rfl
    · rw [Res.aloneTold, e2, e1]
      simp only [waitP, Res.tells, waits05, hne]
      rfl
theorem goes05 (drawn a n : Int) : ∃ n', Res.alone 4 (waitP drawn) ⟨[0, a, drawn], n⟩ = (.ret drawn, ⟨[1, a, wrap64 (drawn + 1)], n'⟩) := by
  refine ⟨wrap64 (wrap64 (wrap64 (wrap64 (n + 1) + 1) + 1) + 1), ?_⟩
  simp [Res.alone, waitP, loadP, storeP, giveP, Res.next, Res.step, waits05, dLoad, dStore, MemS.load, MemS.store, MemS.has, MemS.tick, MemS.get, MemS.set]
  simp [wrap64]

set_option maxRecDepth 100000 in
theorem waits05_ (drawn served st : Int) (w : World) (_ : (Lit.int .i64 drawn).wf = true) (_ : (Lit.int .i64 served).wf = true) (hst : (Lit.int .u8 st).wf = true) :
    Calls Try.prog 14 #[.int .i64 drawn, .int .i64 served, .int .u8 st] w fun e w' => e = .returned (.bool true) ∧ Below w.heap.size w w' := by
  have HA := Lib.hid awake05
  by_cases hne : drawn = served
  · have q : (drawn == served) = true := by simp [hne]
    go_enter Try.func14, Try.ntmps14
    go_wp2_with fail
    refine (HA.out _).mono ?_
    rintro e w1 ⟨rfl, hb1⟩
    go_wp2_with fail
    refine (HA.out _).mono ?_
    rintro e w2 ⟨rfl, hb2⟩
    go_wp2
    go_ret
    exact ⟨rfl, below_then hb1 hb2 (Nat.le_refl _)⟩
  · have q : (drawn == served) = false := by simp [hne]
    have HN := Lib.hid hne
    clear hne
    go_enter Try.func14, Try.ntmps14
    go_wp2_with fail
    refine (HA.out _).mono ?_
    rintro e w0 ⟨rfl, hb0⟩
    go_wp2_with fail
    refine (cell_new 3 _).mono ?_
    rintro e w1 ⟨rfl, hm, hb1, -⟩
    rw [show (⟨List.replicate (capn 3).toNat 0, 0⟩ : MemS) = ⟨[0, 0, 0], 0⟩ from rfl] at hm
    have hB0 := hb0.size
    have hb := below_then hb0 hb1 (Nat.le_refl _)
    generalize hx1 : w0.heap.size + 1 = m at *
    generalize hc : w0.heap.size = c at *
    have hbm : ∀ b ∈ [m, c], w.heap.size ≤ b := by simp; omega
    clear hx1 hc hb0 hb1
    go_wp2_with fail
    refine (cell_store m c _ 1 drawn _ hm).mono ?_
    rw [(two05 drawn served).1]
    rintro e w2 ⟨rfl, hm2, hu2⟩
    go_wp2_with fail
    refine (cell_store m c _ 2 served _ hm2).mono ?_
    rw [(two05 drawn served).2]
    rintro e w3 ⟨rfl, hm3, hu3⟩
    have hb3 := below_upd (below_upd hb hu2 (Nat.le_refl _) hbm) hu3 (Nat.le_refl _) hbm
    clear hm hm2 hu2 hu3 hb
    have hB1 := hb3.size
    go_wp2_with fail
    refine (t_new m c _ _ hm3).mono ?_
    rintro e w4 ⟨rfl, ht, hb2⟩
    have hbt := below_then hb3 hb2 (Nat.le_refl _)
    have hB2 := hbt.size
    generalize w3.heap.size = t at *
    have hb0 := (Blk.new w4 2 #[.int .i64 0])
    have hA : AloneAt w m c t w4.heap.size 0 2 userR (Value.int .i64) userR.next ⟨[0, drawn, served], 2⟩ [] #[.int .i64 0] 0 (w4.alloc (.cells #[.int .i64 0] 2)) _ _ :=
      AloneAt.first (ht.alloc _) hb0 (fun hin => by have := ht.lt _ hin; omega) (by simp) rfl (by simp; omega) (hbt.alloc hB2 _)
    have hmc : ∀ b ∈ [w4.heap.size, m, c], w.heap.size ≤ b := by
      intro b hb
      simp only [List.mem_cons] at hb
      rcases hb with e | hb
      · omega
      · exact hbm b (by simpa using hb)
    clear ht hb0 hbt hb2 hm3 hb3
    go_wp2_with fail
    generalize w4.alloc (.cells #[.int .i64 0] 2) = w5 at *
    generalize w4.heap.size = pb at *
    obtain ⟨N, hN, hN50⟩ : ∃ N : Nat, wrap64 (2 + wrap64 (st.tmod 50)) = (2 + N : Nat) ∧ N < 50 := by
      have h0 := bounds_u8 hst
      refine ⟨(st % 50).toNat, ?_, by omega⟩
      rw [Int.tmod_eq_emod_of_nonneg h0.1]
      generalize hx : st % 50 = x
      unfold wrap64
      omega
    have HST := Lib.hid hst
    have HW := Lib.hid hN
    clear hst hN
    go_wp2_with fail
    go_loopw [10] (fun i wr => ∃ (k : Nat) (s : TrS) (F : List Nat), k ≤ 2 + N ∧ i = .int .i64 k ∧ AloneAt w m c t pb 0 2 userR (Value.int .i64) userR.next ⟨[0, drawn, served], 2⟩ [] #[.int .i64 0] k wr s F) (fun i _ => 2 + N - (intOf i).toNat)
    case atStart => exact ⟨0, _, _, Nat.zero_le _, rfl, hA⟩
    case round =>
      clear hA
      obtain ⟨k, s, F, hk, rfl, hA⟩ := hrel
      have hmm := hA.put.tm.mem
      by_cases hlt : k < 2 + N
      · have c1 : (k : Int) < wrap64 (2 + wrap64 (st.tmod 50)) := by rw [HW.out]; omega
        obtain ⟨n, h5, h6⟩ := stays05 drawn served HN.out k
        have H5 := Lib.hid h5
        have H6 := Lib.hid h6
        clear h5 h6 hmm
        go_wp2_with fail
        refine (user_alone w m c t pb 0 _ _ _ _ _ k k _ _ _ hA (by simp; omega) hmc).mono ?_
        rw [H5.out]
        rintro e w6 ⟨rfl, s', F', hA⟩
        have hl : s'.told.length = 1 := by rw [hA.told, H6.out]; rfl
        have HL := Lib.hid hl
        clear hl
        simp only [waitP, Res.isRet]
        go_wp2_with fail
        refine (t_steps m c t _ s' F' _ hA.put.tm).mono ?_
        rw [HL.out]
        rintro e w' ⟨rfl, rfl⟩
        go_wp2
        go_roundw
        case rel => exact ⟨k + 1, s', F', by omega, by go_num, hA⟩
        case measure => simp [intOf]; omega
      · have c1 : ¬ (k : Int) < wrap64 (2 + wrap64 (st.tmod 50)) := by rw [HW.out]; omega
        obtain ⟨n, h5, h6⟩ := stays05 drawn served HN.out (1 + N)
        obtain rfl : k = 1 + N + 1 := by omega
        obtain ⟨hp, htl, hF, hw⟩ := hA
        rw [h5] at hp hmm
        have hts : s.told.length = 1 := by rw [htl, h6]; rfl
        have HL := Lib.hid hts
        clear htl h6 hts
        have HP := Lib.hid hp
        clear h5 hp
        go_wp2_with fail
        refine (cell_store m c _ 2 drawn _ hmm).mono ?_
        rw [show (⟨[0, wrap64 (drawn + 1), served], n⟩ : MemS).store 2 drawn = (0, ⟨[0, wrap64 (drawn + 1), drawn], wrap64 (n + 1)⟩) by simp [MemS.store, MemS.has, MemS.tick, MemS.set]]
        rintro e w6 ⟨rfl, hm6, hu6⟩
        have hp := HP.out.mem hm6 hu6 (by simp)
        have hw6 := below_upd hw hu6 (Nat.le_refl _) (fun b hb => hmc b (by simp only [List.mem_cons] at hb ⊢; exact .inr hb))
        have hA := AloneAt.again hp hF hw6 rfl
        obtain ⟨n', h7⟩ := goes05 drawn (wrap64 (drawn + 1)) (wrap64 (n + 1))
        have H7 := Lib.hid h7
        clear h7 hp hmm hm6 hu6 hw hF HP
        go_wp2_with fail
        go_loopw [11] (fun i wr => ∃ (k : Nat) (s' : TrS) (F' : List Nat), k ≤ 4 ∧ i = .int .i64 k ∧ AloneAt w m c t pb 0 2 userR (Value.int .i64) (waitP drawn) ⟨[0, wrap64 (drawn + 1), drawn], wrap64 (n + 1)⟩ s.told #[.int .i64 0] k wr s' F') (fun i _ => 4 - (intOf i).toNat)
        case atStart => exact ⟨0, _, _, Nat.zero_le _, rfl, hA⟩
        case round =>
          clear hA
          obtain ⟨k, s', F', hk, rfl, hA⟩ := hrel
          by_cases hlt : k < 4
          · go_wp2_with fail
            refine (user_alone w m c t pb 0 _ _ _ _ _ k _ _ _ _ hA (by rw [HL.out]; omega) hmc).mono ?_
            rintro e w7 ⟨rfl, s2, F2, hA⟩
            go_wp2
            go_roundw
            case rel => exact ⟨k + 1, s2, F2, by omega, by go_num, hA⟩
            case measure => simp [intOf]; omega
          · obtain rfl : k = 4 := by omega
            obtain ⟨hp, -, -, hw⟩ := hA
            rw [H7.out] at hp
            have hm := hp.tm.mem
            have HP := Lib.hid hp
            clear hp
            go_wp2_with fail
            refine (cell_look_as m c _ 0 3 [1, wrap64 (drawn + 1), wrap64 (drawn + 1)] 3 (by simp [MemS.look]) rfl _ hm).mono ?_
            rintro e w7 ⟨g, cap', rfl, -, hrow, hb7⟩
            have hp := HP.out.below hb7
            have hw7 := below_then hw hb7 (Nat.le_refl _)
            have hx := hp.blk.at_ (i := 0) (v := .int .i64 drawn) (by simp [Res.putIn])
            have hf := hp.blk.free 0
            have ho := Lib.hid hp.over
            have ht := hp.tm
            clear hp hm hw hb7
            have c0 := hrow.cell (j := 0) (u := .int .i64 1) rfl
            have c1 := hrow.cell (j := 1) (u := .int .i64 (wrap64 (drawn + 1))) rfl
            have c2 := hrow.cell (j := 2) (u := .int .i64 (wrap64 (drawn + 1))) rfl
            have q1 : (drawn == drawn) = true := by simp
            clear hrow
            go_wp2_with fail
            refine (t_over m c t _ s' F' _ ht).mono ?_
            rw [ho.out]
            rintro e w' ⟨rfl, rfl⟩
            simp only [Res.isRet]
            have q2 : wrap64 (drawn + 1) = wrap64 (IntKind.u64.wrap (IntKind.u64.wrap drawn + 1)) := (u64_sum drawn 1).symm.trans (by rw [show IntKind.u64.wrap 1 = 1 from rfl])
            go_wp2
            go_ret
            exact ⟨rfl, hw7⟩
end Go.Proofs.Ytcphidmfdakbeaa
