/- Layer 5's statements, walked: the tasks' steps, awake, LatchIdle, LatchWaits. -/
import Derived.Test.YtcphidmfdakbeaaLatch
import Derived.Test.YtcphidmfdakbeaaPut
namespace Go.Proofs.Ytcphidmfdakbeaa
open Go.RowKit

theorem user_step (m c t pb po : Nat) (ty : TypeId) (μ : MemS) (s : TrS) (F : List Nat) (cs : Array Value) (cur : Res MemS Int) (time : Int) (w : World)
    (h : Put w m c t pb po ty userR (Value.int .i64) μ s F cs cur) (hl : s.told.length < 1000000) :
    Calls Try.prog 19 #[.pointer (some ⟨t, 0, none⟩), .int .i64 time, .func (.func 41) #[.agg #[.pointer (some ⟨pb, po, none⟩)]] #[]] w (PutStep w m c t pb po ty userR (Value.int .i64) μ s F cs cur time) := by
  refine put_step _ _ m c t pb po ty userR _ μ s F cs cur time w h (fun _ => by kernel_rfl) fun w1 h1 hb1 hso => ?_
  have hc := hb1.at_ (i := po) (v := cs[po]'h.cell) (by simp [h.cell])
  exact user_run pb po _ m c t μ (s.begin time) F _ w1 h1 (h.begin_in time) (by omega) hso hc (hb1.free po) h.far

set_option maxRecDepth 100000 in
theorem idler_run (pb po : Nat) (x : Value) (m c t : Nat) (μ : MemS) (s : TrS) (F : List Nat) (n : Nat) (w : World) (h : TM w m c t μ s F) (hi : s.In n) (hn : n ≤ 1000000) (hov : s.over = false)
    (hp : w.cell? ⟨pb, po, none⟩ = some x) (hf : w.frozen? ⟨pb, po, none⟩ = false) (hpF : pb ∉ m :: c :: F) :
    Calls Try.prog 42 #[.agg #[.pointer (some ⟨pb, po, none⟩)], .pointer (some ⟨t, 0, none⟩)] w (TaskPost (TaskQ w m c μ s F (idleR 1) ⟨pb, po, none⟩ Value.bool) m c t) := by
  have hlt := World.block_lt_of_cell? w _ hp
  simp only at hlt
  have hb0 := Blk.new w 88 #[.pointer (some ⟨pb, po, none⟩)]
  have hbn : w.heap.size ∉ m :: c :: F := fun hin => by have := h.lt _ hin; omega
  have hpw : (w.alloc (.cells #[.pointer (some ⟨pb, po, none⟩)] 88)).cell? ⟨pb, po, none⟩ = some x := by rw [World.cell?_alloc_past _ _ _ hlt]; exact hp
  have hfw : (w.alloc (.cells #[.pointer (some ⟨pb, po, none⟩)] 88)).frozen? ⟨pb, po, none⟩ = false := by rw [World.frozen?_alloc_past _ _ _ hlt]; exact hf
  have a0 := At.first (h.alloc (.cells #[.pointer (some ⟨pb, po, none⟩)] 88)) hi hov
  have hsz : w.heap.size < (w.alloc (.cells #[.pointer (some ⟨pb, po, none⟩)] 88)).heap.size := by simp
  have HQ := Lib.hid (fun (e : Ending) (w2 : World) (h : TaskPost (TaskQ (w.alloc (.cells #[.pointer (some ⟨pb, po, none⟩)] 88)) m c μ s F (idleR 1) ⟨pb, po, none⟩ Value.bool) m c t e w2) => TaskPost.mono (Q' := TaskQ w m c μ s F (idleR 1) ⟨pb, po, none⟩ Value.bool) h (fun _ _ _ _ => TaskQ.of_alloc _))
  clear h hi hov hp hf
  go_enter Try.func42, Try.ntmps42
  go_wp2_with fail
  generalize w.alloc (.cells #[.pointer (some ⟨pb, po, none⟩)] 88) = w1 at *
  generalize hbb : w.heap.size = bb at *
  have HB := Lib.hid hbb
  clear hbb
  refine (latch_idle 1 (by omega) (by omega) m c t μ s F n _ a0.tm a0.inn hn a0.over).mono ?_
  intro e w2 hd
  obtain ⟨k, μ5, s5, F5, rfl, sim1, a5⟩ := a0.does hd
  clear hd
  have hbx := a5.blk hb0 hbn
  have hx := hbx.at_ (i := 0) rfl
  have hpc := (a5.upd.cell (p := ⟨pb, po, none⟩) (show pb < _ by omega) hpF).trans hpw
  have hfc := (a5.upd.free (p := ⟨pb, po, none⟩) (show pb < _ by omega) hpF).trans hfw
  simp only [List.getElem_toArray, List.getElem_cons_zero] at hx
  have HS := Lib.hid sim1
  clear sim1 hb0 hbx hpw hfw
  go_wp2_with fail
  refine (t_dry m c t μ5 s5 F5 _ a5.tm).mono ?_
  cases hd : s5.dry with
  | true =>
    rw [a5.over]
    rintro e w' ⟨rfl, rfl⟩
    have HD := Lib.hid hd
    clear hd
    go_wp2
    go_end0
    exact HQ.out _ _ (a5.ends_dry HS.out HD.out)
  | false =>
    rw [a5.over]
    rintro e w' ⟨rfl, rfl⟩
    have HD := Lib.hid hd
    clear hd
    go_wp2
    go_end0
    exact HQ.out _ _ (a5.ends_put HS.out HD.out hpF (show pb < _ by omega))

theorem idler_step (m c t pb po : Nat) (ty : TypeId) (μ : MemS) (s : TrS) (F : List Nat) (cs : Array Value) (cur : Res MemS Bool) (time : Int) (w : World)
    (h : Put w m c t pb po ty (idleR 1) Value.bool μ s F cs cur) (hl : s.told.length < 1000000) :
    Calls Try.prog 19 #[.pointer (some ⟨t, 0, none⟩), .int .i64 time, .func (.func 42) #[.agg #[.pointer (some ⟨pb, po, none⟩)]] #[]] w (PutStep w m c t pb po ty (idleR 1) Value.bool μ s F cs cur time) := by
  refine put_step _ _ m c t pb po ty (idleR 1) _ μ s F cs cur time w h (fun _ => by kernel_rfl) fun w1 h1 hb1 hso => ?_
  have hc := hb1.at_ (i := po) (v := cs[po]'h.cell) (by simp [h.cell])
  exact idler_run pb po _ m c t μ (s.begin time) F _ w1 h1 (h.begin_in time) (by omega) hso hc (hb1.free po) h.far

theorem alone05 : Res.alone 5 userR.next ⟨[0, 0, 0], 0⟩ = (.ret 0, ⟨[1, 1, 1], 5⟩) := by kernel_rfl


theorem user_alone (w0 : World) (m c t pb po : Nat) (ty : TypeId) (μ0 : MemS) (cs : Array Value) (k : Nat) (time : Int) (w : World) (h : AloneAt w0 m c t pb po ty userR (Value.int .i64) μ0 cs k w) (hk : k < 1000000) (hmc : ∀ b ∈ [pb, m, c], w0.heap.size ≤ b) :
    Calls Try.prog 19 #[.pointer (some ⟨t, 0, none⟩), .int .i64 time, .func (.func 41) #[.agg #[.pointer (some ⟨pb, po, none⟩)]] #[]] w
      fun e w' => e = .returned (.bool (Res.alone (k + 1) userR.next μ0).1.isRet) ∧ AloneAt w0 m c t pb po ty userR (Value.int .i64) μ0 cs (k + 1) w' := by
  obtain ⟨s, F, hp, hs, hF, hw⟩ := h
  exact (user_step m c t pb po ty _ s F _ _ time w hp (by omega)).mono fun e w' h => AloneAt.next h hs hF hw hmc
theorem idler_alone (w0 : World) (m c t pb po : Nat) (ty : TypeId) (μ0 : MemS) (cs : Array Value) (k : Nat) (time : Int) (w : World) (h : AloneAt w0 m c t pb po ty (idleR 1) Value.bool μ0 cs k w) (hk : k < 1000000) (hmc : ∀ b ∈ [pb, m, c], w0.heap.size ≤ b) :
    Calls Try.prog 19 #[.pointer (some ⟨t, 0, none⟩), .int .i64 time, .func (.func 42) #[.agg #[.pointer (some ⟨pb, po, none⟩)]] #[]] w
      fun e w' => e = .returned (.bool (Res.alone (k + 1) (idleR 1).next μ0).1.isRet) ∧ AloneAt w0 m c t pb po ty (idleR 1) Value.bool μ0 cs (k + 1) w' := by
  obtain ⟨s, F, hp, hs, hF, hw⟩ := h
  exact (idler_step m c t pb po ty _ s F _ _ time w hp (by omega)).mono fun e w' h => AloneAt.next h hs hF hw hmc

theorem awake05 (w : World) : Calls Try.prog 40 #[] w fun e w' => e = .returned (.bool true) ∧ Below w.heap.size w w' := by
  go_enter Try.func40, Try.ntmps40
  go_wp2_with fail
  refine (cell_new 3 _).mono ?_
  rintro e w1 ⟨rfl, hm, hb, -⟩
  rw [show (⟨List.replicate (capn 3).toNat 0, 0⟩ : MemS) = ⟨[0, 0, 0], 0⟩ from rfl] at hm
  have hB1 := hb.size
  generalize hx1 : w.heap.size + 1 = m at *
  obtain ⟨c, hc⟩ : ∃ c, c = w.heap.size := ⟨_, rfl⟩
  rw [← hc] at hm
  have hbm : ∀ b ∈ [m, c], w.heap.size ≤ b := by simp; omega
  clear hx1 hc
  go_wp2_with fail
  refine (t_new m c ⟨[0, 0, 0], 0⟩ _ hm).mono ?_
  rintro e w2 ⟨rfl, ht, hb2⟩
  have hbt := below_then hb hb2 (Nat.le_refl _)
  have hB2 := hbt.size
  generalize w1.heap.size = t at *
  have hb0 := (Blk.new w2 2 #[.int .i64 (-1)])
  have hA : AloneAt w m c t w2.heap.size 0 2 userR (Value.int .i64) ⟨[0, 0, 0], 0⟩ #[.int .i64 (-1)] 0 (w2.alloc (.cells #[.int .i64 (-1)] 2)) :=
    AloneAt.first (ht.alloc _) hb0 (fun hin => by have := ht.lt _ hin; omega) (by simp) rfl (by simp; omega) (hbt.alloc hB2 _)
  have hmc : ∀ b ∈ [w2.heap.size, m, c], w.heap.size ≤ b := by
    intro b hb
    simp only [List.mem_cons] at hb
    rcases hb with e | hb
    · omega
    · exact hbm b (by simpa using hb)
  have H5 := Lib.hid alone05
  clear ht hb0 hbt hb2 hm hb
  go_wp2_with fail
  generalize w2.alloc (.cells #[.int .i64 (-1)] 2) = w3 at *
  generalize w2.heap.size = pb at *
  go_loopw [4] (fun i wr => ∃ k : Nat, k ≤ 5 ∧ i = .int .i64 k ∧ AloneAt w m c t pb 0 2 userR (Value.int .i64) ⟨[0, 0, 0], 0⟩ #[.int .i64 (-1)] k wr) (fun i _ => 5 - (intOf i).toNat)
  case atStart => exact ⟨0, Nat.zero_le _, rfl, hA⟩
  case round =>
    obtain ⟨k, hk, rfl, hA⟩ := hrel
    by_cases hlt : k < 5
    · go_wp2_with fail
      refine (user_alone w m c t pb 0 _ _ _ k k _ hA (by omega) hmc).mono ?_
      rintro e w4 ⟨rfl, hA⟩
      go_wp2
      go_roundw
      case rel => exact ⟨k + 1, by omega, by go_num, hA⟩
      case measure => simp [intOf]; omega
    · obtain rfl : k = 5 := by omega
      obtain ⟨s, F, hp, -, -, hw⟩ := hA
      rw [H5.out] at hp
      have hm := hp.tm.mem
      have HP := Lib.hid hp
      clear hp
      go_wp2_with fail
      refine (cell_load m c _ 0 _ hm).mono ?_
      rw [show (⟨[1, 1, 1], 5⟩ : MemS).load 0 = (1, 0, ⟨[1, 1, 1], 6⟩) by kernel_rfl]
      rintro e w5 ⟨rfl, hm5, hu5⟩
      have hp := HP.out.mem hm5 hu5 (by simp)
      have hw5 := below_upd hw hu5 (Nat.le_refl _) (fun b hb => hmc b (by simp at hb; simp [hb]))
      have hx := hp.blk.at_ (i := 0) (v := .int .i64 0) (by simp [Res.putIn])
      have hf := hp.blk.free 0
      have ho := Lib.hid hp.over
      have ht := hp.tm
      clear hp hm hm5 hu5 hw
      go_wp2_with fail
      refine (t_over m c t _ s F _ ht).mono ?_
      rw [ho.out]
      rintro e w' ⟨rfl, rfl⟩
      simp only [Res.isRet]
      go_wp2
      go_ret
      exact ⟨rfl, hw5⟩

theorem two05 (a b : Int) : (⟨[0, 0, 0], 0⟩ : MemS).store 1 a = (0, ⟨[0, a, 0], 1⟩) ∧ (⟨[0, a, 0], 1⟩ : MemS).store 2 b = (0, ⟨[0, a, b], 2⟩) := by
  constructor <;> simp [MemS.store, MemS.has, MemS.tick, MemS.set, wrap64]
theorem load05 (a b : Int) (n : Int) (i : Int) (h : i = 1 ∨ i = 2) : (⟨[0, a, b], n⟩ : MemS).load i = (if i = 1 then a else b, 0, ⟨[0, a, b], wrap64 (n + 1)⟩) := by
  rcases h with rfl | rfl <;> simp [MemS.load, MemS.has, MemS.tick, MemS.get]
theorem alone05_idle (a b : Int) : Res.alone 3 (idleR 1).next ⟨[0, a, b], 2⟩ = (.ret (b == a), ⟨[0, a, b], 4⟩) := by
  simp [Res.alone, idleR, Res.next, Res.step, dLoad, load05, wrap64]
theorem idle_two (l : List Int) (b : Bool) (h : (idleR 1).follow l = some (.ret b)) : l.length = 2 := by
  match l, h with
  | [], h => simp [idleR, Res.follow] at h
  | [_], h => simp [idleR, Res.follow] at h
  | [_, _], _ => rfl
  | _ :: _ :: _ :: _, h => simp [idleR, Res.follow] at h

set_option maxRecDepth 100000 in
theorem idle05 (drawn served : Int) (w : World) (_ : (Lit.int .i64 drawn).wf = true) (_ : (Lit.int .i64 served).wf = true) :
    Calls Try.prog 12 #[.int .i64 drawn, .int .i64 served] w fun e w' => e = .returned (.bool true) ∧ Below w.heap.size w w' := by
  have HA := Lib.hid awake05
  go_enter Try.func12, Try.ntmps12
  go_wp2_with fail
  refine (cell_new 3 _).mono ?_
  rintro e w1 ⟨rfl, hm, hb, -⟩
  rw [show (⟨List.replicate (capn 3).toNat 0, 0⟩ : MemS) = ⟨[0, 0, 0], 0⟩ from rfl] at hm
  generalize hx1 : w.heap.size + 1 = m at *
  obtain ⟨c, hc⟩ : ∃ c, c = w.heap.size := ⟨_, rfl⟩
  rw [← hc] at hm
  have hbm : ∀ b ∈ [m, c], w.heap.size ≤ b := by simp; omega
  clear hx1 hc
  go_wp2_with fail
  refine (cell_store m c _ 1 drawn _ hm).mono ?_
  rw [(two05 drawn served).1]
  rintro e w2 ⟨rfl, hm2, hu2⟩
  go_wp2_with fail
  refine (cell_store m c _ 2 served _ hm2).mono ?_
  rw [(two05 drawn served).2]
  rintro e w3 ⟨rfl, hm3, hu3⟩
  have hb3 := below_upd (below_upd hb hu2 (Nat.le_refl _) hbm) hu3 (Nat.le_refl _) hbm
  clear hm hm2 hu2 hu3 hb
  have hB1 := hb3.size
  go_wp2_with fail
  refine (t_new m c _ _ hm3).mono ?_
  rintro e w4 ⟨rfl, ht, hb2⟩
  have hbt := below_then hb3 hb2 (Nat.le_refl _)
  have hB2 := hbt.size
  generalize w3.heap.size = t at *
  have hb0 := (Blk.new w4 4 #[.bool false])
  have hA : AloneAt w m c t w4.heap.size 0 4 (idleR 1) Value.bool ⟨[0, drawn, served], 2⟩ #[.bool false] 0 (w4.alloc (.cells #[.bool false] 4)) :=
    AloneAt.first (ht.alloc _) hb0 (fun hin => by have := ht.lt _ hin; omega) (by simp) rfl (by simp; omega) (hbt.alloc hB2 _)
  have hmc : ∀ b ∈ [w4.heap.size, m, c], w.heap.size ≤ b := by
    intro b hb
    simp only [List.mem_cons] at hb
    rcases hb with e | hb
    · omega
    · exact hbm b (by simpa using hb)
  have H5 := Lib.hid (alone05_idle drawn served)
  clear ht hb0 hbt hb2 hm3 hb3
  go_wp2_with fail
  generalize w4.alloc (.cells #[.bool false] 4) = w5 at *
  generalize w4.heap.size = pb at *
  go_wp2_with fail
  go_loopw [8] (fun i wr => ∃ k : Nat, k ≤ 3 ∧ i = .int .i64 k ∧ AloneAt w m c t pb 0 4 (idleR 1) Value.bool ⟨[0, drawn, served], 2⟩ #[.bool false] k wr) (fun i _ => 3 - (intOf i).toNat)
  case atStart => exact ⟨0, Nat.zero_le _, rfl, hA⟩
  case round =>
    clear hA
    obtain ⟨k, hk, rfl, hA⟩ := hrel
    by_cases hlt : k < 3
    · go_wp2_with fail
      refine (idler_alone w m c t pb 0 _ _ _ k k _ hA (by omega) hmc).mono ?_
      rintro e w4 ⟨rfl, hA⟩
      go_wp2
      go_roundw
      case rel => exact ⟨k + 1, by omega, by go_num, hA⟩
      case measure => simp [intOf]; omega
    · obtain rfl : k = 3 := by omega
      obtain ⟨s, F, hp, -, -, hw⟩ := hA
      rw [H5.out] at hp
      have hm := hp.tm.mem
      have HP := Lib.hid hp
      clear hp
      go_wp2_with fail
      refine (HA.out _).mono ?_
      rintro e w5 ⟨rfl, hb5⟩
      have hp := HP.out.below hb5
      have hw5 := below_then hw hb5 (Nat.le_refl _)
      have hx := hp.blk.at_ (i := 0) (v := .bool (served == drawn)) (by simp [Res.putIn])
      have hf := hp.blk.free 0
      have ho := Lib.hid hp.over
      have hl := idle_two s.told (served == drawn) hp.at_
      have ht := hp.tm
      have hL := Lib.hid hl
      clear hp hm hw hl
      go_wp2_with fail
      refine (t_over m c t _ s F _ ht).mono ?_
      rw [ho.out]
      rintro e w' ⟨rfl, rfl⟩
      simp only [Res.isRet]
      have he : ((served == drawn) == (drawn == served)) = true := by
        rw [Bool.beq_comm (a := served)]
        simp
      go_wp2_with fail
      refine (t_steps m c t _ s F _ ht).mono ?_
      rw [hL.out]
      rintro e w' ⟨rfl, rfl⟩
      go_wp2
      go_ret
      exact ⟨rfl, hw5⟩
end Go.Proofs.Ytcphidmfdakbeaa
