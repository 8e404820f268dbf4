/- Layer 5's latch: Take, Give, Idle, as tasks; and the tasks of its statements. -/
import Derived.Test.YtcphidmfdakbeaaDoes
namespace Go.Proofs.Ytcphidmfdakbeaa
open Go.RowKit

def takeR (a : Int) : Res MemS Int := .acc (dAdd a 1) fun k => .acc (dWait (a + 1) k) fun _ => .ret k

theorem latch_take (a : Int) (ha : 0 ≤ a) (hb : a ≤ 1000000) (m c t : Nat) (μ : MemS) (s : TrS) (F : List Nat) (n : Nat) (w : World) (h : TM w m c t μ s F) (hi : s.In n) (hn : n ≤ 1000000) (hov : s.over = false) :
    Calls Try.prog 58 #[.pointer (some ⟨t, 0, none⟩), .int .i64 a] w (Does w m c t μ s F (takeR a) (Value.int .i64)) := by
  go_enter Try.func58, Try.ntmps58
  go_wp2_with fail
  refine (t_add m c t μ s F a 1 _ h (hi.ok hn)).mono ?_
  rintro e w1 ⟨rfl, F1, h1, hF1, hu1⟩
  have i1 := hi.acc (dAdd a 1) μ
  have o1 := (acc_over s (dAdd a 1) μ).trans hov
  generalize hx1 : s.acc (dAdd a 1) μ = x1 at *
  obtain ⟨k, μ1, s1⟩ := x1
  have HX1 := Lib.hid hx1
  clear hx1
  go_wp2_with fail
  refine (t_wait m c t μ1 s1 F1 (a + 1) k _ h1 (i1.ok hn)).mono ?_
  rintro e w2 ⟨rfl, h2⟩
  have o2 := (acc_over s1 (dWait (a + 1) k) μ1).trans o1
  generalize hx2 : s1.acc (dWait (a + 1) k) μ1 = x2 at *
  obtain ⟨k2, μ2, s2⟩ := x2
  have hsim : Sim ((takeR a).run μ s) (k, μ2, s2) := by
    have e : (takeR a).run μ s = (k, μ2, s2) := by simp only [takeR, Res.run, HX1.out, hx2]
    rw [e]
    exact Sim.refl _
  have hT := TMs.trans h1 hF1 hu1 h2
  obtain ⟨F2, h2, -, -⟩ := h2
  have HS := Lib.hid hsim
  have HT := Lib.hid hT
  clear hx2 hsim hT HX1
  go_wp2_with fail
  refine (t_dry m c t μ2 s2 F2 _ h2).mono ?_
  rintro e w' ⟨rfl, rfl⟩
  cases hd : s2.dry with
  | true =>
    simp only [o2, Bool.not_false, Bool.and_true]
    have HD := Lib.hid hd
    clear hd
    go_wp2
    go_ret
    exact ⟨0, μ2, s2, rfl, HS.out.answer (by rw [HD.out]; intro h; cases h), HT.out⟩
  | false =>
    simp only [o2, Bool.not_false, Bool.and_true]
    have HD := Lib.hid hd
    clear hd
    go_wp2
    go_ret
    exact ⟨k, μ2, s2, rfl, HS.out, HT.out⟩

def giveR (a k : Int) : Res MemS Unit := .acc (dStore (a + 1) (wrap64 (k + 1))) fun _ => .ret ()

theorem latch_give (a k : Int) (ha : 0 ≤ a) (hb : a ≤ 1000000) (m c t : Nat) (μ : MemS) (s : TrS) (F : List Nat) (n : Nat) (w : World) (h : TM w m c t μ s F) (hi : s.In n) (hn : n ≤ 1000000) :
    Calls Try.prog 59 #[.pointer (some ⟨t, 0, none⟩), .int .i64 a, .int .i64 k] w (Does w m c t μ s F (giveR a k) fun _ => .tuple #[]) := by
  have ho := hi.ok hn
  go_enter Try.func59, Try.ntmps59
  go_wp2_with fail
  refine (t_store m c t μ s F (a + 1) (wrap64 (k + 1)) _ h ho).mono ?_
  rintro e w1 ⟨rfl, h1⟩
  go_wp2
  go_end0
  exact ⟨(), _, _, rfl, Sim.refl _, h1⟩

def idleR (a : Int) : Res MemS Bool := .acc (dLoad (a + 1)) fun x => .acc (dLoad a) fun y => .ret (x == y)

theorem latch_idle (a : Int) (ha : 0 ≤ a) (hb : a ≤ 1000000) (m c t : Nat) (μ : MemS) (s : TrS) (F : List Nat) (n : Nat) (w : World) (h : TM w m c t μ s F) (hi : s.In n) (hn : n ≤ 1000000) (hov : s.over = false) :
    Calls Try.prog 60 #[.pointer (some ⟨t, 0, none⟩), .int .i64 a] w (Does w m c t μ s F (idleR a) Value.bool) := by
  go_enter Try.func60, Try.ntmps60
  go_wp2_with fail
  refine (t_load m c t μ s F (a + 1) _ h (hi.ok hn)).mono ?_
  rintro e w1 ⟨rfl, F1, h1, hF1, hu1⟩
  have i1 := hi.acc (dLoad (a + 1)) μ
  have o1 := (acc_over s (dLoad (a + 1)) μ).trans hov
  generalize hx1 : s.acc (dLoad (a + 1)) μ = x1 at *
  obtain ⟨x, μ1, s1⟩ := x1
  have HX1 := Lib.hid hx1
  clear hx1
  go_wp2_with fail
  refine (t_load m c t μ1 s1 F1 a _ h1 (i1.ok hn)).mono ?_
  rintro e w2 ⟨rfl, h2⟩
  have o2 := (acc_over s1 (dLoad a) μ1).trans o1
  generalize hx2 : s1.acc (dLoad a) μ1 = x2 at *
  obtain ⟨y, μ2, s2⟩ := x2
  have hsim : Sim ((idleR a).run μ s) (x == y, μ2, s2) := by
    have e : (idleR a).run μ s = (x == y, μ2, s2) := by simp only [idleR, Res.run, HX1.out, hx2]
    rw [e]
    exact Sim.refl _
  have hT := TMs.trans h1 hF1 hu1 h2
  obtain ⟨F2, h2, -, -⟩ := h2
  have HS := Lib.hid hsim
  have HT := Lib.hid hT
  clear hx2 hsim hT HX1
  cases hxy : (x == y) with
  | true =>
    have HXY := Lib.hid hxy
    go_wp2_with fail
    refine (t_dry m c t μ2 s2 F2 _ h2).mono ?_
    rintro e w' ⟨rfl, rfl⟩
    rw [o2]
    cases hd : s2.dry with
    | true =>
      have HD := Lib.hid hd
      clear hd
      go_wp2
      go_ret
      exact ⟨false, μ2, s2, rfl, HS.out.answer (by rw [HD.out]; intro h; cases h), HT.out⟩
    | false =>
      have HD := Lib.hid hd
      clear hd
      go_wp2
      go_ret
      exact ⟨true, μ2, s2, rfl, by have h := HS.out; rw [HXY.out] at h; exact h, HT.out⟩
  | false =>
    have HXY := Lib.hid hxy
    go_wp2
    go_ret
    exact ⟨false, μ2, s2, rfl, by have h := HS.out; rw [HXY.out] at h; exact h, HT.out⟩

def userR : Res MemS Int := (takeR 1).bind fun k => (loadR 0).bind fun v => (storeR 0 (wrap64 (v + 1))).bind fun _ => (giveR 1 k).bind fun _ => .ret k

set_option maxRecDepth 100000 in
theorem user_run (pb po : Nat) (x : Value) (m c t : Nat) (μ : MemS) (s : TrS) (F : List Nat) (n : Nat) (w : World) (h : TM w m c t μ s F) (hi : s.In n) (hn : n ≤ 1000000) (hov : s.over = false)
    (hp : w.cell? ⟨pb, po, none⟩ = some x) (hf : w.frozen? ⟨pb, po, none⟩ = false) (hpF : pb ∉ m :: c :: F) :
    Calls Try.prog 41 #[.agg #[.pointer (some ⟨pb, po, none⟩)], .pointer (some ⟨t, 0, none⟩)] w (TaskPost (TaskQ w m c μ s F userR ⟨pb, po, none⟩ (Value.int .i64)) m c t) := by
  have hlt := World.block_lt_of_cell? w _ hp
  simp only at hlt
  have hb0 := Blk.new w 85 #[.pointer (some ⟨pb, po, none⟩)]
  have hbn : w.heap.size ∉ m :: c :: F := fun hin => by have := h.lt _ hin; omega
  have hpw : (w.alloc (.cells #[.pointer (some ⟨pb, po, none⟩)] 85)).cell? ⟨pb, po, none⟩ = some x := by rw [World.cell?_alloc_past _ _ _ hlt]; exact hp
  have hfw : (w.alloc (.cells #[.pointer (some ⟨pb, po, none⟩)] 85)).frozen? ⟨pb, po, none⟩ = false := by rw [World.frozen?_alloc_past _ _ _ hlt]; exact hf
  have a0 := At.first (h.alloc (.cells #[.pointer (some ⟨pb, po, none⟩)] 85)) hi hov
  have hsz : w.heap.size < (w.alloc (.cells #[.pointer (some ⟨pb, po, none⟩)] 85)).heap.size := by simp
  have HQ := Lib.hid (fun (e : Ending) (w2 : World) (h : TaskPost (TaskQ (w.alloc (.cells #[.pointer (some ⟨pb, po, none⟩)] 85)) m c μ s F userR ⟨pb, po, none⟩ (Value.int .i64)) m c t e w2) => TaskPost.mono (Q' := TaskQ w m c μ s F userR ⟨pb, po, none⟩ (Value.int .i64)) h (fun _ _ _ _ => TaskQ.of_alloc _))
  clear h hi hov hp hf
  go_enter Try.func41, Try.ntmps41
  go_wp2_with fail
  generalize w.alloc (.cells #[.pointer (some ⟨pb, po, none⟩)] 85) = w1 at *
  generalize hbb : w.heap.size = bb at *
  have HB := Lib.hid hbb
  clear hbb
  refine (latch_take 1 (by omega) (by omega) m c t μ s F n _ a0.tm a0.inn hn a0.over).mono ?_
  intro e w2 hd
  obtain ⟨k, μ2, s2, F2, rfl, sim1, a2⟩ := a0.does hd
  clear hd
  go_wp2_with fail
  refine (d_load 0 m c t μ2 s2 F2 _ a2.tm (a2.ok hn)).mono ?_
  intro e w3 hd
  obtain ⟨v, μ3, s3, F3, rfl, sim2, a3⟩ := a2.does hd
  clear hd
  go_wp2_with fail
  refine (d_store 0 (wrap64 (v + 1)) m c t μ3 s3 F3 _ a3.tm (a3.ok hn)).mono ?_
  intro e w4 hd
  obtain ⟨_, μ4, s4, F4, rfl, sim3, a4⟩ := a3.does hd
  clear hd
  go_wp2_with fail
  refine (latch_give 1 k (by omega) (by omega) m c t μ4 s4 F4 n _ a4.tm a4.inn hn).mono ?_
  intro e w5 hd
  obtain ⟨_, μ5, s5, F5, rfl, sim4, a5⟩ := a4.does hd
  clear hd
  have hsim : Sim (userR.run μ s) (k, μ5, s5) := sim1.bind (sim2.bind (sim3.bind (sim4.bind (Sim.refl _))))
  have hbx := a5.blk hb0 hbn
  have hx := hbx.at_ (i := 0) rfl
  have hpc := (a5.upd.cell (p := ⟨pb, po, none⟩) (show pb < _ by omega) hpF).trans hpw
  have hfc := (a5.upd.free (p := ⟨pb, po, none⟩) (show pb < _ by omega) hpF).trans hfw
  simp only [List.getElem_toArray, List.getElem_cons_zero] at hx
  have hdry : ∀ b, s5.dry = b → (s5.dry && !s5.over) = b := fun b h => by rw [a5.over, h]; simp
  have HS := Lib.hid hsim
  have HDR := Lib.hid hdry
  clear hsim hdry sim1 sim2 sim3 sim4 hb0 hbx hpw hfw
  go_wp2_with fail
  refine (t_dry m c t μ5 s5 F5 _ a5.tm).mono ?_
  cases hd : s5.dry with
  | true =>
    rw [a5.over]
    rintro e w' ⟨rfl, rfl⟩
    have HD := Lib.hid hd
    clear hd
    go_wp2
    go_end0
    exact HQ.out _ _ (a5.ends_dry HS.out HD.out)
  | false =>
    rw [a5.over]
    rintro e w' ⟨rfl, rfl⟩
    have HD := Lib.hid hd
    clear hd
    go_wp2
    go_end0
    exact HQ.out _ _ (a5.ends_put HS.out HD.out hpF (show pb < _ by omega))
end Go.Proofs.Ytcphidmfdakbeaa
