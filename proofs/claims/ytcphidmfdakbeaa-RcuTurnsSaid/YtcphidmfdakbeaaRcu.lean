/- Layer 4's rcu: Enter, Leave, Advance, Free, as tasks; the tasks of its statements. -/
import Derived.Test.YtcphidmfdakbeaaBare
import Derived.OpenShut
namespace Go.Proofs.Ytcphidmfdakbeaa
open Go.RowKit

theorem setCell_same {w : World} {b i : Nat} {ty : TypeId} {cs : Array Value} {v : Value} (hb : Blk w b ty cs) (h : cs[i]? = some v) : w.setCell ⟨b, i, none⟩ v = w := by
  have e : (w.setCell ⟨b, i, none⟩ v).heap = w.heap := by
    apply Array.ext_getElem?
    intro j
    by_cases hj : j = b
    · subst hj
      have h2 := hb.put i v
      rw [set_same _ _ _ h] at h2
      exact h2.trans hb.symm
    · exact Below.heap_setCell w ⟨b, i, none⟩ v j hj
  show { w with heap := (w.setCell ⟨b, i, none⟩ v).heap } = w
  rw [e]

/-- One run goes on as another. -/
def Goes {α : Type} (r : Res MemS α) (μ : MemS) (s : TrS) (r' : Res MemS α) (μ' : MemS) (s' : TrS) : Prop := ∀ o, Sim (r'.run μ' s') o → Sim (r.run μ s) o
theorem Goes.bind {α β : Type} {r : Res MemS β} {f : β → Res MemS α} {μ μ1 : MemS} {s s1 : TrS} {v : β} (h : Sim (r.run μ s) (v, μ1, s1)) : Goes (r.bind f) μ s (f v) μ1 s1 := fun _ h2 => h.bind h2
theorem Goes.trans {α : Type} {r r' r'' : Res MemS α} {μ μ' μ'' : MemS} {s s' s'' : TrS} (h : Goes r μ s r' μ' s') (k : Goes r' μ' s' r'' μ'' s'') : Goes r μ s r'' μ'' s'' := fun o ho => h o (k o ho)

theorem At.after {α : Type} {w0 w w' : World} {m c t : Nat} {μ μ' : MemS} {s s' : TrS} {F0 F : List Nat} {n : Nat} {r : Res MemS α} {v : α} (a : At w0 w m c t μ s F0 F n) (hs : Sim (r.run μ s) (v, μ', s')) (ht : TMs w w' m c t μ' s' F) : ∃ F', At w0 w' m c t μ' s' F0 F' n := by
  obtain ⟨F', ht, hF, hu⟩ := ht
  refine ⟨F', ht, fun b hb => ?_, a.upd.trans_new hu fun b hb => ?_, hs.in_ (run_in r μ s a.inn), hs.over_eq.trans ((run_over r μ s).trans a.over)⟩
  · rcases hF b hb with h | h
    · exact a.sub b h
    · exact .inr (Nat.le_trans a.upd.size h)
  · simp only [List.mem_cons] at hb ⊢
    rcases hb with rfl | rfl | hb
    · exact .inl (.inl rfl)
    · exact .inl (.inr (.inl rfl))
    · rcases a.sub b hb with h | h
      · exact .inl (.inr (.inr h))
      · exact .inr h

theorem rcu_is (x : Int) (w : World) : Calls Try.prog 71 #[.int .i64 x] w fun e w' => e = .returned (.bool (decide (0 ≤ x ∧ x < 16))) ∧ w = w' := by
  rcases Int.lt_or_le x 0 with h | h
  · have e : decide (0 ≤ x ∧ x < 16) = false := by simp; omega
    have hn : ¬ 0 ≤ x := by omega
    rw [e]
    clear e
    go_enter Try.func71, Try.ntmps71
    go_wp2
    go_ret
    exact ⟨rfl, rfl⟩
  · rcases Int.lt_or_le x 16 with h2 | h2
    · have e : decide (0 ≤ x ∧ x < 16) = true := by simp; omega
      rw [e]
      clear e
      go_enter Try.func71, Try.ntmps71
      go_wp2
      go_ret
      exact ⟨rfl, rfl⟩
    · have e : decide (0 ≤ x ∧ x < 16) = false := by simp; omega
      have hn : ¬ x < 16 := by omega
      rw [e]
      clear e
      go_enter Try.func71, Try.ntmps71
      go_wp2
      go_ret
      exact ⟨rfl, rfl⟩

def enterR (x : Int) : Res MemS Unit := if 0 ≤ x ∧ x < 16 then .acc (dLoad 3) fun v => .acc (dStore (4 + x) (wrap64 (v + 1))) fun _ => .ret () else .ret ()

theorem rcu_enter (x : Int) (m c t : Nat) (μ : MemS) (s : TrS) (F : List Nat) (n : Nat) (w : World) (h : TM w m c t μ s F) (hi : s.In n) (hn : n ≤ 1000000) (hov : s.over = false) :
    Calls Try.prog 55 #[.pointer (some ⟨t, 0, none⟩), .int .i64 3, .int .i64 x] w (Does w m c t μ s F (enterR x) fun _ => .tuple #[]) := by
  by_cases hx : 0 ≤ x ∧ x < 16
  · have e : decide (0 ≤ x ∧ x < 16) = true := by simp [hx]
    have HE := Lib.hid e
    obtain ⟨hx0, hx16⟩ := hx
    have a0 := At.first h hi hov
    clear e h hi hov
    go_enter Try.func55, Try.ntmps55
    go_wp2_with fail
    refine (rcu_is x _).mono ?_
    rw [HE.out]
    rintro e w' ⟨rfl, rfl⟩
    go_wp2_with fail
    refine (d_load 3 m c t μ s F _ a0.tm (a0.ok hn)).mono ?_
    intro e w3 hd
    obtain ⟨v, μ3, s3, F3, rfl, sim2, a3⟩ := a0.does hd
    clear hd
    go_wp2_with fail
    refine (d_store (4 + x) (wrap64 (v + 1)) m c t μ3 s3 F3 _ a3.tm (a3.ok hn)).mono ?_
    intro e w4 hd
    obtain ⟨u, μ4, s4, F4, rfl, sim3, a4⟩ := a3.does hd
    clear hd
    go_wp2
    go_end0
    refine ⟨(), μ4, s4, rfl, ?_, a4.tms⟩
    have e : enterR x = (loadR 3).bind fun v => (storeR (4 + x) (wrap64 (v + 1))).bind fun _ => .ret () := by
      unfold enterR
      rw [if_pos ⟨hx0, hx16⟩]
      rfl
    rw [e]
    exact sim2.bind (sim3.bind (Sim.refl _))
  · have e : decide (0 ≤ x ∧ x < 16) = false := by simp [hx]
    have HE := Lib.hid e
    have HX := Lib.hid hx
    clear e hx
    go_enter Try.func55, Try.ntmps55
    go_wp2_with fail
    refine (rcu_is x _).mono ?_
    rw [HE.out]
    rintro e w' ⟨rfl, rfl⟩
    go_wp2
    go_end0
    refine ⟨(), μ, s, rfl, ?_, TMs.refl h⟩
    unfold enterR
    rw [if_neg HX.out]
    exact Sim.refl _

def leaveR (x : Int) : Res MemS Unit := if 0 ≤ x ∧ x < 16 then .acc (dStore (4 + x) 0) fun _ => .ret () else .ret ()

theorem rcu_leave (x : Int) (m c t : Nat) (μ : MemS) (s : TrS) (F : List Nat) (n : Nat) (w : World) (h : TM w m c t μ s F) (hi : s.In n) (hn : n ≤ 1000000) (hov : s.over = false) :
    Calls Try.prog 56 #[.pointer (some ⟨t, 0, none⟩), .int .i64 3, .int .i64 x] w (Does w m c t μ s F (leaveR x) fun _ => .tuple #[]) := by
  by_cases hx : 0 ≤ x ∧ x < 16
  · have e : decide (0 ≤ x ∧ x < 16) = true := by simp [hx]
    have HE := Lib.hid e
    obtain ⟨hx0, hx16⟩ := hx
    have a0 := At.first h hi hov
    clear e h hi hov
    go_enter Try.func56, Try.ntmps56
    go_wp2_with fail
    refine (rcu_is x _).mono ?_
    rw [HE.out]
    rintro e w' ⟨rfl, rfl⟩
    go_wp2_with fail
    refine (d_store (4 + x) 0 m c t μ s F _ a0.tm (a0.ok hn)).mono ?_
    intro e w4 hd
    obtain ⟨u, μ4, s4, F4, rfl, sim3, a4⟩ := a0.does hd
    clear hd
    go_wp2
    go_end0
    refine ⟨(), μ4, s4, rfl, ?_, a4.tms⟩
    have e : leaveR x = (storeR (4 + x) 0).bind fun _ => .ret () := by
      unfold leaveR
      rw [if_pos ⟨hx0, hx16⟩]
      rfl
    rw [e]
    exact sim3.bind (Sim.refl _)
  · have e : decide (0 ≤ x ∧ x < 16) = false := by simp [hx]
    have HE := Lib.hid e
    have HX := Lib.hid hx
    clear e hx
    go_enter Try.func56, Try.ntmps56
    go_wp2_with fail
    refine (rcu_is x _).mono ?_
    rw [HE.out]
    rintro e w' ⟨rfl, rfl⟩
    go_wp2
    go_end0
    refine ⟨(), μ, s, rfl, ?_, TMs.refl h⟩
    unfold leaveR
    rw [if_neg HX.out]
    exact Sim.refl _

def scanR (now : Int) : Nat → Res MemS Bool
  | 0 => .acc (dStore 3 (wrap64 (now + 1))) fun _ => .ret true
  | k + 1 => .acc (dLoad (4 + (15 - k : Nat))) fun v => if v ≠ 0 ∧ v ≠ wrap64 (now + 1) then .ret false else scanR now k
def advanceR : Res MemS Bool := .acc (dLoad 3) fun now => scanR now 16

theorem rcu_epoch (m c t : Nat) (μ : MemS) (s : TrS) (F : List Nat) (n : Nat) (w : World) (h : TM w m c t μ s F) (hi : s.In n) (hn : n ≤ 1000000) (hov : s.over = false) :
    Calls Try.prog 72 #[.pointer (some ⟨t, 0, none⟩), .int .i64 3] w (Does w m c t μ s F (loadR 3) (Value.int .i64)) := by
  have a0 := At.first h hi hov
  clear h hi hov
  go_enter Try.func72, Try.ntmps72
  go_wp2_with fail
  refine (d_load 3 m c t μ s F _ a0.tm (a0.ok hn)).mono ?_
  intro e w3 hd
  obtain ⟨v, μ3, s3, F3, rfl, sim2, a3⟩ := a0.does hd
  clear hd
  go_wp2
  go_ret
  exact ⟨v, μ3, s3, rfl, sim2, a3.tms⟩

set_option maxRecDepth 100000 in
theorem rcu_advance (m c t : Nat) (μ : MemS) (s : TrS) (F : List Nat) (n : Nat) (w : World) (h : TM w m c t μ s F) (hi : s.In n) (hn : n ≤ 1000000) (hov : s.over = false) :
    Calls Try.prog 57 #[.pointer (some ⟨t, 0, none⟩), .int .i64 3] w fun e w' => ∃ v μ' s', e = .returned (.bool v) ∧ Sim (advanceR.run μ s) (v, μ', s') ∧ TMs w w' m c t μ' s' F ∧ (s'.dry = true → v = false) := by
  have a0 := At.first h hi hov
  clear h hi hov
  go_enter Try.func57, Try.ntmps57
  go_wp2_with fail
  refine (rcu_epoch m c t μ s F n _ a0.tm a0.inn hn a0.over).mono ?_
  intro e w1 hd
  obtain ⟨now, μ1, s1, F1, rfl, sim1, a1⟩ := a0.does hd
  clear hd
  have hgo : Goes advanceR μ s (scanR now 16) μ1 s1 := Goes.bind (f := fun now => scanR now 16) sim1
  have HG := Lib.hid hgo
  clear hgo sim1
  go_wp2_with fail
  go_loopw [11] (fun i wr => ∃ (k : Nat) (μ' : MemS) (s' : TrS) (F' : List Nat), k ≤ 16 ∧ i = .int .i64 k ∧ At w wr m c t μ' s' F F' n ∧ Goes advanceR μ s (scanR now (16 - k)) μ' s') (fun i _ => 16 - (intOf i).toNat)
  case atStart => exact ⟨0, μ1, s1, F1, Nat.zero_le _, rfl, a1, HG.out⟩
  case round =>
    clear a1 HG
    obtain ⟨k, μ', s', F', hk, rfl, a1, hgo⟩ := hrel
    have HG := Lib.hid hgo
    clear hgo
    by_cases hlt : k < 16
    · go_wp2_with fail
      refine (d_load (4 + (k : Int)) m c t μ' s' F' _ a1.tm (a1.ok hn)).mono ?_
      intro e w3 hd
      obtain ⟨v, μ3, s3, F3, rfl, sim2, a3⟩ := a1.does hd
      clear hd
      have hgo : Goes advanceR μ s (if v ≠ 0 ∧ v ≠ wrap64 (now + 1) then .ret false else scanR now (15 - k)) μ3 s3 := by
        refine HG.out.trans ?_
        have e : scanR now (16 - k) = (loadR (4 + (k : Int))).bind fun v => if v ≠ 0 ∧ v ≠ wrap64 (now + 1) then .ret false else scanR now (15 - k) := by
          rw [show 16 - k = (15 - k) + 1 by omega, scanR, show (15 - (15 - k) : Nat) = k by omega]
          rfl
        rw [e]
        exact Goes.bind sim2
      have HG3 := Lib.hid hgo
      clear hgo sim2 HG a1
      by_cases hv0 : v = 0
      · have q1 : (v != 0) = false := by simp [hv0]
        have HV := Lib.hid hv0
        clear hv0
        go_wp2
        go_roundw
        case rel => exact ⟨k + 1, μ3, s3, F3, by omega, by go_num, a3, by have h := HG3.out; rw [if_neg (by simp [HV.out])] at h; rw [show 16 - (k + 1) = 15 - k by omega]; exact h⟩
        case measure => simp [intOf]; omega
      · have q1 : (v != 0) = true := by simp [hv0]
        have HV := Lib.hid hv0
        clear hv0
        by_cases hv1 : v = wrap64 (now + 1)
        · have q2 : (v != wrap64 (now + 1)) = false := by simp [hv1]
          have HV1 := Lib.hid hv1
          clear hv1
          go_wp2
          go_roundw
          case rel => exact ⟨k + 1, μ3, s3, F3, by omega, by go_num, a3, by have h := HG3.out; rw [if_neg (by simp [HV1.out])] at h; rw [show 16 - (k + 1) = 15 - k by omega]; exact h⟩
          case measure => simp [intOf]; omega
        · have q2 : (v != wrap64 (now + 1)) = true := by simp [hv1]
          have HV1 := Lib.hid hv1
          clear hv1
          go_wp2
          go_ret
          exact ⟨false, μ3, s3, rfl, HG3.out _ (by rw [if_pos ⟨HV.out, HV1.out⟩]; exact Sim.refl _), a3.tms, fun _ => rfl⟩
    · obtain rfl : k = 16 := by omega
      go_wp2_with fail
      refine (d_store 3 (wrap64 (now + 1)) m c t μ' s' F' _ a1.tm (a1.ok hn)).mono ?_
      intro e w4 hd
      obtain ⟨u, μ4, s4, F4, rfl, sim3, a4⟩ := a1.does hd
      clear hd
      have hsim : Sim (advanceR.run μ s) (true, μ4, s4) := HG.out _ (sim3.bind (f := fun _ => .ret true) (Sim.refl _))
      have HS := Lib.hid hsim
      clear hsim sim3 HG a1
      go_wp2_with fail
      refine (t_dry m c t μ4 s4 F4 _ a4.tm).mono ?_
      rw [a4.over]
      cases hd : s4.dry with
      | true =>
        rintro e w' ⟨rfl, rfl⟩
        have HD := Lib.hid hd
        clear hd
        go_wp2
        go_ret
        exact ⟨false, μ4, s4, rfl, HS.out.answer (by rw [HD.out]; intro h; cases h), a4.tms, fun _ => rfl⟩
      | false =>
        rintro e w' ⟨rfl, rfl⟩
        have HD := Lib.hid hd
        clear hd
        go_wp2
        go_ret
        exact ⟨true, μ4, s4, rfl, HS.out, a4.tms, fun h => by rw [HD.out] at h; cases h⟩

theorem rcu_free (tag ep : Int) (w : World) (h1 : (Lit.int .i64 tag).wf = true) (h2 : (Lit.int .i64 ep).wf = true) : Calls Try.prog 35 #[.int .i64 tag, .int .i64 ep] w fun e w' => e = .returned (.bool (decide (tag + 2 ≤ ep))) ∧ w = w' := by
  have b1 := bounds_i64 h1
  have b2 := bounds_i64 h2
  rcases Int.lt_or_le ep (-9223372036854775806) with h | h
  · have e : decide (tag + 2 ≤ ep) = false := by simp; omega
    have hn : ¬ (-9223372036854775806 : Int) ≤ ep := by omega
    rw [e]
    clear e h1 h2 b1 b2
    go_enter Try.func35, Try.ntmps35
    go_wp2
    go_ret
    exact ⟨rfl, rfl⟩
  · have hw : wrap64 (ep - 2) = ep - 2 := by unfold wrap64; omega
    have e : decide (tag ≤ wrap64 (ep - 2)) = decide (tag + 2 ≤ ep) := by
      rw [hw]
      congr 1
      apply propext
      omega
    have HE := Lib.hid e
    clear e h1 h2 b1 b2 hw
    go_enter Try.func35, Try.ntmps35
    go_wp2
    all_goals go_ret
    all_goals exact ⟨by rw [← HE.out]; rfl, rfl⟩

/-- A call's task: of the kind 0, 1 or 2 (and 3 more). -/
def callR (kind : Nat) (x : Int) : Res MemS Bool :=
  if kind = 0 then (enterR x).bind fun _ => .ret false else if kind = 1 then (leaveR x).bind fun _ => .ret false else advanceR

/-- A call of Advance, that has a cell for its answer. -/
theorem call_run2 (kd x : Int) (pb po : Nat) (ty : TypeId) (cs : Array Value) (m c t : Nat) (μ : MemS) (s : TrS) (F : List Nat) (n : Nat) (w : World) (h : TM w m c t μ s F) (hi : s.In n) (hn : n ≤ 1000000) (hov : s.over = false) (hk : kd.tmod 3 = 2)
    (hp : Blk w pb ty cs) (hc : cs[po]? = some (.bool false)) (hpF : pb ∉ m :: c :: F) :
    Calls Try.prog 36 #[.agg #[.int .u8 kd, .int .i64 x, .pointer (some ⟨pb, po, none⟩)], .pointer (some ⟨t, 0, none⟩)] w (TaskPost (TaskQ w m c μ s F (callR 2 x) ⟨pb, po, none⟩ Value.bool) m c t) := by
  have hlt := hp.lt
  have hb0 := Blk.new w 67 #[.int .u8 kd, .int .i64 x, .pointer (some ⟨pb, po, none⟩)]
  have hbn : w.heap.size ∉ m :: c :: F := fun hin => by have := h.lt _ hin; omega
  have hpw := hp.alloc (.cells #[.int .u8 kd, .int .i64 x, .pointer (some ⟨pb, po, none⟩)] 67)
  have a0 := At.first (h.alloc (.cells #[.int .u8 kd, .int .i64 x, .pointer (some ⟨pb, po, none⟩)] 67)) hi hov
  have hsz : w.heap.size < (w.alloc (.cells #[.int .u8 kd, .int .i64 x, .pointer (some ⟨pb, po, none⟩)] 67)).heap.size := by simp
  have HQ := Lib.hid (fun (e : Ending) (w2 : World) (h : TaskPost (TaskQ (w.alloc (.cells #[.int .u8 kd, .int .i64 x, .pointer (some ⟨pb, po, none⟩)] 67)) m c μ s F (callR 2 x) ⟨pb, po, none⟩ Value.bool) m c t e w2) => TaskPost.mono (Q' := TaskQ w m c μ s F (callR 2 x) ⟨pb, po, none⟩ Value.bool) h (fun _ _ _ _ => TaskQ.of_alloc _))
  have k0 := hb0.at_ (i := 0) rfl
  simp only [List.getElem_toArray, List.getElem_cons_zero] at k0
  clear h hi hov hp
  go_enter Try.func36, Try.ntmps36
  go_wp2_with fail
  generalize w.alloc (.cells #[.int .u8 kd, .int .i64 x, .pointer (some ⟨pb, po, none⟩)] 67) = w1 at *
  generalize hbb : w.heap.size = bb at *
  have HB := Lib.hid hbb
  clear hbb
  refine (rcu_advance m c t μ s F n _ a0.tm a0.inn hn a0.over).mono ?_
  rintro e w2 ⟨v, μ2, s2, rfl, hsim, htms, hdf⟩
  obtain ⟨F2, a2⟩ := a0.after hsim htms
  have hsim2 : Sim ((callR 2 x).run μ s) (v, μ2, s2) := hsim
  have HS := Lib.hid hsim2
  have HD := Lib.hid hdf
  have hbx := a2.blk hb0 hbn
  have hx := hbx.at_ (i := 2) rfl
  simp only [List.getElem_toArray, List.getElem_cons_zero, List.getElem_cons_succ] at hx
  have hp2 := a2.blk hpw hpF
  have hpc := hp2.at_ hc
  have hpf := hp2.free po
  have HP2 := Lib.hid hp2
  have HC := Lib.hid hc
  clear hsim hsim2 htms hdf hb0 hbx hpw hp2 hc k0
  cases v with
  | true =>
    go_wp2
    go_end0
    have hd : s2.dry = false := by
      cases hd : s2.dry with
      | true => have := HD.out hd; cases this
      | false => rfl
    exact HQ.out _ _ (a2.ends_put HS.out hd hpF (show pb < _ by omega))
  | false =>
    go_wp2
    go_end0
    cases hd : s2.dry with
    | true => exact HQ.out _ _ (a2.ends_dry HS.out hd)
    | false =>
      have h := a2.ends_put (p := ⟨pb, po, none⟩) (val := Value.bool) HS.out hd hpF (show pb < w1.heap.size by omega)
      rw [setCell_same HP2.out HC.out] at h
      exact HQ.out _ _ h

/-- A call of Enter or Leave, whether or not it has a cell for an answer. -/
theorem call_run01 (k : Nat) (hk01 : k = 0 ∨ k = 1) (kd x : Int) (a : Option Addr) (m c t : Nat) (μ : MemS) (s : TrS) (F : List Nat) (n : Nat) (w : World) (h : TM w m c t μ s F) (hi : s.In n) (hn : n ≤ 1000000) (hov : s.over = false) (hk : kd.tmod 3 = k) :
    Calls Try.prog 36 #[.agg #[.int .u8 kd, .int .i64 x, .pointer a], .pointer (some ⟨t, 0, none⟩)] w (TaskPost (BareQ w m c μ s F (callR k x)) m c t) := by
  have hb0 := Blk.new w 67 #[.int .u8 kd, .int .i64 x, .pointer a]
  have a0 := At.first (h.alloc (.cells #[.int .u8 kd, .int .i64 x, .pointer a] 67)) hi hov
  have HQ := Lib.hid (fun (r : Res MemS Bool) (e : Ending) (w2 : World) (h : TaskPost (BareQ (w.alloc (.cells #[.int .u8 kd, .int .i64 x, .pointer a] 67)) m c μ s F r) m c t e w2) => TaskPost.mono (Q' := BareQ w m c μ s F r) h (fun _ _ _ _ => BareQ.of_alloc _))
  have k0 := hb0.at_ (i := 0) rfl
  have k1 := hb0.at_ (i := 1) rfl
  simp only [List.getElem_toArray, List.getElem_cons_zero, List.getElem_cons_succ] at k0 k1
  clear h hi hov
  rcases hk01 with rfl | rfl
  · have hk' : kd.tmod 3 = 0 := hk
    clear hk
    go_enter Try.func36, Try.ntmps36
    go_wp2_with fail
    refine (rcu_enter x m c t μ s F n _ a0.tm a0.inn hn a0.over).mono ?_
    intro e w3 hd
    obtain ⟨v, μ3, s3, F3, rfl, sim2, a3⟩ := a0.does hd
    clear hd hb0 k0 k1
    go_wp2
    go_end0
    refine HQ.out _ _ _ (a3.ends_bare (v := false) ?_)
    exact sim2.bind (f := fun _ => .ret false) (Sim.refl _)
  · have hk' : kd.tmod 3 = 1 := hk
    clear hk
    go_enter Try.func36, Try.ntmps36
    go_wp2_with fail
    refine (rcu_leave x m c t μ s F n _ a0.tm a0.inn hn a0.over).mono ?_
    intro e w3 hd
    obtain ⟨v, μ3, s3, F3, rfl, sim2, a3⟩ := a0.does hd
    clear hd hb0 k0 k1
    go_wp2
    go_end0
    refine HQ.out _ _ _ (a3.ends_bare (v := false) ?_)
    exact sim2.bind (f := fun _ => .ret false) (Sim.refl _)
end Go.Proofs.Ytcphidmfdakbeaa
