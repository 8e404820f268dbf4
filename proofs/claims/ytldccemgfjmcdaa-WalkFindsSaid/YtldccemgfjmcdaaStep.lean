/- Layer 3's trail: New, Step, Dry, Fresh, Mark, Marks, Steps, Over. -/
import Derived.Test.YtldccemgfjmcdaaTrail
namespace Go.Proofs.Ytldccemgfjmcdaa
open Go.RowKit

theorem t_new (m c : Nat) (μ : MemS) (w : World) (h : MemAt w m c μ) :
    Calls Try.prog 52 #[.pointer (some ⟨m, 0, none⟩)] w fun e w' => e = .returned (.pointer (some ⟨w.heap.size, 0, none⟩)) ∧ TM w' m c w.heap.size μ TrS.new [w.heap.size] ∧ Below w.heap.size w w' := by
  have hfin : TM (w.alloc (.cells #[.pointer (some ⟨m, 0, none⟩), .slice none 0 0, .int .i64 0, .bool false, .bool true, .bool false, .bool false, .int .i64 0, .slice none 0 0] 144)) m c w.heap.size μ TrS.new [w.heap.size] := by
    refine ⟨h.alloc _, ⟨none, 0, none, 0, ⟨Blk.new w _ _, World.ownsRow_nil _ _ _ _, World.ownsRow_nil _ _ _ _⟩, rfl⟩, ?_, ?_⟩
    · have := h.1.lt; simp; omega
    · have := h.2.1.lt; simp; omega
  have HF := Lib.hid hfin
  clear hfin
  go_enter Try.func52, Try.ntmps52
  go_wp2
  go_ret
  exact ⟨rfl, HF.out, (Below.refl _ _).alloc (Nat.le_refl _) _⟩

/-- What a step leaves: the task's own end, and behind it the trail's fields. -/
def StepPost (Q : MemS → TrS → List Nat → World → Prop) (m c t : Nat) (e : Ending) (w' : World) : Prop :=
  ∃ μ2 s2 F2 w2, Q μ2 s2 F2 w2 ∧ e = .returned (.bool (!s2.dry)) ∧ TM w' m c t μ2 s2.finish F2 ∧ Upd [t] w2 w'
def TaskPost (Q : MemS → TrS → List Nat → World → Prop) (m c t : Nat) (e : Ending) (w2 : World) : Prop :=
  e = .returned (.tuple #[]) ∧ ∃ μ2 s2 F2, TM w2 m c t μ2 s2 F2 ∧ Q μ2 s2 F2 w2

set_option maxRecDepth 100000 in
theorem t_step (f : FuncId) (x : Value) (Q : MemS → TrS → List Nat → World → Prop) (m c t : Nat) (μ : MemS) (s : TrS) (F : List Nat) (time : Int) (w : World) (h : TM w m c t μ s F) (hov : s.over = false)
    (hcall : ∀ w, (callFunc f #[x, .pointer (some ⟨t, 0, none⟩)]).run Try.prog w = .ok (.enter f #[x, .pointer (some ⟨t, 0, none⟩)]) w)
    (HT : Hid (∀ w1, TM w1 m c t μ (s.begin time) F → Upd [t] w w1 → Calls Try.prog f #[x, .pointer (some ⟨t, 0, none⟩)] w1 (TaskPost Q m c t))) :
    Calls Try.prog 54 #[.pointer (some ⟨t, 0, none⟩), .int .i64 time, .func (.func f) #[x] #[]] w (StepPost Q m c t) := by
  have qT : ∀ (w : World), (binOp .eql 145 (.func (.func f) #[x] #[]) .nilFunc).run Try.prog w = .ok (.bool false) w := fun w => rfl
  have c2 := h.c2
  have c3 := h.c3
  have c4 := h.c4
  have c5 := h.c5
  have c6 := h.c6
  have c7 := h.c7
  have f2 := h.free 2
  have f3 := h.free 3
  have f4 := h.free 4
  have f5 := h.free 5
  have f7 := h.free 7
  go_enter Try.func54, Try.ntmps54
  go_upto_region 4 with fail
  have h5 : TM (((((w.setCell ⟨t, 2, none⟩ (.int .i64 0)).setCell ⟨t, 3, none⟩ (.bool false)).setCell ⟨t, 4, none⟩ (.bool false)).setCell ⟨t, 5, none⟩ (.bool false)).setCell ⟨t, 7, none⟩ (.int .i64 time)) m c t μ (s.begin time) F := by
    have a1 := h.field { s with at_ := 0 } 2 (.int .i64 0) rfl rfl fun _ _ _ _ => rfl
    have a2 := a1.field { s with at_ := 0, done := false } 3 (.bool false) rfl rfl fun _ _ _ _ => rfl
    have a3 := a2.field { s with at_ := 0, done := false, dry := false } 4 (.bool false) rfl rfl fun _ _ _ _ => rfl
    have a4 := a3.field { s with at_ := 0, done := false, dry := false, fresh := false } 5 (.bool false) rfl rfl fun _ _ _ _ => rfl
    exact a4.field _ 7 _ rfl rfl fun _ _ _ _ => rfl
  have hu5 : Upd [t] w (((((w.setCell ⟨t, 2, none⟩ (.int .i64 0)).setCell ⟨t, 3, none⟩ (.bool false)).setCell ⟨t, 4, none⟩ (.bool false)).setCell ⟨t, 5, none⟩ (.bool false)).setCell ⟨t, 7, none⟩ (.int .i64 time)) :=
    (((((Upd.refl _ _).put (.inl (by simp)) _).put (.inl (by simp)) _).put (.inl (by simp)) _).put (.inl (by simp)) _).put (.inl (by simp)) _
  generalize ((((w.setCell ⟨t, 2, none⟩ (.int .i64 0)).setCell ⟨t, 3, none⟩ (.bool false)).setCell ⟨t, 4, none⟩ (.bool false)).setCell ⟨t, 5, none⟩ (.bool false)).setCell ⟨t, 7, none⟩ (.int .i64 time) = w5 at *
  have H5 := Lib.hid h5
  have HU5 := Lib.hid hu5
  clear c2 c3 c4 c5 c6 c7 f2 f3 f4 f5 f7 h5 hu5 h hov
  go_wp2_with fail
  refine (HT.out _ H5.out HU5.out).mono ?_
  rintro e w2 ⟨rfl, μ2, s2, F2, h2, hq⟩
  have c4 := h2.c4
  have c5 := h2.c5
  have c6 := h2.c6
  have f4 := h2.free 4
  have f5 := h2.free 5
  have f6 := h2.free 6
  have h8 : TM (((w2.setCell ⟨t, 6, none⟩ (.bool (!s2.dry))).setCell ⟨t, 5, none⟩ (.bool false)).setCell ⟨t, 4, none⟩ (.bool true)) m c t μ2 s2.finish F2 := by
    have a1 := h2.field { s2 with over := !s2.dry } 6 (.bool (!s2.dry)) rfl rfl fun _ _ _ _ => rfl
    have a2 := a1.field { s2 with over := !s2.dry, fresh := false } 5 (.bool false) rfl rfl fun _ _ _ _ => rfl
    exact a2.field _ 4 _ rfl rfl fun _ _ _ _ => rfl
  have H8 := Lib.hid h8
  have HQ := Lib.hid hq
  clear h8 hq h2 H5 HU5 HT hcall qT
  go_wp2
  go_ret
  exact ⟨μ2, s2, F2, w2, HQ.out, rfl, H8.out, (((Upd.refl _ _).put (.inl (by simp)) _).put (.inl (by simp)) _).put (.inl (by simp)) _⟩

/-- Of a task that is over nothing is run. -/
theorem t_step_over (g : Value) (m c t : Nat) (μ : MemS) (s : TrS) (F : List Nat) (time : Int) (w : World) (h : TM w m c t μ s F) (hov : s.over = true) :
    Calls Try.prog 54 #[.pointer (some ⟨t, 0, none⟩), .int .i64 time, g] w fun e w' => e = .returned (.bool true) ∧ w = w' := by
  have c6 := h.c6
  go_enter Try.func54, Try.ntmps54
  go_wp2
  go_ret
  exact ⟨rfl, rfl⟩

theorem t_dry (m c t : Nat) (μ : MemS) (s : TrS) (F : List Nat) (w : World) (h : TM w m c t μ s F) :
    Calls Try.prog 77 #[.pointer (some ⟨t, 0, none⟩)] w fun e w' => e = .returned (.bool (s.dry && !s.over)) ∧ w = w' := by
  have c4 := h.c4
  have c6 := h.c6
  cases hd : s.dry with
  | true =>
    rw [hd] at c4
    clear hd
    go_enter Try.func77, Try.ntmps77
    go_wp2
    go_ret
    exact ⟨rfl, rfl⟩
  | false =>
    rw [hd] at c4
    clear hd
    go_enter Try.func77, Try.ntmps77
    go_wp2
    go_ret
    exact ⟨rfl, rfl⟩

theorem t_fresh (m c t : Nat) (μ : MemS) (s : TrS) (F : List Nat) (w : World) (h : TM w m c t μ s F) :
    Calls Try.prog 91 #[.pointer (some ⟨t, 0, none⟩)] w fun e w' => e = .returned (.bool s.fresh) ∧ w = w' := by
  have c5 := h.c5
  go_enter Try.func91, Try.ntmps91
  go_wp2
  go_ret
  exact ⟨rfl, rfl⟩

theorem t_over (m c t : Nat) (μ : MemS) (s : TrS) (F : List Nat) (w : World) (h : TM w m c t μ s F) :
    Calls Try.prog 53 #[.pointer (some ⟨t, 0, none⟩)] w fun e w' => e = .returned (.bool s.over) ∧ w = w' := by
  have c6 := h.c6
  go_enter Try.func53, Try.ntmps53
  go_wp2
  go_ret
  exact ⟨rfl, rfl⟩

theorem t_steps (m c t : Nat) (μ : MemS) (s : TrS) (F : List Nat) (w : World) (h : TM w m c t μ s F) :
    Calls Try.prog 56 #[.pointer (some ⟨t, 0, none⟩)] w fun e w' => e = .returned (.int .i64 s.told.length) ∧ w = w' := by
  obtain ⟨tA, tcap, c1, -, -⟩ := h.told
  go_enter Try.func56, Try.ntmps56
  go_wp2
  go_ret
  exact ⟨rfl, rfl⟩
end Go.Proofs.Ytldccemgfjmcdaa
