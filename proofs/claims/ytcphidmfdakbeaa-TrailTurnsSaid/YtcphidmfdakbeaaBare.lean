/- A task that puts its answer nowhere: what one step of it does, whatever the task. -/
import Derived.Test.YtcphidmfdakbeaaPut
namespace Go.Proofs.Ytcphidmfdakbeaa
open Go.RowKit

/-- What a task leaves that puts its answer nowhere. -/
def BareQ {α : Type} (w : World) (m c : Nat) (μ : MemS) (s : TrS) (F : List Nat) (r : Res MemS α) (μ2 : MemS) (s2 : TrS) (F2 : List Nat) (w2 : World) : Prop :=
  ∃ v, Sim (r.run μ s) (v, μ2, s2) ∧ (∀ b ∈ F2, b ∈ F ∨ w.heap.size ≤ b) ∧ Upd (m :: c :: F) w w2
theorem BareQ.of_alloc {α : Type} {w : World} {m c : Nat} {μ : MemS} {s : TrS} {F : List Nat} {r : Res MemS α} {μ2 : MemS} {s2 : TrS} {F2 : List Nat} {w2 : World} (o : Obj) (h : BareQ (w.alloc o) m c μ s F r μ2 s2 F2 w2) : BareQ w m c μ s F r μ2 s2 F2 w2 := by
  obtain ⟨v, h1, h2, h3⟩ := h
  exact ⟨v, h1, fun b hb => (h2 b hb).imp id (fun h => by simp at h; omega), ((Upd.refl _ _).alloc o).trans h3⟩
theorem At.ends_bare {α : Type} {w0 w : World} {m c t : Nat} {μ μ2 : MemS} {s s2 : TrS} {F F2 : List Nat} {n : Nat} {r : Res MemS α} {v : α} (a : At w0 w m c t μ2 s2 F F2 n) (hs : Sim (r.run μ s) (v, μ2, s2)) :
    TaskPost (BareQ w0 m c μ s F r) m c t (.returned (.tuple #[])) w :=
  ⟨rfl, μ2, s2, F2, a.tm, v, hs, a.sub, a.upd⟩

/-- A memory and a trail on it whose task r is at the place cur. -/
structure Bare {α : Type} (w : World) (m c t : Nat) (r : Res MemS α) (μ : MemS) (s : TrS) (F : List Nat) (cur : Res MemS α) : Prop where
  tm : TM w m c t μ s F
  at_ : r.follow s.told = some cur
  over : s.over = cur.isRet

def BareStep {α : Type} (w : World) (m c t : Nat) (r : Res MemS α) (μ : MemS) (s : TrS) (F : List Nat) (cur : Res MemS α) (time : Int) (e : Ending) (w' : World) : Prop :=
  e = .returned (.bool (cur.step μ).1.isRet) ∧ ∃ s' F', Bare w' m c t r (cur.step μ).2.1 s' F' (cur.step μ).1 ∧
    s'.told = s.told ++ cur.tells μ ∧ s'.marks = s.marks ++ (cur.step μ).2.2.map (fun k => (k, time)) ∧ (∀ b ∈ F', b ∈ F ∨ w.heap.size ≤ b) ∧ Upd (m :: c :: F) w w'

/-- A step of a task that is not over yet. -/
theorem bare_run {α : Type} (f : FuncId) (x : Value) (m c t : Nat) (r : Res MemS α) (μ : MemS) (s : TrS) (F : List Nat) (cur : Res MemS α) (time : Int) (w : World)
    (h : TM w m c t μ s F) (hat : r.follow s.told = some cur) (hso : s.over = false)
    (hcall : ∀ w, (callFunc f #[x, .pointer (some ⟨t, 0, none⟩)]).run Try.prog w = .ok (.enter f #[x, .pointer (some ⟨t, 0, none⟩)]) w)
    (HT : ∀ w1, TM w1 m c t μ (s.begin time) F → Upd [t] w w1 → Calls Try.prog f #[x, .pointer (some ⟨t, 0, none⟩)] w1 (TaskPost (BareQ w1 m c μ (s.begin time) F r) m c t)) :
    Calls Try.prog 19 #[.pointer (some ⟨t, 0, none⟩), .int .i64 time, .func (.func f) #[x] #[]] w (BareStep w m c t r μ s F cur time) := by
  have htF := h.mem_t
  refine (t_step f x (fun μ2 s2 F2 w2 => ∃ w1, Upd [t] w w1 ∧ BareQ w1 m c μ (s.begin time) F r μ2 s2 F2 w2) m c t μ s F time w h hso hcall (Lib.hid fun w1 h1 hu1 => ?_)).mono ?_
  · exact (HT w1 h1 hu1).mono fun e w2 hq => TaskPost.mono hq fun μ2 s2 F2 w3 hq => ⟨w1, hu1, hq⟩
  · rintro e w' ⟨μ2, s2, F2, w2, ⟨w1, hu1, v, hsim, hF2, hu2⟩, rfl, h2, hu3⟩
    have hst := Sim.step hat hsim
    have hF2' : ∀ b ∈ F2, b ∈ F ∨ w.heap.size ≤ b := fun b hb => (hF2 b hb).imp id fun h => Nat.le_trans hu1.size h
    have hupd : Upd (m :: c :: F) w w' := by
      have k1 : Upd (m :: c :: F) w w1 := hu1.mono (by simp [htF])
      have k4 : Upd (m :: c :: F) w2 w' := hu3.mono (by simp [htF])
      exact (k1.trans hu2).trans k4
    have hmem : μ2 = (cur.step μ).2.1 := hst.mem
    have hdr : s2.dry = !(cur.step μ).1.isRet := hst.dry
    refine ⟨by rw [hdr, Bool.not_not], s2.finish, F2, ⟨by rw [← hmem]; exact h2, ?_, ?_⟩, hst.told, hst.marks, hF2', hupd⟩
    · have := hst.place
      rw [show s2.finish.told = s.told ++ cur.tells μ from hst.told]
      exact this
    · show (!s2.dry) = _
      rw [hdr, Bool.not_not]

theorem bare_step {α : Type} (f : FuncId) (x : Value) (m c t : Nat) (r : Res MemS α) (μ : MemS) (s : TrS) (F : List Nat) (cur : Res MemS α) (time : Int) (w : World)
    (h : Bare w m c t r μ s F cur)
    (hcall : ∀ w, (callFunc f #[x, .pointer (some ⟨t, 0, none⟩)]).run Try.prog w = .ok (.enter f #[x, .pointer (some ⟨t, 0, none⟩)]) w)
    (HT : ∀ w1, TM w1 m c t μ (s.begin time) F → Upd [t] w w1 → s.over = false → Calls Try.prog f #[x, .pointer (some ⟨t, 0, none⟩)] w1 (TaskPost (BareQ w1 m c μ (s.begin time) F r) m c t)) :
    Calls Try.prog 19 #[.pointer (some ⟨t, 0, none⟩), .int .i64 time, .func (.func f) #[x] #[]] w (BareStep w m c t r μ s F cur time) := by
  obtain ⟨h, hat, hov⟩ := h
  cases hso : s.over with
  | true =>
    rw [hso] at hov
    refine (t_step_over _ m c t μ s F time w h hso).mono ?_
    rintro e w' ⟨rfl, rfl⟩
    cases cur with
    | acc d k => simp [Res.isRet] at hov
    | mark kd k => simp [Res.isRet] at hov
    | ret a => exact ⟨rfl, s, F, ⟨h, hat, by rw [hso]; rfl⟩, by simp [Res.tells], by simp [Res.step], fun b hb => .inl hb, Upd.refl _ _⟩
  | false => exact bare_run f x m c t r μ s F cur time w h hat hso hcall fun w1 h1 hu1 => HT w1 h1 hu1 hso
theorem Bare.first {α : Type} {w : World} {m c t : Nat} {r : Res MemS α} {μ : MemS} {F : List Nat} (h : TM w m c t μ TrS.new F) (hr : r.next.isRet = false) : Bare w m c t r μ TrS.new F r.next :=
  ⟨h, follow_nil r, hr.symm⟩
theorem begin_in (s : TrS) (time : Int) : (s.begin time).In (s.told.length + 1) := ⟨Nat.zero_le _, Nat.le_refl _⟩
end Go.Proofs.Ytcphidmfdakbeaa
