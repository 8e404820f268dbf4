/- Calls by a trail, as tasks: the accesses, and how one call follows another. -/
import Derived.Test.YtldccemgfjmcdaaStep
namespace Go.Proofs.Ytldccemgfjmcdaa
open Go.RowKit

/-- What a call by a trail does: it is as the task r, run on what the trail is at. -/
def Does {α : Type} (w : World) (m c t : Nat) (μ : MemS) (s : TrS) (F : List Nat) (r : Res MemS α) (val : α → Value) (e : Ending) (w' : World) : Prop :=
  ∃ v μ' s', e = .returned (val v) ∧ Sim (r.run μ s) (v, μ', s') ∧ TMs w w' m c t μ' s' F

/-- Where a task is that began in the world w0, on the blocks F0. -/
structure At (w0 w : World) (m c t : Nat) (μ : MemS) (s : TrS) (F0 F : List Nat) (n : Nat) : Prop where
  tm : TM w m c t μ s F
  sub : ∀ b ∈ F, b ∈ F0 ∨ w0.heap.size ≤ b
  upd : Upd (m :: c :: F0) w0 w
  inn : s.In n
  over : s.over = false

section
variable {w0 w w' : World} {m c t : Nat} {μ μ' : MemS} {s s' : TrS} {F0 F : List Nat} {n : Nat}
theorem At.first (h : TM w m c t μ s F) (hi : s.In n) (ho : s.over = false) : At w w m c t μ s F F n := ⟨h, fun _ hb => .inl hb, Upd.refl _ _, hi, ho⟩
theorem At.alloc (a : At w0 w m c t μ s F0 F n) (o : Obj) : At w0 (w.alloc o) m c t μ s F0 F n := ⟨a.tm.alloc o, a.sub, a.upd.alloc o, a.inn, a.over⟩
theorem At.drewN (a : At w0 w m c t μ s F0 F n) (k : Nat) : At w0 (w.drewN k) m c t μ s F0 F n := ⟨a.tm.drewN k, a.sub, a.upd.drewN k, a.inn, a.over⟩
theorem At.ok (a : At w0 w m c t μ s F0 F n) (hn : n ≤ 1000000) : s.Ok := a.inn.ok hn
theorem At.does {α : Type} {r : Res MemS α} {val : α → Value} {e : Ending} (a : At w0 w m c t μ s F0 F n) (h : Does w m c t μ s F r val e w') :
    ∃ v μ' s' F', e = .returned (val v) ∧ Sim (r.run μ s) (v, μ', s') ∧ At w0 w' m c t μ' s' F0 F' n := by
  obtain ⟨v, μ', s', he, hs, F', ht, hF, hu⟩ := h
  refine ⟨v, μ', s', F', he, hs, ht, fun b hb => ?_, a.upd.trans_new hu fun b hb => ?_, hs.in_ (run_in r μ s a.inn), hs.over_eq.trans ((run_over r μ s).trans a.over)⟩
  · rcases hF b hb with h | h
    · exact a.sub b h
    · exact .inr (Nat.le_trans a.upd.size h)
  · simp only [List.mem_cons] at hb ⊢
    rcases hb with rfl | rfl | hb
    · exact .inl (.inl rfl)
    · exact .inl (.inr (.inl rfl))
    · rcases a.sub b hb with h | h
      · exact .inl (.inr (.inr h))
      · exact .inr h
theorem At.tms (a : At w0 w m c t μ s F0 F n) : TMs w0 w m c t μ s F0 := ⟨F, a.tm, a.sub, a.upd⟩
/-- A block that is none of the task's own stays. -/
theorem At.blk (a : At w0 w m c t μ s F0 F n) {b : Nat} {ty : TypeId} {cs : Array Value} (hb : Blk w0 b ty cs) (h : b ∉ m :: c :: F0) : Blk w b ty cs := hb.upd a.upd h
end

/-! ### The accesses -/
def loadR (i : Int) : Res MemS Int := .acc (dLoad i) .ret
def storeR (i v : Int) : Res MemS Unit := .acc (dStore i v) fun _ => .ret ()
def addR (i d : Int) : Res MemS Int := .acc (dAdd i d) .ret
def swapR (i old fresh : Int) : Res MemS Bool := .acc (dSwap i old fresh) fun v => .ret (v == 1)
def waitR (i v : Int) : Res MemS Unit := .acc (dWait i v) fun _ => .ret ()

theorem d_load (i : Int) (m c t : Nat) (μ : MemS) (s : TrS) (F : List Nat) (w : World) (h : TM w m c t μ s F) (ho : s.Ok) :
    Calls Try.prog 96 #[.pointer (some ⟨t, 0, none⟩), .int .i64 i] w (Does w m c t μ s F (loadR i) (Value.int .i64)) :=
  (t_load m c t μ s F i w h ho).mono fun _ _ ⟨he, ht⟩ => ⟨(s.acc (dLoad i) μ).1, _, _, he, Sim.refl _, ht⟩

theorem d_store (i v : Int) (m c t : Nat) (μ : MemS) (s : TrS) (F : List Nat) (w : World) (h : TM w m c t μ s F) (ho : s.Ok) :
    Calls Try.prog 90 #[.pointer (some ⟨t, 0, none⟩), .int .i64 i, .int .i64 v] w (Does w m c t μ s F (storeR i v) fun _ => .tuple #[]) :=
  (t_store m c t μ s F i v w h ho).mono fun _ _ ⟨he, ht⟩ => ⟨(), _, _, he, Sim.refl _, ht⟩




/-- What a task leaves that puts its answer into a cell of its caller's, unless the trail is dry. -/
def TaskQ {α : Type} (w : World) (m c : Nat) (μ : MemS) (s : TrS) (F : List Nat) (r : Res MemS α) (p : Addr) (val : α → Value) (μ2 : MemS) (s2 : TrS) (F2 : List Nat) (w2 : World) : Prop :=
  ∃ v w1, Sim (r.run μ s) (v, μ2, s2) ∧ (∀ b ∈ F2, b ∈ F ∨ w.heap.size ≤ b) ∧ Upd (m :: c :: F) w w1 ∧ (s2.dry = true → w2 = w1) ∧ (s2.dry = false → w2 = w1.setCell p (val v))

theorem TaskQ.of_alloc {α : Type} {w : World} {m c : Nat} {μ : MemS} {s : TrS} {F : List Nat} {r : Res MemS α} {p : Addr} {val : α → Value} {μ2 : MemS} {s2 : TrS} {F2 : List Nat} {w2 : World} (o : Obj) (h : TaskQ (w.alloc o) m c μ s F r p val μ2 s2 F2 w2) : TaskQ w m c μ s F r p val μ2 s2 F2 w2 := by
  obtain ⟨v, w1, h1, h2, h3, h4⟩ := h
  exact ⟨v, w1, h1, fun b hb => (h2 b hb).imp id (fun h => by simp at h; omega), ((Upd.refl _ _).alloc o).trans h3, h4⟩
/-- The task's end: the trail is dry, or the answer is put into the caller's cell. -/
theorem At.ends_dry {α : Type} {w0 w : World} {m c t : Nat} {μ μ2 : MemS} {s s2 : TrS} {F F2 : List Nat} {n : Nat} {r : Res MemS α} {p : Addr} {val : α → Value} {v : α} (a : At w0 w m c t μ2 s2 F F2 n) (hs : Sim (r.run μ s) (v, μ2, s2)) (hd : s2.dry = true) :
    TaskPost (TaskQ w0 m c μ s F r p val) m c t (.returned (.tuple #[])) w :=
  ⟨rfl, μ2, s2, F2, a.tm, v, w, hs, a.sub, a.upd, fun _ => rfl, fun h => by rw [hd] at h; cases h⟩
theorem At.ends_put {α : Type} {w0 w : World} {m c t : Nat} {μ μ2 : MemS} {s s2 : TrS} {F F2 : List Nat} {n : Nat} {r : Res MemS α} {p : Addr} {val : α → Value} {v : α} (a : At w0 w m c t μ2 s2 F F2 n) (hs : Sim (r.run μ s) (v, μ2, s2)) (hd : s2.dry = false) (hp : p.block ∉ m :: c :: F) (hp0 : p.block < w0.heap.size) :
    TaskPost (TaskQ w0 m c μ s F r p val) m c t (.returned (.tuple #[])) (w.setCell p (val v)) := by
  have hF2 : p.block ∉ m :: c :: F2 := by
    intro hin
    simp only [List.mem_cons, not_or] at hin hp
    rcases hin with e | e | e
    · exact hp.1 e
    · exact hp.2.1 e
    · rcases a.sub _ e with h | h
      · exact hp.2.2 h
      · omega
  have hu : Upd [p.block] w (w.setCell p (val v)) := (Upd.refl _ _).put (.inl (by simp)) _
  refine ⟨rfl, μ2, s2, F2, a.tm.upd hu ?_ ?_ ?_, v, w, hs, a.sub, a.upd, (fun h => by rw [hd] at h; cases h), fun _ => rfl⟩
  · simp only [List.mem_cons, not_or] at hF2; simp; exact fun e => hF2.1 e.symm
  · simp only [List.mem_cons, not_or] at hF2; simp; exact fun e => hF2.2.1 e.symm
  · intro b hb hb2
    simp at hb2
    subst hb2
    exact hF2 (by simp [hb])
theorem TaskPost.mono {Q Q' : MemS → TrS → List Nat → World → Prop} {m c t : Nat} {e : Ending} {w : World} (h : TaskPost Q m c t e w) (hq : ∀ μ s F w, Q μ s F w → Q' μ s F w) : TaskPost Q' m c t e w := by
  obtain ⟨he, μ2, s2, F2, h1, h2⟩ := h
  exact ⟨he, μ2, s2, F2, h1, hq _ _ _ _ h2⟩
end Go.Proofs.Ytldccemgfjmcdaa
