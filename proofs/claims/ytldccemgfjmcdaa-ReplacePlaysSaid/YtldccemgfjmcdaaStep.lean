/- Layer 3's trail: New, Step, Dry, Fresh, Mark, Marks, Steps, Over. -/
import Derived.Test.YtldccemgfjmcdaaTrail
namespace Go.Proofs.Ytldccemgfjmcdaa
open Go.RowKit

theorem t_new (m c : Nat) (μ : MemS) (w : World) (h : MemAt w m c μ) :
    Calls Try.prog 52 #[.pointer (some ⟨m, 0, none⟩)] w fun e w' => e = .returned (.pointer (some ⟨w.heap.size, 0, none⟩)) ∧ TM w' m c w.heap.size μ TrS.new [w.heap.size] ∧ Below w.heap.size w w' := by
  have hfin : TM (w.alloc (.cells #[.pointer (some ⟨m, 0, none⟩), .slice none 0 0, .int .i64 0, .bool false, .bool true, .bool false, .bool false, .int .i64 0, .slice none 0 0] 144)) m c w.heap.size μ TrS.new [w.heap.size] := by
    refine ⟨h.alloc _, ⟨none, 0, none, 0, ⟨Blk.new w _ _, World.ownsRow_nil _ _ _ _, World.ownsRow_nil _ _ _ _⟩, rfl⟩, ?_, ?_⟩
    · have := h.1.lt; simp; omega
    · have := h.2.1.lt; simp; omega
  have HF := Lib.hid hfin
  clear hfin
  go_enter Try.func52, Try.ntmps52
  go_wp2
  go_ret
  exact ⟨rfl, HF.out, (Below.refl _ _).alloc (Nat.le_refl _) _⟩

/-- What a step leaves: the task's own end, and behind it the trail's fields. -/
def StepPost (Q : MemS → TrS → List Nat → World → Prop) (m c t : Nat) (e : Ending) (w' : World) : Prop :=
  ∃ μ2 s2 F2 w2, Q μ2 s2 F2 w2 ∧ e = .returned (.bool (!s2.dry)) ∧ TM w' m c t μ2 s2.finish F2 ∧ Upd [t] w2 w'
def TaskPost (Q : MemS → TrS → List Nat → World → Prop) (m c t : Nat) (e : Ending) (w2 : World) : Prop :=
  e = .returned (.tuple #[]) ∧ ∃ μ2 s2 F2, TM w2 m c t μ2 s2 F2 ∧ Q μ2 s2 F2 w2

set_option maxRecDepth 100000 in
theorem t_step (f : FuncId) (x : Value) (Q : MemS → TrS → List Nat → World → Prop) (m c t : Nat) (μ : MemS) (s : TrS) (F : List Nat) (time : Int) (w : World) (h : TM w m c t μ s F) (hov : s.over = false)
    (hcall : ∀ w, (callFunc f #[x, .pointer (some ⟨t, 0, none⟩)]).run Try.prog w = .ok (.enter f #[x, .pointer (some ⟨t, 0, none⟩)]) w)
    (HT : Hid (∀ w1, TM w1 m c t μ (s.begin time) F → Upd [t] w w1 → Calls Try.prog f #[x, .pointer (some ⟨t, 0, none⟩)] w1 (TaskPost Q m c t))) :
    Calls Try.prog 54 #[.pointer (some ⟨t, 0, none⟩), .int .i64 time, .func (.func f) #[x] #[]] w (StepPost Q m c t) := by
  have qT : ∀ (w : World), (binOp .eql 145 (.func (.func f) #[x] #[]) .nilFunc).run Try.prog w = .ok (.bool false) w := fun w => rfl
  have c2 := h.c2
  have c3 := h.c3
  have c4 := h.c4
  have c5 := h.c5
  have c6 := h.c6
  have c7 := h.c7
  have f2 := h.free 2
  have f3 := h.free 3
  have f4 := h.free 4
  have f5 := h.free 5
  have f7 := h.free 7
  go_enter Try.func54, Try.ntmps54
  go_upto_region 4 with fail
  have h5 : TM (((((w.setCell ⟨t, 2, none⟩ (.int .i64 0)).setCell ⟨t, 3, none⟩ (.bool false)).setCell ⟨t, 4, none⟩ (.bool false)).setCell ⟨t, 5, none⟩ (.bool false)).setCell ⟨t, 7, none⟩ (.int .i64 time)) m c t μ (s.begin time) F := by
    have a1 := h.field { s with at_ := 0 } 2 (.int .i64 0) rfl rfl fun _ _ _ _ => rfl
    have a2 := a1.field { s with at_ := 0, done := false } 3 (.bool false) rfl rfl fun _ _ _ _ => rfl
    have a3 := a2.field { s with at_ := 0, done := false, dry := false } 4 (.bool false) rfl rfl fun _ _ _ _ => rfl
    have a4 := a3.field { s with at_ := 0, done := false, dry := false, fresh := false } 5 (.bool false) rfl rfl fun _ _ _ _ => rfl
    exact a4.field _ 7 _ rfl rfl fun _ _ _ _ => rfl
  have hu5 : Upd [t] w (((((w.setCell ⟨t, 2, none⟩ (.int .i64 0)).setCell ⟨t, 3, none⟩ (.bool false)).setCell ⟨t, 4, none⟩ (.bool false)).setCell ⟨t, 5, none⟩ (.bool false)).setCell ⟨t, 7, none⟩ (.int .i64 time)) :=
    (((((Upd.refl _ _).put (.inl (by simp)) _).put (.inl (by simp)) _).put (.inl (by simp)) _).put (.inl (by simp)) _).put (.inl (by simp)) _
  generalize ((((w.setCell ⟨t, 2, none⟩ (.int .i64 0)).setCell ⟨t, 3, none⟩ (.bool false)).setCell ⟨t, 4, none⟩ (.bool false)).setCell ⟨t, 5, none⟩ (.bool false)).setCell ⟨t, 7, none⟩ (.int .i64 time) = w5 at *
  have H5 := Lib.hid h5
  have HU5 := Lib.hid hu5
  clear c2 c3 c4 c5 c6 c7 f2 f3 f4 f5 f7 h5 hu5 h hov
  go_wp2_with fail
  refine (HT.out _ H5.out HU5.out).mono ?_
  rintro e w2 ⟨rfl, μ2, s2, F2, h2, hq⟩
  have c4 := h2.c4
  have c5 := h2.c5
  have c6 := h2.c6
  have f4 := h2.free 4
  have f5 := h2.free 5
  have f6 := h2.free 6
  have h8 : TM (((w2.setCell ⟨t, 6, none⟩ (.bool (!s2.dry))).setCell ⟨t, 5, none⟩ (.bool false)).setCell ⟨t, 4, none⟩ (.bool true)) m c t μ2 s2.finish F2 := by
    have a1 := h2.field { s2 with over := !s2.dry } 6 (.bool (!s2.dry)) rfl rfl fun _ _ _ _ => rfl
    have a2 := a1.field { s2 with over := !s2.dry, fresh := false } 5 (.bool false) rfl rfl fun _ _ _ _ => rfl
    exact a2.field _ 4 _ rfl rfl fun _ _ _ _ => rfl
  have H8 := Lib.hid h8
  have HQ := Lib.hid hq
  clear h8 hq h2 H5 HU5 HT hcall qT
  go_wp2
  go_ret
  exact ⟨μ2, s2, F2, w2, HQ.out, rfl, H8.out, (((Upd.refl _ _).put (.inl (by simp)) _).put (.inl (by simp)) _).put (.inl (by simp)) _⟩

/-- Of a task that is over nothing is run. -/
theorem t_step_over (g : Value) (m c t : Nat) (μ : MemS) (s : TrS) (F : List Nat) (time : Int) (w : World) (h : TM w m c t μ s F) (hov : s.over = true) :
    Calls Try.prog 54 #[.pointer (some ⟨t, 0, none⟩), .int .i64 time, g] w fun e w' => e = .returned (.bool true) ∧ w = w' := by
  have c6 := h.c6
  go_enter Try.func54, Try.ntmps54
  go_wp2
  go_ret
  exact ⟨rfl, rfl⟩

theorem t_dry (m c t : Nat) (μ : MemS) (s : TrS) (F : List Nat) (w : World) (h : TM w m c t μ s F) :
    Calls Try.prog 77 #[.pointer (some ⟨t, 0, none⟩)] w fun e w' => e = .returned (.bool (s.dry && !s.over)) ∧ w = w' := by
  have c4 := h.c4
  have c6 := h.c6
  cases hd : s.dry with
  | true =>
    rw [hd] at c4
    clear hd
    go_enter Try.func77, Try.ntmps77
    go_wp2
    go_ret
    exact ⟨rfl, rfl⟩
  | false =>
    rw [hd] at c4
    clear hd
    go_enter Try.func77, Try.ntmps77
    go_wp2
    go_ret
    exact ⟨rfl, rfl⟩

theorem t_fresh (m c t : Nat) (μ : MemS) (s : TrS) (F : List Nat) (w : World) (h : TM w m c t μ s F) :
    Calls Try.prog 91 #[.pointer (some ⟨t, 0, none⟩)] w fun e w' => e = .returned (.bool s.fresh) ∧ w = w' := by
  have c5 := h.c5
  go_enter Try.func91, Try.ntmps91
  go_wp2
  go_ret
  exact ⟨rfl, rfl⟩

theorem t_over (m c t : Nat) (μ : MemS) (s : TrS) (F : List Nat) (w : World) (h : TM w m c t μ s F) :
    Calls Try.prog 53 #[.pointer (some ⟨t, 0, none⟩)] w fun e w' => e = .returned (.bool s.over) ∧ w = w' := by
  have c6 := h.c6
  go_enter Try.func53, Try.ntmps53
  go_wp2
  go_ret
  exact ⟨rfl, rfl⟩

theorem t_steps (m c t : Nat) (μ : MemS) (s : TrS) (F : List Nat) (w : World) (h : TM w m c t μ s F) :
    Calls Try.prog 56 #[.pointer (some ⟨t, 0, none⟩)] w fun e w' => e = .returned (.int .i64 s.told.length) ∧ w = w' := by
  obtain ⟨tA, tcap, c1, -, -⟩ := h.told
  go_enter Try.func56, Try.ntmps56
  go_wp2
  go_ret
  exact ⟨rfl, rfl⟩
end Go.Proofs.Ytldccemgfjmcdaa
/- Calls by a trail, as tasks: the accesses, and how one call follows another. -/
namespace Go.Proofs.Ytldccemgfjmcdaa
open Go.RowKit

/-- What a call by a trail does: it is as the task r, run on what the trail is at. -/
def Does {α : Type} (w : World) (m c t : Nat) (μ : MemS) (s : TrS) (F : List Nat) (r : Res MemS α) (val : α → Value) (e : Ending) (w' : World) : Prop :=
  ∃ v μ' s', e = .returned (val v) ∧ Sim (r.run μ s) (v, μ', s') ∧ TMs w w' m c t μ' s' F

/-- Where a task is that began in the world w0, on the blocks F0. -/
structure At (w0 w : World) (m c t : Nat) (μ : MemS) (s : TrS) (F0 F : List Nat) (n : Nat) : Prop where
  tm : TM w m c t μ s F
  sub : ∀ b ∈ F, b ∈ F0 ∨ w0.heap.size ≤ b
  upd : Upd (m :: c :: F0) w0 w
  inn : s.In n
  over : s.over = false

section
variable {w0 w w' : World} {m c t : Nat} {μ μ' : MemS} {s s' : TrS} {F0 F : List Nat} {n : Nat}
theorem At.first (h : TM w m c t μ s F) (hi : s.In n) (ho : s.over = false) : At w w m c t μ s F F n := ⟨h, fun _ hb => .inl hb, Upd.refl _ _, hi, ho⟩
theorem At.alloc (a : At w0 w m c t μ s F0 F n) (o : Obj) : At w0 (w.alloc o) m c t μ s F0 F n := ⟨a.tm.alloc o, a.sub, a.upd.alloc o, a.inn, a.over⟩
theorem At.drewN (a : At w0 w m c t μ s F0 F n) (k : Nat) : At w0 (w.drewN k) m c t μ s F0 F n := ⟨a.tm.drewN k, a.sub, a.upd.drewN k, a.inn, a.over⟩
theorem At.ok (a : At w0 w m c t μ s F0 F n) (hn : n ≤ 1000000) : s.Ok := a.inn.ok hn
theorem At.does {α : Type} {r : Res MemS α} {val : α → Value} {e : Ending} (a : At w0 w m c t μ s F0 F n) (h : Does w m c t μ s F r val e w') :
    ∃ v μ' s' F', e = .returned (val v) ∧ Sim (r.run μ s) (v, μ', s') ∧ At w0 w' m c t μ' s' F0 F' n := by
  obtain ⟨v, μ', s', he, hs, F', ht, hF, hu⟩ := h
  refine ⟨v, μ', s', F', he, hs, ht, fun b hb => ?_, a.upd.trans_new hu fun b hb => ?_, hs.in_ (run_in r μ s a.inn), hs.over_eq.trans ((run_over r μ s).trans a.over)⟩
  · rcases hF b hb with h | h
    · exact a.sub b h
    · exact .inr (Nat.le_trans a.upd.size h)
  · simp only [List.mem_cons] at hb ⊢
    rcases hb with rfl | rfl | hb
    · exact .inl (.inl rfl)
    · exact .inl (.inr (.inl rfl))
    · rcases a.sub b hb with h | h
      · exact .inl (.inr (.inr h))
      · exact .inr h
theorem At.tms (a : At w0 w m c t μ s F0 F n) : TMs w0 w m c t μ s F0 := ⟨F, a.tm, a.sub, a.upd⟩
/-- A block that is none of the task's own stays. -/
theorem At.blk (a : At w0 w m c t μ s F0 F n) {b : Nat} {ty : TypeId} {cs : Array Value} (hb : Blk w0 b ty cs) (h : b ∉ m :: c :: F0) : Blk w b ty cs := hb.upd a.upd h
end

/-! ### The accesses -/
def loadR (i : Int) : Res MemS Int := .acc (dLoad i) .ret
def storeR (i v : Int) : Res MemS Unit := .acc (dStore i v) fun _ => .ret ()
def addR (i d : Int) : Res MemS Int := .acc (dAdd i d) .ret
def swapR (i old fresh : Int) : Res MemS Bool := .acc (dSwap i old fresh) fun v => .ret (v == 1)
def waitR (i v : Int) : Res MemS Unit := .acc (dWait i v) fun _ => .ret ()

theorem d_load (i : Int) (m c t : Nat) (μ : MemS) (s : TrS) (F : List Nat) (w : World) (h : TM w m c t μ s F) (ho : s.Ok) :
    Calls Try.prog 96 #[.pointer (some ⟨t, 0, none⟩), .int .i64 i] w (Does w m c t μ s F (loadR i) (Value.int .i64)) :=
  (t_load m c t μ s F i w h ho).mono fun _ _ ⟨he, ht⟩ => ⟨(s.acc (dLoad i) μ).1, _, _, he, Sim.refl _, ht⟩

theorem d_store (i v : Int) (m c t : Nat) (μ : MemS) (s : TrS) (F : List Nat) (w : World) (h : TM w m c t μ s F) (ho : s.Ok) :
    Calls Try.prog 90 #[.pointer (some ⟨t, 0, none⟩), .int .i64 i, .int .i64 v] w (Does w m c t μ s F (storeR i v) fun _ => .tuple #[]) :=
  (t_store m c t μ s F i v w h ho).mono fun _ _ ⟨he, ht⟩ => ⟨(), _, _, he, Sim.refl _, ht⟩




/-- What a task leaves that puts its answer into a cell of its caller's, unless the trail is dry. -/
def TaskQ {α : Type} (w : World) (m c : Nat) (μ : MemS) (s : TrS) (F : List Nat) (r : Res MemS α) (p : Addr) (val : α → Value) (μ2 : MemS) (s2 : TrS) (F2 : List Nat) (w2 : World) : Prop :=
  ∃ v w1, Sim (r.run μ s) (v, μ2, s2) ∧ (∀ b ∈ F2, b ∈ F ∨ w.heap.size ≤ b) ∧ Upd (m :: c :: F) w w1 ∧ (s2.dry = true → w2 = w1) ∧ (s2.dry = false → w2 = w1.setCell p (val v))

theorem TaskQ.of_alloc {α : Type} {w : World} {m c : Nat} {μ : MemS} {s : TrS} {F : List Nat} {r : Res MemS α} {p : Addr} {val : α → Value} {μ2 : MemS} {s2 : TrS} {F2 : List Nat} {w2 : World} (o : Obj) (h : TaskQ (w.alloc o) m c μ s F r p val μ2 s2 F2 w2) : TaskQ w m c μ s F r p val μ2 s2 F2 w2 := by
  obtain ⟨v, w1, h1, h2, h3, h4⟩ := h
  exact ⟨v, w1, h1, fun b hb => (h2 b hb).imp id (fun h => by simp at h; omega), ((Upd.refl _ _).alloc o).trans h3, h4⟩
/-- The task's end: the trail is dry, or the answer is put into the caller's cell. -/
theorem At.ends_dry {α : Type} {w0 w : World} {m c t : Nat} {μ μ2 : MemS} {s s2 : TrS} {F F2 : List Nat} {n : Nat} {r : Res MemS α} {p : Addr} {val : α → Value} {v : α} (a : At w0 w m c t μ2 s2 F F2 n) (hs : Sim (r.run μ s) (v, μ2, s2)) (hd : s2.dry = true) :
    TaskPost (TaskQ w0 m c μ s F r p val) m c t (.returned (.tuple #[])) w :=
  ⟨rfl, μ2, s2, F2, a.tm, v, w, hs, a.sub, a.upd, fun _ => rfl, fun h => by rw [hd] at h; cases h⟩
theorem At.ends_put {α : Type} {w0 w : World} {m c t : Nat} {μ μ2 : MemS} {s s2 : TrS} {F F2 : List Nat} {n : Nat} {r : Res MemS α} {p : Addr} {val : α → Value} {v : α} (a : At w0 w m c t μ2 s2 F F2 n) (hs : Sim (r.run μ s) (v, μ2, s2)) (hd : s2.dry = false) (hp : p.block ∉ m :: c :: F) (hp0 : p.block < w0.heap.size) :
    TaskPost (TaskQ w0 m c μ s F r p val) m c t (.returned (.tuple #[])) (w.setCell p (val v)) := by
  have hF2 : p.block ∉ m :: c :: F2 := by
    intro hin
    simp only [List.mem_cons, not_or] at hin hp
    rcases hin with e | e | e
    · exact hp.1 e
    · exact hp.2.1 e
    · rcases a.sub _ e with h | h
      · exact hp.2.2 h
      · omega
  have hu : Upd [p.block] w (w.setCell p (val v)) := (Upd.refl _ _).put (.inl (by simp)) _
  refine ⟨rfl, μ2, s2, F2, a.tm.upd hu ?_ ?_ ?_, v, w, hs, a.sub, a.upd, (fun h => by rw [hd] at h; cases h), fun _ => rfl⟩
  · simp only [List.mem_cons, not_or] at hF2; simp; exact fun e => hF2.1 e.symm
  · simp only [List.mem_cons, not_or] at hF2; simp; exact fun e => hF2.2.1 e.symm
  · intro b hb hb2
    simp at hb2
    subst hb2
    exact hF2 (by simp [hb])
theorem TaskPost.mono {Q Q' : MemS → TrS → List Nat → World → Prop} {m c t : Nat} {e : Ending} {w : World} (h : TaskPost Q m c t e w) (hq : ∀ μ s F w, Q μ s F w → Q' μ s F w) : TaskPost Q' m c t e w := by
  obtain ⟨he, μ2, s2, F2, h1, h2⟩ := h
  exact ⟨he, μ2, s2, F2, h1, hq _ _ _ _ h2⟩
end Go.Proofs.Ytldccemgfjmcdaa
/- A task that puts its answer into a cell of its caller's when it is over: what one step of it does, whatever the task. -/
namespace Go.Proofs.Ytldccemgfjmcdaa
open Go.RowKit

def Res.putIn {α : Type} (c : Res MemS α) (cs : Array Value) (po : Nat) (val : α → Value) : Array Value :=
  match c with
  | .ret a => cs.setIfInBounds po (val a)
  | _ => cs

/-- A memory, a trail on it whose task r is at the place cur, and the block that has the cell for the answer. -/
structure Put {α : Type} (w : World) (m c t pb po : Nat) (ty : TypeId) (r : Res MemS α) (val : α → Value) (μ : MemS) (s : TrS) (F : List Nat) (cs : Array Value) (cur : Res MemS α) : Prop where
  tm : TM w m c t μ s F
  blk : Blk w pb ty cs
  far : pb ∉ m :: c :: F
  at_ : r.follow s.told = some cur
  over : s.over = cur.isRet
  cell : po < cs.size
  done : ∀ a, cur = .ret a → cs[po]? = some (val a)

theorem TM.mem_t {w : World} {m c t : Nat} {μ : MemS} {s : TrS} {F : List Nat} (h : TM w m c t μ s F) : t ∈ F := by
  obtain ⟨-, ⟨tA, tcap, mA, mcap, -, rfl⟩, -, -⟩ := h
  simp

theorem putIn_size {α : Type} (c : Res MemS α) (cs : Array Value) (po : Nat) (val : α → Value) : (c.putIn cs po val).size = cs.size := by
  unfold Res.putIn
  split <;> simp
theorem putIn_done {α : Type} (c : Res MemS α) (cs : Array Value) (po : Nat) (val : α → Value) (h : po < cs.size) : ∀ a, c = .ret a → (c.putIn cs po val)[po]? = some (val a) := by
  rintro a rfl
  simp [Res.putIn, h]
theorem set_same (cs : Array Value) (i : Nat) (v : Value) (h : cs[i]? = some v) : cs.setIfInBounds i v = cs := by
  apply Array.ext_getElem?
  intro j
  by_cases hj : i = j
  · subst hj
    rw [h]
    have := (Array.getElem?_eq_some_iff.1 h).1
    simp [this]
  · simp [hj]

/-- What a step of it leaves. -/
def PutStep {α : Type} (w : World) (m c t pb po : Nat) (ty : TypeId) (r : Res MemS α) (val : α → Value) (μ : MemS) (s : TrS) (F : List Nat) (cs : Array Value) (cur : Res MemS α) (time : Int) (e : Ending) (w' : World) : Prop :=
  e = .returned (.bool (cur.step μ).1.isRet) ∧ ∃ s' F', Put w' m c t pb po ty r val (cur.step μ).2.1 s' F' ((cur.step μ).1.putIn cs po val) (cur.step μ).1 ∧
    s'.told = s.told ++ cur.tells μ ∧ s'.marks = s.marks ++ (cur.step μ).2.2.map (fun k => (k, time)) ∧ (∀ b ∈ F', b ∈ F ∨ w.heap.size ≤ b) ∧ Upd (pb :: m :: c :: F) w w'

theorem put_step {α : Type} (f : FuncId) (x : Value) (m c t pb po : Nat) (ty : TypeId) (r : Res MemS α) (val : α → Value) (μ : MemS) (s : TrS) (F : List Nat) (cs : Array Value) (cur : Res MemS α) (time : Int) (w : World)
    (h : Put w m c t pb po ty r val μ s F cs cur)
    (hcall : ∀ w, (callFunc f #[x, .pointer (some ⟨t, 0, none⟩)]).run Try.prog w = .ok (.enter f #[x, .pointer (some ⟨t, 0, none⟩)]) w)
    (HT : ∀ w1, TM w1 m c t μ (s.begin time) F → Blk w1 pb ty cs → s.over = false → Calls Try.prog f #[x, .pointer (some ⟨t, 0, none⟩)] w1 (TaskPost (TaskQ w1 m c μ (s.begin time) F r ⟨pb, po, none⟩ val) m c t)) :
    Calls Try.prog 54 #[.pointer (some ⟨t, 0, none⟩), .int .i64 time, .func (.func f) #[x] #[]] w (PutStep w m c t pb po ty r val μ s F cs cur time) := by
  obtain ⟨h, hb, hfar, hat, hov, hcell, hdone⟩ := h
  have htF := h.mem_t
  have hpt : pb ≠ t := by
    rintro rfl
    exact hfar (by simp [htF])
  cases hso : s.over with
  | true =>
    rw [hso] at hov
    refine (t_step_over _ m c t μ s F time w h hso).mono ?_
    rintro e w' ⟨rfl, rfl⟩
    cases cur with
    | acc d k => simp [Res.isRet] at hov
    | mark kd k => simp [Res.isRet] at hov
    | ret a =>
      have hd := hdone a rfl
      refine ⟨rfl, s, F, ?_, by simp [Res.tells], by simp [Res.step], fun b hb => .inl hb, Upd.refl _ _⟩
      simp only [Res.step, Res.putIn]
      rw [set_same _ _ _ hd]
      exact ⟨h, hb, hfar, hat, by rw [hso]; rfl, hcell, fun b hb => by cases hb; exact hd⟩
  | false =>
    refine (t_step f x (fun μ2 s2 F2 w2 => ∃ w1, Upd [t] w w1 ∧ TaskQ w1 m c μ (s.begin time) F r ⟨pb, po, none⟩ val μ2 s2 F2 w2) m c t μ s F time w h hso hcall (Lib.hid fun w1 h1 hu1 => ?_)).mono ?_
    · exact (HT w1 h1 (hb.upd hu1 (by simp [hpt])) hso).mono fun e w2 hq => TaskPost.mono hq fun μ2 s2 F2 w3 hq => ⟨w1, hu1, hq⟩
    · rintro e w' ⟨μ2, s2, F2, w2, ⟨w1, hu1, v, w1', hsim, hF2, hu2, hdry, hput⟩, rfl, h2, hu3⟩
      have hst := Sim.step hat hsim
      have hF2' : ∀ b ∈ F2, b ∈ F ∨ w.heap.size ≤ b := fun b hb => (hF2 b hb).imp id fun h => Nat.le_trans hu1.size h
      have hb1 : Blk w1' pb ty cs := (hb.upd hu1 (by simp [hpt])).upd hu2 hfar
      have hb2 : Blk w' pb ty ((cur.step μ).1.putIn cs po val) := by
        refine Blk.upd ?_ hu3 (by simp [hpt])
        cases hd : s2.dry with
        | true =>
          have e := hst.dry
          rw [show (v, μ2, s2).2.2.dry = true from hd] at e
          rw [hdry hd]
          cases hc : (cur.step μ).1 with
          | ret a => rw [hc] at e; simp [Res.isRet] at e
          | acc d k => exact hb1
          | mark kd k => exact hb1
        | false =>
          have e := hst.dry
          rw [show (v, μ2, s2).2.2.dry = false from hd] at e
          rw [hput hd]
          cases hc : (cur.step μ).1 with
          | ret a =>
            have := hst.answer a hc
            simp only at this
            subst this
            exact hb1.put po _
          | acc d k => rw [hc] at e; simp [Res.isRet] at e
          | mark kd k => rw [hc] at e; simp [Res.isRet] at e
      have hupd : Upd (pb :: m :: c :: F) w w' := by
        have k1 : Upd (pb :: m :: c :: F) w w1 := hu1.mono (by simp [htF])
        have k2 : Upd (pb :: m :: c :: F) w1 w1' := hu2.mono (by intro b hb; simp only [List.mem_cons] at hb ⊢; exact .inr hb)
        have k3 : Upd (pb :: m :: c :: F) w1' w2 := by
          cases hd : s2.dry with
          | true => rw [hdry hd]; exact Upd.refl _ _
          | false => rw [hput hd]; exact (Upd.refl _ _).put (.inl (by simp)) _
        have k4 : Upd (pb :: m :: c :: F) w2 w' := hu3.mono (by simp [htF])
        exact ((k1.trans k2).trans k3).trans k4
      have hmem : μ2 = (cur.step μ).2.1 := hst.mem
      have hdr : s2.dry = !(cur.step μ).1.isRet := hst.dry
      refine ⟨by rw [hdr, Bool.not_not], s2.finish, F2, ⟨by rw [← hmem]; exact h2, hb2, ?_, ?_, ?_, ?_, ?_⟩, hst.told, hst.marks, hF2', hupd⟩
      · intro hin
        simp only [List.mem_cons, not_or] at hin hfar
        rcases hin with e | e | e
        · exact hfar.1 e
        · exact hfar.2.1 e
        · rcases hF2' _ e with e | e
          · exact hfar.2.2 e
          · exact absurd hb.lt (by omega)
      · have := hst.place
        rw [show s2.finish.told = s.told ++ cur.tells μ from hst.told]
        exact this
      · show (!s2.dry) = _
        rw [hdr, Bool.not_not]
      · rw [putIn_size]; exact hcell
      · exact putIn_done _ _ _ _ hcell

/-- A task that begins. -/
theorem Put.first {α : Type} {w : World} {m c t pb po : Nat} {ty : TypeId} {r : Res MemS α} {val : α → Value} {μ : MemS} {F : List Nat} {cs : Array Value} (h : TM w m c t μ TrS.new F) (hb : Blk w pb ty cs) (hfar : pb ∉ m :: c :: F) (hcell : po < cs.size) (hr : r.next.isRet = false) :
    Put w m c t pb po ty r val μ TrS.new F cs r.next :=
  ⟨h, hb, hfar, follow_nil r, hr.symm, hcell, fun a ha => by rw [ha] at hr; cases hr⟩
theorem Put.begin_in {α : Type} {w : World} {m c t pb po : Nat} {ty : TypeId} {r : Res MemS α} {val : α → Value} {μ : MemS} {s : TrS} {F : List Nat} {cs : Array Value} {cur : Res MemS α} (_h : Put w m c t pb po ty r val μ s F cs cur) (time : Int) : (s.begin time).In (s.told.length + 1) :=
  ⟨Nat.zero_le _, Nat.le_refl _⟩

/-- Steps alone, one behind the other. -/
def Res.alone {α : Type} : Nat → Res MemS α → MemS → Res MemS α × MemS
  | 0, r, μ => (r, μ)
  | n + 1, r, μ => let q := Res.alone n r μ; ((q.1.step q.2).1, (q.1.step q.2).2.1)

theorem tells_le {α : Type} (cur : Res MemS α) (μ : MemS) : (cur.tells μ).length ≤ 1 := by
  cases cur with
  | ret a => simp [Res.tells]
  | mark k r => simp [Res.tells]
  | acc d k => simp only [Res.tells]; split <;> simp
theorem putIn_step {α : Type} (cur : Res MemS α) (μ : MemS) (cs : Array Value) (po : Nat) (val : α → Value) : (cur.step μ).1.putIn (cur.putIn cs po val) po val = (cur.step μ).1.putIn cs po val := by
  cases cur with
  | ret a => simp [Res.step, Res.putIn]
  | mark k r => rfl
  | acc d k => rfl
theorem putIn_next {α : Type} (r : Res MemS α) (cs : Array Value) (po : Nat) (val : α → Value) (h : r.isRet = false) : r.putIn cs po val = cs := by
  cases r with
  | ret a => simp [Res.isRet] at h
  | mark k r => rfl
  | acc d k => rfl

def Res.aloneTold {α : Type} : Nat → Res MemS α → MemS → List Int
  | 0, _, _ => []
  | n + 1, r, μ => Res.aloneTold n r μ ++ (Res.alone n r μ).1.tells (Res.alone n r μ).2
theorem aloneTold_le {α : Type} (r : Res MemS α) (μ : MemS) : ∀ n, (Res.aloneTold n r μ).length ≤ n
  | 0 => Nat.le_refl _
  | n + 1 => by
    have h1 := aloneTold_le r μ n
    have h2 := tells_le (Res.alone n r μ).1 (Res.alone n r μ).2
    simp only [Res.aloneTold, List.length_append]
    omega

/-- A task that is alone: k steps behind the place p0. -/
structure AloneAt {α : Type} (w0 : World) (m c t pb po : Nat) (ty : TypeId) (r : Res MemS α) (val : α → Value) (p0 : Res MemS α) (μ0 : MemS) (told0 : List Int) (cs : Array Value) (k : Nat) (w : World) (s : TrS) (F : List Nat) : Prop where
  put : Put w m c t pb po ty r val (Res.alone k p0 μ0).2 s F ((Res.alone k p0 μ0).1.putIn cs po val) (Res.alone k p0 μ0).1
  told : s.told = told0 ++ Res.aloneTold k p0 μ0
  new : ∀ b ∈ F, w0.heap.size ≤ b
  low : Below w0.heap.size w0 w

theorem AloneAt.first {α : Type} {w0 w : World} {m c t pb po : Nat} {ty : TypeId} {r : Res MemS α} {val : α → Value} {μ : MemS} {F : List Nat} {cs : Array Value} (h : TM w m c t μ TrS.new F) (hb : Blk w pb ty cs) (hfar : pb ∉ m :: c :: F) (hcell : po < cs.size) (hr : r.next.isRet = false) (hF : ∀ b ∈ F, w0.heap.size ≤ b) (hw : Below w0.heap.size w0 w) :
    AloneAt w0 m c t pb po ty r val r.next μ [] cs 0 w TrS.new F :=
  ⟨by simp only [Res.alone]; rw [putIn_next _ _ _ _ hr]; exact Put.first h hb hfar hcell hr, rfl, hF, hw⟩
theorem AloneAt.again {α : Type} {w0 w : World} {m c t pb po : Nat} {ty : TypeId} {r : Res MemS α} {val : α → Value} {μ : MemS} {s : TrS} {F : List Nat} {cs : Array Value} {p0 : Res MemS α} (h : Put w m c t pb po ty r val μ s F cs p0) (hF : ∀ b ∈ F, w0.heap.size ≤ b) (hw : Below w0.heap.size w0 w) (hr : p0.isRet = false) :
    AloneAt w0 m c t pb po ty r val p0 μ s.told cs 0 w s F :=
  ⟨by simp only [Res.alone]; rw [putIn_next _ _ _ _ hr]; exact h, by simp [Res.aloneTold], hF, hw⟩
theorem AloneAt.next {α : Type} {w0 w w' : World} {m c t pb po : Nat} {ty : TypeId} {r : Res MemS α} {val : α → Value} {p0 : Res MemS α} {μ0 : MemS} {told0 : List Int} {s : TrS} {F : List Nat} {cs : Array Value} {k : Nat} {time : Int} {e : Ending}
    (h : AloneAt w0 m c t pb po ty r val p0 μ0 told0 cs k w s F) (hmc : ∀ b ∈ [pb, m, c], w0.heap.size ≤ b)
    (hs : PutStep w m c t pb po ty r val (Res.alone k p0 μ0).2 s F ((Res.alone k p0 μ0).1.putIn cs po val) (Res.alone k p0 μ0).1 time e w') :
    e = .returned (.bool (Res.alone (k + 1) p0 μ0).1.isRet) ∧ ∃ s' F', AloneAt w0 m c t pb po ty r val p0 μ0 told0 cs (k + 1) w' s' F' := by
  obtain ⟨hput, htold, hF, hw⟩ := h
  obtain ⟨he, s', F', hp, ht, -, hF', hu⟩ := hs
  have hsz := hw.size
  rw [putIn_step] at hp
  refine ⟨he, s', F', hp, by rw [ht, htold, List.append_assoc]; rfl, fun b hb => (hF' b hb).elim (hF b) fun h => by omega, below_upd hw hu (Nat.le_refl _) ?_⟩
  intro b hb
  simp only [List.mem_cons] at hb
  rcases hb with e | e | e | e
  · exact hmc b (by simp [e])
  · exact hmc b (by simp [e])
  · exact hmc b (by simp [e])
  · exact hF b e
theorem AloneAt.short {α : Type} {w0 w : World} {m c t pb po : Nat} {ty : TypeId} {r : Res MemS α} {val : α → Value} {p0 : Res MemS α} {μ0 : MemS} {told0 : List Int} {s : TrS} {F : List Nat} {cs : Array Value} {k n : Nat}
    (h : AloneAt w0 m c t pb po ty r val p0 μ0 told0 cs k w s F) (hn : told0.length + k < n) : s.told.length < n := by
  rw [h.told, List.length_append]
  have := aloneTold_le p0 μ0 k
  omega

/-- Beside the task somebody else may use the memory. -/
theorem Put.mem {α : Type} {w w' : World} {m c t pb po : Nat} {ty : TypeId} {r : Res MemS α} {val : α → Value} {μ μ' : MemS} {s : TrS} {F G : List Nat} {cs : Array Value} {cur : Res MemS α}
    (h : Put w m c t pb po ty r val μ s F cs cur) (hm : MemAt w' m c μ') (hu : Upd G w w') (hG : ∀ b ∈ G, b = m ∨ b = c) : Put w' m c t pb po ty r val μ' s F cs cur := by
  obtain ⟨ht, hb, hfar, hat, hov, hcell, hdone⟩ := h
  refine ⟨⟨hm, ht.tr.upd hu fun b hb hin => ?_, ht.hm, ht.hc⟩, hb.upd hu fun hin => ?_, hfar, hat, hov, hcell, hdone⟩
  · rcases hG b hin with rfl | rfl
    · exact ht.hm hb
    · exact ht.hc hb
  · rcases hG pb hin with rfl | rfl <;> exact hfar (by simp)
theorem Put.below {α : Type} {w w' : World} {m c t pb po : Nat} {ty : TypeId} {r : Res MemS α} {val : α → Value} {μ : MemS} {s : TrS} {F : List Nat} {cs : Array Value} {cur : Res MemS α}
    (h : Put w m c t pb po ty r val μ s F cs cur) (hb : Below w.heap.size w w') : Put w' m c t pb po ty r val μ s F cs cur :=
  h.mem (G := []) (h.tm.mem.below hb h.tm.mem.1.lt h.tm.mem.2.1.lt) (Upd.of_below hb) (by simp)
end Go.Proofs.Ytldccemgfjmcdaa
