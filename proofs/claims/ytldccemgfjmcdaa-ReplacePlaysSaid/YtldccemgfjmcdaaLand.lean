/- Tasks on a land: a memory with a trail on it, and an arena that is told of the accesses. What a call by a trail does, and what one step does. -/
import Derived.Test.YtldccemgfjmcdaaStep
import Derived.Test.YtldccemgfjmcdaaArena
namespace Go.Proofs.Ytldccemgfjmcdaa
open Go.RowKit

/-- A land's cells, and its witness. -/
structure LandS where
  mu : MemS
  ar : ArS
/-- Where they lie: the memory's struct and cells, the trail, the arena's struct and slots. -/
structure Pl where
  m : Nat
  c : Nat
  t : Nat
  a : Nat
  b : Nat
def Pl.all (p : Pl) (F : List Nat) : List Nat := p.m :: p.c :: p.a :: p.b :: F

/-- Numbers that an int64 can be. -/
def WfI (x : Int) : Prop := (Lit.int .i64 x).wf = true
def WfM (μ : MemS) : Prop := ∀ x ∈ μ.cells, WfI x
theorem WfI.zero : WfI 0 := rfl
theorem WfI.bounds {x : Int} (h : WfI x) : -9223372036854775808 ≤ x ∧ x ≤ 9223372036854775807 := bounds_i64 h
theorem WfI.of {x : Int} (h : -9223372036854775808 ≤ x ∧ x ≤ 9223372036854775807) : WfI x := WalkArith.wf_i64 h
theorem WfI.wrap (x : Int) : WfI (wrap64 x) := by
  refine WfI.of ?_
  unfold wrap64
  omega
section
variable {σ β γ : Type} {W : σ → Prop}
/-- A task all of whose accesses keep what may be in cells, and tell no others. -/
def Res.Good (W : σ → Prop) : Res σ β → Prop
  | .ret _ => True
  | .acc d k => (∀ x, W x → WfI (d x).1 ∧ W (d x).2.2) ∧ ∀ v, WfI v → (k v).Good W
  | .mark _ k => k.Good W
theorem acc_good {d : σ → Int × Bool × σ} {x : σ} {s : TrS} (hd : ∀ x, W x → WfI (d x).1 ∧ W (d x).2.2) (hx : W x) (ht : ∀ y ∈ s.told, WfI y) : WfI (s.acc d x).1 ∧ W (s.acc d x).2.1 ∧ ∀ y ∈ (s.acc d x).2.2.told, WfI y := by
  have h1 := (hd x hx).1
  have h2 := (hd x hx).2
  unfold TrS.acc
  split
  · exact ⟨WfI.zero, hx, ht⟩
  · split
    · rename_i hlt
      refine ⟨ht _ ?_, hx, ht⟩
      simp only [List.getD_eq_getElem?_getD, List.getElem?_eq_getElem hlt, Option.getD_some]
      exact List.getElem_mem _
    · split
      · exact ⟨WfI.zero, hx, ht⟩
      · split
        · exact ⟨WfI.zero, h2, ht⟩
        · refine ⟨h1, h2, fun y hy => ?_⟩
          rcases List.mem_append.1 hy with hy | hy
          · exact ht y hy
          · simp only [List.mem_singleton] at hy
            exact hy ▸ h1
theorem run_good {r : Res σ β} (hG : r.Good W) : ∀ {x : σ} {s : TrS}, W x → (∀ y ∈ s.told, WfI y) → W (r.run x s).2.1 ∧ ∀ y ∈ (r.run x s).2.2.told, WfI y := by
  induction r with
  | ret a => intro x s hx ht; exact ⟨hx, ht⟩
  | acc d k ih =>
    intro x s hx ht
    obtain ⟨h1, h2, h3⟩ := acc_good hG.1 hx ht
    exact ih _ (hG.2 _ h1) h2 h3
  | mark kd k ih =>
    intro x s hx ht
    refine ih hG hx ?_
    unfold TrS.mark
    split <;> exact ht
theorem Sim.good {r : Res σ β} {x x' : σ} {s s' : TrS} {v : β} (h : Sim (r.run x s) (v, x', s')) (hG : r.Good W) (hx : W x) (ht : ∀ y ∈ s.told, WfI y) : W x' ∧ ∀ y ∈ s'.told, WfI y := by
  obtain ⟨h1, h2⟩ := run_good hG hx ht
  have e := h.mem
  simp only at e
  rw [e]
  refine ⟨h1, ?_⟩
  rcases h.tr with ⟨-, e, -⟩ | ⟨-, b, e⟩ <;> simp only at e <;> rw [e] <;> exact h2
theorem Good.bind {r : Res σ β} {f : β → Res σ γ} (h : r.Good W) (hf : ∀ v, (f v).Good W) : (r.bind f).Good W := by
  induction r with
  | ret a => exact hf a
  | acc d k ih => exact ⟨h.1, fun v hv => ih v (h.2 v hv)⟩
  | mark kd k ih => exact ih h
end
def WfL (σ : LandS) : Prop := WfM σ.mu

structure TL (w : World) (p : Pl) (σ : LandS) (s : TrS) (F : List Nat) : Prop where
  tm : TM w p.m p.c p.t σ.mu s F
  ar : ArAt w p.a p.b σ.ar
  ha : p.a ∉ p.m :: p.c :: F
  hb : p.b ∉ p.m :: p.c :: F
  wm : WfM σ.mu
  wt : ∀ x ∈ s.told, WfI x
def TLs (w w' : World) (p : Pl) (σ : LandS) (s : TrS) (F : List Nat) : Prop :=
  ∃ F', TL w' p σ s F' ∧ (∀ b ∈ F', b ∈ F ∨ w.heap.size ≤ b) ∧ Upd (p.all F) w w'

section
variable {w w' : World} {p : Pl} {σ : LandS} {s : TrS} {F G : List Nat}
theorem TL.lt (h : TL w p σ s F) : ∀ b ∈ p.all F, b < w.heap.size := by
  intro b hb
  simp only [Pl.all, List.mem_cons] at hb
  rcases hb with rfl | rfl | rfl | rfl | hb
  · exact h.tm.lt _ (by simp)
  · exact h.tm.lt _ (by simp)
  · exact h.ar.top.lt
  · exact h.ar.row.lt
  · exact h.tm.lt _ (by simp [hb])
theorem TL.upd (h : TL w p σ s F) (hu : Upd G w w') (hG : ∀ b ∈ p.all F, b ∉ G) : TL w' p σ s F :=
  ⟨h.tm.upd hu (hG _ (by simp [Pl.all])) (hG _ (by simp [Pl.all])) (fun b hb => hG b (by simp [Pl.all, hb])), h.ar.upd hu (hG _ (by simp [Pl.all])) (hG _ (by simp [Pl.all])), h.ha, h.hb, h.wm, h.wt⟩
theorem TL.thru (h : TL w p σ s F) (hb : Below w.heap.size w w') : TL w' p σ s F := h.upd (Upd.of_below hb (F := [])) (by simp)
theorem TL.drewN (h : TL w p σ s F) (n : Nat) : TL (w.drewN n) p σ s F := ⟨h.tm.drewN n, h.ar.drewN n, h.ha, h.hb, h.wm, h.wt⟩
theorem TL.alloc (h : TL w p σ s F) (o : Obj) : TL (w.alloc o) p σ s F := ⟨h.tm.alloc o, h.ar.alloc o, h.ha, h.hb, h.wm, h.wt⟩
theorem TL.t_ne (h : TL w p σ s F) : p.a ≠ p.t ∧ p.b ≠ p.t := by
  have := h.tm.tF
  have h1 := h.ha
  have h2 := h.hb
  simp only [List.mem_cons, not_or] at h1 h2
  exact ⟨fun e => h1.2.2 (e ▸ this), fun e => h2.2.2 (e ▸ this)⟩
theorem TLs.refl (h : TL w p σ s F) : TLs w w p σ s F := ⟨F, h, fun _ hb => .inl hb, Upd.refl _ _⟩
/-- What the memory's side did leaves the arena. -/
theorem TLs.of_tm {μ' : MemS} {s' : TrS} (h : TL w p σ s F) (ht : TMs w w' p.m p.c p.t μ' s' F) (hw : WfM μ') (hs : ∀ x ∈ s'.told, WfI x) : TLs w w' p ⟨μ', σ.ar⟩ s' F := by
  obtain ⟨F', h', hF, hu⟩ := ht
  have hall : Upd (p.all F) w w' := hu.mono (by intro b hb; simp only [Pl.all, List.mem_cons] at hb ⊢; rcases hb with h | h | h <;> simp [h])
  refine ⟨F', ⟨h', h.ar.upd hu h.ha h.hb, ?_, ?_, hw, hs⟩, hF, hall⟩
  · have h1 := h.ha
    have h2 := h.ar.top.lt
    simp only [List.mem_cons, not_or] at h1 ⊢
    exact ⟨h1.1, h1.2.1, fun hin => (hF _ hin).elim h1.2.2 (fun h => by omega)⟩
  · have h1 := h.hb
    have h2 := h.ar.row.lt
    simp only [List.mem_cons, not_or] at h1 ⊢
    exact ⟨h1.1, h1.2.1, fun hin => (hF _ hin).elim h1.2.2 (fun h => by omega)⟩
/-- What the arena's side did leaves the memory. -/
theorem TL.with_ar {α' : ArS} (h : TL w p σ s F) (ha : ArAt w' p.a p.b α') (hu : Upd [p.a, p.b] w w') : TL w' p ⟨σ.mu, α'⟩ s F := by
  have h1 := h.ha
  have h2 := h.hb
  simp only [List.mem_cons, not_or] at h1 h2
  refine ⟨h.tm.upd hu ?_ ?_ ?_, ha, h.ha, h.hb, h.wm, h.wt⟩
  · simp only [List.mem_cons, List.not_mem_nil, or_false, not_or]; exact ⟨fun e => h1.1 e.symm, fun e => h2.1 e.symm⟩
  · simp only [List.mem_cons, List.not_mem_nil, or_false, not_or]; exact ⟨fun e => h1.2.1 e.symm, fun e => h2.2.1 e.symm⟩
  · intro b hb hb2
    simp only [List.mem_cons, List.not_mem_nil, or_false] at hb2
    rcases hb2 with rfl | rfl
    · exact h1.2.2 hb
    · exact h2.2.2 hb
theorem TLs.trans {w'' : World} {σ'' : LandS} {s'' : TrS} {F' : List Nat} (hF : ∀ b ∈ F', b ∈ F ∨ w.heap.size ≤ b) (hu : Upd (p.all F) w w') (h2 : TLs w' w'' p σ'' s'' F') : TLs w w'' p σ'' s'' F := by
  obtain ⟨F2, ht, hF2, hu2⟩ := h2
  refine ⟨F2, ht, fun b hb => ?_, hu.trans_new hu2 fun b hb => ?_⟩
  · rcases hF2 b hb with h | h
    · exact hF b h
    · exact .inr (Nat.le_trans hu.size h)
  · simp only [Pl.all, List.mem_cons] at hb ⊢
    rcases hb with rfl | rfl | rfl | rfl | hb
    · simp
    · simp
    · simp
    · simp
    · rcases hF b hb with h | h
      · simp [h]
      · exact .inr h
end

/-- What a call by a trail does: it is as the task r, run on what the trail is at; R: how its answer reads. -/
def DoesL {β : Type} (R : World → β → Value → Prop) (w : World) (p : Pl) (σ : LandS) (s : TrS) (F : List Nat) (r : Res LandS β) (e : Ending) (w' : World) : Prop :=
  ∃ v x σ' s', e = .returned x ∧ R w' v x ∧ Sim (r.run σ s) (v, σ', s') ∧ TLs w w' p σ' s' F
/-- An answer that is a value of its own. -/
def Val {β : Type} (f : β → Value) : World → β → Value → Prop := fun _ v x => x = f v

/-- Where a task is that began in the world w0, on the blocks F0. -/
structure AtL (w0 w : World) (p : Pl) (σ : LandS) (s : TrS) (F0 F : List Nat) (n : Nat) : Prop where
  tl : TL w p σ s F
  sub : ∀ b ∈ F, b ∈ F0 ∨ w0.heap.size ≤ b
  upd : Upd (p.all F0) w0 w
  inn : s.In n
  over : s.over = false

section
variable {w0 w w' : World} {p : Pl} {σ σ' : LandS} {s s' : TrS} {F0 F : List Nat} {n : Nat}
theorem AtL.first (h : TL w p σ s F) (hi : s.In n) (ho : s.over = false) : AtL w w p σ s F F n := ⟨h, fun _ hb => .inl hb, Upd.refl _ _, hi, ho⟩
theorem AtL.thru (a : AtL w0 w p σ s F0 F n) (hb : Below w.heap.size w w') : AtL w0 w' p σ s F0 F n := ⟨a.tl.thru hb, a.sub, a.upd.trans (Upd.of_below hb), a.inn, a.over⟩
theorem AtL.drewN (a : AtL w0 w p σ s F0 F n) (k : Nat) : AtL w0 (w.drewN k) p σ s F0 F n := ⟨a.tl.drewN k, a.sub, a.upd.drewN k, a.inn, a.over⟩
theorem AtL.ok (a : AtL w0 w p σ s F0 F n) (hn : n ≤ 1000000) : s.Ok := a.inn.ok hn
theorem AtL.step {β : Type} {r : Res LandS β} {v : β} (a : AtL w0 w p σ s F0 F n) (hs : Sim (r.run σ s) (v, σ', s')) (ht : TLs w w' p σ' s' F) : ∃ F', AtL w0 w' p σ' s' F0 F' n := by
  obtain ⟨F', ht, hF, hu⟩ := ht
  refine ⟨F', ht, fun b hb => ?_, a.upd.trans_new hu fun b hb => ?_, hs.in_ (run_in r σ s a.inn), hs.over_eq.trans ((run_over r σ s).trans a.over)⟩
  · rcases hF b hb with h | h
    · exact a.sub b h
    · exact .inr (Nat.le_trans a.upd.size h)
  · simp only [Pl.all, List.mem_cons] at hb ⊢
    rcases hb with rfl | rfl | rfl | rfl | hb
    · simp
    · simp
    · simp
    · simp
    · rcases a.sub b hb with h | h
      · simp [h]
      · exact .inr h
theorem AtL.does {β : Type} {R : World → β → Value → Prop} {r : Res LandS β} {e : Ending} (a : AtL w0 w p σ s F0 F n) (h : DoesL R w p σ s F r e w') :
    ∃ v x σ' s' F', e = .returned x ∧ R w' v x ∧ Sim (r.run σ s) (v, σ', s') ∧ AtL w0 w' p σ' s' F0 F' n := by
  obtain ⟨v, x, σ', s', he, hR, hs, ht⟩ := h
  obtain ⟨F', a'⟩ := a.step hs ht
  exact ⟨v, x, σ', s', F', he, hR, hs, a'⟩
theorem AtL.tls (a : AtL w0 w p σ s F0 F n) : TLs w0 w p σ s F0 := ⟨F, a.tl, a.sub, a.upd⟩
end

/-! ### A memory's task, on a land -/
def liftD (d : MemS → Int × Bool × MemS) : LandS → Int × Bool × LandS := fun σ => ((d σ.mu).1, (d σ.mu).2.1, ⟨(d σ.mu).2.2, σ.ar⟩)
/-- .. which the arena is told of, when it is fresh. -/
def tellD (d : MemS → Int × Bool × MemS) (f : ArS → ArS) : LandS → Int × Bool × LandS := fun σ => ((d σ.mu).1, (d σ.mu).2.1, ⟨(d σ.mu).2.2, f σ.ar⟩)
theorem acc_tell (d : MemS → Int × Bool × MemS) (f : ArS → ArS) (σ : LandS) (s : TrS) :
    s.acc (tellD d f) σ = ((s.acc d σ.mu).1, ⟨(s.acc d σ.mu).2.1, if (s.acc d σ.mu).2.2.fresh = true then f σ.ar else σ.ar⟩, (s.acc d σ.mu).2.2) := by
  unfold TrS.acc tellD
  by_cases h1 : s.dry = true
  · simp [h1]
  · by_cases h2 : s.at_ < s.told.length
    · simp [h1, h2]
    · by_cases h3 : s.done = true
      · simp [h1, h2, h3]
      · by_cases h4 : (d σ.mu).2.1 = false
        · simp [h1, h2, h3, h4]
        · simp [h1, h2, h3, h4]
theorem acc_lift (d : MemS → Int × Bool × MemS) (σ : LandS) (s : TrS) : s.acc (liftD d) σ = ((s.acc d σ.mu).1, ⟨(s.acc d σ.mu).2.1, σ.ar⟩, (s.acc d σ.mu).2.2) := by
  rw [show liftD d = tellD d id from rfl, acc_tell]
  simp
def Res.lift {β : Type} : Res MemS β → Res LandS β
  | .ret a => .ret a
  | .acc d k => .acc (liftD d) fun v => (k v).lift
  | .mark kd k => .mark kd k.lift
theorem lift_run {β : Type} (r : Res MemS β) : ∀ (σ : LandS) (s : TrS), r.lift.run σ s = ((r.run σ.mu s).1, ⟨(r.run σ.mu s).2.1, σ.ar⟩, (r.run σ.mu s).2.2) := by
  induction r with
  | ret a => intro σ s; rfl
  | acc d k ih =>
    intro σ s
    simp only [Res.lift, Res.run]
    rw [acc_lift, ih]
  | mark kd k ih => intro σ s; exact ih σ _
theorem lift_bind {β γ : Type} (r : Res MemS β) (f : β → Res MemS γ) : (r.bind f).lift = r.lift.bind fun v => (f v).lift := by
  induction r with
  | ret a => rfl
  | acc d k ih => simp only [Res.bind, Res.lift]; congr 1; funext v; exact ih v
  | mark kd k ih => simp only [Res.bind, Res.lift]; rw [ih]
theorem Sim.lift {β : Type} {r : Res MemS β} {σ : LandS} {s s' : TrS} {v : β} {μ' : MemS} (h : Sim (r.run σ.mu s) (v, μ', s')) : Sim (r.lift.run σ s) (v, ⟨μ', σ.ar⟩, s') := by
  rw [lift_run]
  refine ⟨?_, ?_⟩
  · have := h.mem
    simp only at this ⊢
    rw [this]
  · rcases h.tr with ⟨h1, h2, h3⟩ | ⟨h1, b, h2⟩
    · exact .inl ⟨h1, h2, h3⟩
    · exact .inr ⟨h1, b, h2⟩
theorem DoesL.lift {β : Type} {r : Res MemS β} {val : β → Value} {w w' : World} {p : Pl} {σ : LandS} {s : TrS} {F : List Nat} {e : Ending} (h : TL w p σ s F) (hd : Does w p.m p.c p.t σ.mu s F r val e w') (hG : r.Good WfM) : DoesL (Val val) w p σ s F r.lift e w' := by
  obtain ⟨v, μ', s', he, hs, ht⟩ := hd
  obtain ⟨g1, g2⟩ := hs.good hG h.wm h.wt
  exact ⟨v, _, _, _, he, rfl, hs.lift, TLs.of_tm h ht g1 g2⟩

/-- One run goes on as another. -/
def GoesL {β : Type} (r : Res LandS β) (σ : LandS) (s : TrS) (r' : Res LandS β) (σ' : LandS) (s' : TrS) : Prop := ∀ o, Sim (r'.run σ' s') o → Sim (r.run σ s) o
theorem GoesL.refl {β : Type} (r : Res LandS β) (σ : LandS) (s : TrS) : GoesL r σ s r σ s := fun _ h => h
theorem GoesL.bind {β γ : Type} {r : Res LandS γ} {f : γ → Res LandS β} {σ σ1 : LandS} {s s1 : TrS} {v : γ} (h : Sim (r.run σ s) (v, σ1, s1)) : GoesL (r.bind f) σ s (f v) σ1 s1 := fun _ h2 => h.bind h2
theorem GoesL.trans {β : Type} {r r' r'' : Res LandS β} {σ σ' σ'' : LandS} {s s' s'' : TrS} (h : GoesL r σ s r' σ' s') (k : GoesL r' σ' s' r'' σ'' s'') : GoesL r σ s r'' σ'' s'' := fun o ho => h o (k o ho)
/-- Of a dry trail any task goes on as any other. -/
theorem GoesL.dry {β : Type} {r r' r'' : Res LandS β} {σ σ' : LandS} {s s' : TrS} (h : GoesL r σ s r' σ' s') (hd : s'.dry = true) : GoesL r σ s r'' σ' s' := by
  refine h.trans fun o ho => ?_
  obtain ⟨e1, b1, e2⟩ := run_dry r'' σ' s' hd
  obtain ⟨e3, b2, e4⟩ := run_dry r' σ' s' hd
  refine ⟨ho.mem.trans (e1.trans e3.symm), .inr ⟨by rw [e4]; exact hd, ?_⟩⟩
  rcases ho.tr with ⟨k1, _, _⟩ | ⟨_, b3, k3⟩
  · rw [e2] at k1
    simp [hd] at k1
  · exact ⟨b3, by rw [k3, e2, e4]⟩
/-- .. and answers what it likes. -/
theorem GoesL.end_dry {β : Type} {r r' : Res LandS β} {σ σ' : LandS} {s s' : TrS} (h : GoesL r σ s r' σ' s') (hd : s'.dry = true) (v : β) : Sim (r.run σ s) (v, σ', s') := by
  refine h (v, σ', s') ?_
  obtain ⟨e3, b2, e4⟩ := run_dry r' σ' s' hd
  exact ⟨e3.symm, .inr ⟨by rw [e4]; exact hd, s'.fresh, by rw [e4]⟩⟩
theorem GoesL.end_ret {β : Type} {r : Res LandS β} {σ σ' : LandS} {s s' : TrS} {v : β} (h : GoesL r σ s (.ret v) σ' s') : Sim (r.run σ s) (v, σ', s') := h _ (Sim.refl _)
theorem GoesL.eq {β : Type} {r r' r'' : Res LandS β} {σ σ' : LandS} {s s' : TrS} (h : GoesL r σ s r' σ' s') (e : r' = r'') : GoesL r σ s r'' σ' s' := e ▸ h

/-! ### One step -/
/-- What a task leaves that puts its answer into a block of its caller's, unless the trail is dry. -/
def TaskQL {β : Type} (w : World) (p : Pl) (σ : LandS) (s : TrS) (F : List Nat) (r : Res LandS β) (pb : Nat) (ty : TypeId) (R : World → β → Array Value → Prop) (σ2 : LandS) (s2 : TrS) (F2 : List Nat) (w2 : World) : Prop :=
  ∃ v w1, Sim (r.run σ s) (v, σ2, s2) ∧ (∀ b ∈ F2, b ∈ F ∨ w.heap.size ≤ b) ∧ Upd (p.all F) w w1 ∧ (s2.dry = true → w2 = w1) ∧ (s2.dry = false → Upd [pb] w1 w2 ∧ ∃ cs, Blk w2 pb ty cs ∧ R w2 v cs)
def TaskPostL (Q : LandS → TrS → List Nat → World → Prop) (p : Pl) (e : Ending) (w2 : World) : Prop :=
  e = .returned (.tuple #[]) ∧ ∃ σ2 s2 F2, TL w2 p σ2 s2 F2 ∧ Q σ2 s2 F2 w2
theorem AtL.ends_dry {β : Type} {w0 w : World} {p : Pl} {σ σ2 : LandS} {s s2 : TrS} {F F2 : List Nat} {n : Nat} {r : Res LandS β} {pb : Nat} {ty : TypeId} {R : World → β → Array Value → Prop} {v : β} (a : AtL w0 w p σ2 s2 F F2 n) (hs : Sim (r.run σ s) (v, σ2, s2)) (hd : s2.dry = true) :
    TaskPostL (TaskQL w0 p σ s F r pb ty R) p (.returned (.tuple #[])) w :=
  ⟨rfl, σ2, s2, F2, a.tl, v, w, hs, a.sub, a.upd, fun _ => rfl, fun h => by rw [hd] at h; cases h⟩
theorem AtL.pb_not {w0 w : World} {p : Pl} {σ2 : LandS} {s2 : TrS} {F F2 : List Nat} {n pb : Nat} (a : AtL w0 w p σ2 s2 F F2 n) (hp : pb ∉ p.all F) (hp0 : pb < w0.heap.size) : pb ∉ p.all F2 := by
  intro hin
  simp only [Pl.all, List.mem_cons, not_or] at hin hp
  obtain ⟨h1, h2, h3, h4, h5⟩ := hp
  rcases hin with e | e | e | e | e
  · exact h1 e
  · exact h2 e
  · exact h3 e
  · exact h4 e
  · rcases a.sub _ e with h | h
    · exact h5 h
    · omega
theorem AtL.ends_put {β : Type} {w0 w w2 : World} {p : Pl} {σ σ2 : LandS} {s s2 : TrS} {F F2 : List Nat} {n : Nat} {r : Res LandS β} {pb : Nat} {ty : TypeId} {cs : Array Value} {R : World → β → Array Value → Prop} {v : β} (a : AtL w0 w p σ2 s2 F F2 n) (hs : Sim (r.run σ s) (v, σ2, s2)) (hd : s2.dry = false) (hp : pb ∉ p.all F) (hp0 : pb < w0.heap.size)
    (hu : Upd [pb] w w2) (hb : Blk w2 pb ty cs) (hR : R w2 v cs) : TaskPostL (TaskQL w0 p σ s F r pb ty R) p (.returned (.tuple #[])) w2 := by
  have hF2 := a.pb_not hp hp0
  exact ⟨rfl, σ2, s2, F2, a.tl.upd hu (fun b hb h => hF2 (by simp at h; exact h ▸ hb)), v, w, hs, a.sub, a.upd, (fun h => by rw [hd] at h; cases h), fun _ => ⟨hu, cs, hb, hR⟩⟩

/-- A land, a trail on it whose task r is at the place cur, and the block for the answer. -/
structure PutL {β : Type} (w : World) (p : Pl) (pb : Nat) (ty : TypeId) (r : Res LandS β) (R : World → β → Array Value → Prop) (σ : LandS) (s : TrS) (F : List Nat) (cs : Array Value) (cur : Res LandS β) : Prop where
  tl : TL w p σ s F
  blk : Blk w pb ty cs
  far : pb ∉ p.all F
  at_ : r.follow s.told = some cur
  over : s.over = true → cur.isRet = true
  done : s.over = true → ∀ v, cur = .ret v → R w v cs
/-- An answer that lies apart from the trail's struct stays. -/
def Apart {β : Type} (t : Nat) (R : World → β → Array Value → Prop) : Prop := ∀ w w' v cs u, Blk w t 144 u → R w v cs → Upd [t] w w' → R w' v cs

def PutStepL {β : Type} (w : World) (p : Pl) (pb : Nat) (ty : TypeId) (r : Res LandS β) (R : World → β → Array Value → Prop) (σ : LandS) (s : TrS) (F : List Nat) (cs : Array Value) (cur : Res LandS β) (time : Int) (e : Ending) (w' : World) : Prop :=
  e = .returned (.bool (cur.step σ).1.isRet) ∧ ∃ s' F' cs', PutL w' p pb ty r R (cur.step σ).2.1 s' F' cs' (cur.step σ).1 ∧ ((cur.step σ).1.isRet = false → cs' = cs) ∧ s'.over = (cur.step σ).1.isRet ∧
    s'.told = s.told ++ cur.tells σ ∧ s'.marks = s.marks ++ (cur.step σ).2.2.map (fun k => (k, time)) ∧ (∀ b ∈ F', b ∈ F ∨ w.heap.size ≤ b) ∧ Upd (pb :: p.all F) w w'

theorem putl_step {β : Type} (f : FuncId) (x : Value) (p : Pl) (pb : Nat) (ty : TypeId) (r : Res LandS β) (R : World → β → Array Value → Prop) (σ : LandS) (s : TrS) (F : List Nat) (cs : Array Value) (cur : Res LandS β) (time : Int) (w : World)
    (h : PutL w p pb ty r R σ s F cs cur) (hap : Apart p.t R)
    (hcall : ∀ w, (callFunc f #[x, .pointer (some ⟨p.t, 0, none⟩)]).run Try.prog w = .ok (.enter f #[x, .pointer (some ⟨p.t, 0, none⟩)]) w)
    (HT : ∀ w1, TL w1 p σ (s.begin time) F → Blk w1 pb ty cs → s.over = false → Upd [p.t] w w1 → Calls Try.prog f #[x, .pointer (some ⟨p.t, 0, none⟩)] w1 (TaskPostL (TaskQL w1 p σ (s.begin time) F r pb ty R) p)) :
    Calls Try.prog 54 #[.pointer (some ⟨p.t, 0, none⟩), .int .i64 time, .func (.func f) #[x] #[]] w (PutStepL w p pb ty r R σ s F cs cur time) := by
  obtain ⟨h, hb, hfar, hat, hov, hdone⟩ := h
  have htF := h.tm.tF
  have htn := h.t_ne
  have hpt : pb ≠ p.t := by
    rintro rfl
    exact hfar (by simp [Pl.all, htF])
  cases hso : s.over with
  | true =>
    replace hov := hov hso
    replace hdone := hdone hso
    refine (t_step_over _ p.m p.c p.t σ.mu s F time w h.tm hso).mono ?_
    rintro e w' ⟨rfl, rfl⟩
    cases cur with
    | acc d k => simp [Res.isRet] at hov
    | mark kd k => simp [Res.isRet] at hov
    | ret a => exact ⟨rfl, s, F, cs, ⟨h, hb, hfar, hat, fun _ => rfl, fun _ => hdone⟩, fun _ => rfl, hso, by simp [Res.tells], by simp [Res.step], fun b hb => .inl hb, Upd.refl _ _⟩
  | false =>
    refine (t_step f x (fun μ2 s2 F2 w2 => ∃ α2 w1, TL w2 p ⟨μ2, α2⟩ s2 F2 ∧ Upd [p.t] w w1 ∧ TaskQL w1 p σ (s.begin time) F r pb ty R ⟨μ2, α2⟩ s2 F2 w2) p.m p.c p.t σ.mu s F time w h.tm hso hcall (Lib.hid fun w1 h1 hu1 => ?_)).mono ?_
    · have hl1 : TL w1 p σ (s.begin time) F := ⟨h1, h.ar.upd hu1 (by simp [htn.1]) (by simp [htn.2]), h.ha, h.hb, h.wm, h.wt⟩
      refine (HT w1 hl1 (hb.upd hu1 (by simp [hpt])) hso hu1).mono ?_
      rintro e w2 ⟨he, σ2, s2, F2, h2, hq⟩
      exact ⟨he, σ2.mu, s2, F2, h2.tm, σ2.ar, w1, h2, hu1, hq⟩
    · rintro e w' ⟨μ2, s2, F2, w2, ⟨α2, w1, hl2, hu1, v, w1', hsim, hF2, hu2, hdry, hput⟩, rfl, h2, hu3⟩
      have hst := Sim.step hat hsim
      have hF2' : ∀ b ∈ F2, b ∈ F ∨ w.heap.size ≤ b := fun b hb => (hF2 b hb).imp id fun h => Nat.le_trans hu1.size h
      have hb1 : Blk w1' pb ty cs := (hb.upd hu1 (by simp [hpt])).upd hu2 hfar
      have hmem : ⟨μ2, α2⟩ = (cur.step σ).2.1 := hst.mem
      have hdr : s2.dry = !(cur.step σ).1.isRet := hst.dry
      have htn2 := hl2.t_ne
      have hlf : TL w' p (cur.step σ).2.1 s2.finish F2 := by
        rw [← hmem]
        exact ⟨h2, hl2.ar.upd hu3 (by simp [htn2.1]) (by simp [htn2.2]), hl2.ha, hl2.hb, hl2.wm, hl2.wt⟩
      have hk3 : Upd (pb :: p.all F) w1' w2 := by
        cases hd : s2.dry with
        | true => rw [hdry hd]; exact Upd.refl _ _
        | false => exact (hput hd).1.mono (by simp)
      have hupd : Upd (pb :: p.all F) w w' := by
        have k1 : Upd (pb :: p.all F) w w1 := hu1.mono (by simp [Pl.all, htF])
        have k2 : Upd (pb :: p.all F) w1 w1' := hu2.mono (by intro b hb; exact List.mem_cons_of_mem _ hb)
        have k4 : Upd (pb :: p.all F) w2 w' := hu3.mono (by simp [Pl.all, htF])
        exact ((k1.trans k2).trans hk3).trans k4
      have hfar2 : pb ∉ p.all F2 := by
        intro hin
        simp only [Pl.all, List.mem_cons, not_or] at hin hfar
        obtain ⟨g1, g2, g3, g4, g5⟩ := hfar
        rcases hin with e | e | e | e | e
        · exact g1 e
        · exact g2 e
        · exact g3 e
        · exact g4 e
        · rcases hF2' _ e with e | e
          · exact g5 e
          · exact absurd hb.lt (by omega)
      have hfol : r.follow s2.finish.told = some (cur.step σ).1 := by
        have := hst.place
        rw [show s2.finish.told = s.told ++ cur.tells σ from hst.told]
        exact this
      have hov2 : s2.finish.over = (cur.step σ).1.isRet := by
        show (!s2.dry) = _
        rw [hdr, Bool.not_not]
      refine ⟨by rw [hdr, Bool.not_not], s2.finish, F2, ?_⟩
      cases hd : s2.dry with
      | true =>
        rw [hdry hd] at hu3
        have hret : (cur.step σ).1.isRet = false := by rw [hd] at hdr; simpa using hdr.symm
        refine ⟨cs, ⟨hlf, hb1.upd hu3 (by simp [hpt]), hfar2, hfol, fun h => hov2.symm.trans h, fun _ a ha => by rw [ha] at hret; cases hret⟩, fun _ => rfl, hov2, hst.told, hst.marks, hF2', hupd⟩
      | false =>
        obtain ⟨hup, cs', hbp, hRp⟩ := hput hd
        have hret : (cur.step σ).1.isRet = true := by rw [hd] at hdr; simpa using hdr.symm
        obtain ⟨tA, tcap, mA, mcap, hblk, -⟩ := hl2.tm.blk
        refine ⟨cs', ⟨hlf, hbp.upd hu3 (by simp [hpt]), hfar2, hfol, fun h => hov2.symm.trans h, fun _ a ha => ?_⟩, (fun h => by rw [hret] at h; cases h), hov2, hst.told, hst.marks, hF2', hupd⟩
        have := hst.answer a ha
        simp only at this
        subst this
        exact hap w2 w' v cs' _ hblk hRp hu3
end Go.Proofs.Ytldccemgfjmcdaa
