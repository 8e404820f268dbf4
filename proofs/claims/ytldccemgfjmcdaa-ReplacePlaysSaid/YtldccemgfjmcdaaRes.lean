/- Tasks that go on access by access, plainly: what a trail remembers, what an access is told, what a step does to a task that is at a place. No program is named here. -/
import GoSem.Core.World
namespace Go.Proofs.Ytldccemgfjmcdaa

/-- What a trail remembers, and where it is. -/
structure TrS where
  told : List Int
  at_ : Nat
  done : Bool
  dry : Bool
  fresh : Bool
  over : Bool
  time : Int
  marks : List (Int × Int)

/-- An access. 'd': what is done: a value, whether it ends, what is behind it. -/
def TrS.acc {σ : Type} (d : σ → Int × Bool × σ) (μ : σ) (s : TrS) : Int × σ × TrS :=
  if s.dry = true then (0, μ, { s with fresh := false })
  else if s.at_ < s.told.length then (s.told.getD s.at_ 0, μ, { s with fresh := false, at_ := s.at_ + 1 })
  else if s.done = true then (0, μ, { s with fresh := false, dry := true })
  else if (d μ).2.1 = false then (0, (d μ).2.2, { s with done := true, fresh := true, dry := true })
  else ((d μ).1, (d μ).2.2, { s with done := true, fresh := true, told := s.told ++ [(d μ).1], at_ := s.at_ + 1 })

def TrS.mark (kind : Int) (s : TrS) : TrS := if s.fresh = true ∧ s.dry = false then { s with marks := s.marks ++ [(kind, s.time)] } else s
def TrS.begin (s : TrS) (time : Int) : TrS := { s with at_ := 0, done := false, dry := false, fresh := false, time := time }
def TrS.finish (s : TrS) : TrS := { s with over := !s.dry, fresh := false, dry := true }
def TrS.new : TrS := ⟨[], 0, false, true, false, false, 0, []⟩

section
variable {σ : Type}
theorem acc_dry (d : σ → Int × Bool × σ) (μ : σ) (s : TrS) (h : s.dry = true) : s.acc d μ = (0, μ, { s with fresh := false }) := by unfold TrS.acc; rw [if_pos h]
theorem acc_told (d : σ → Int × Bool × σ) (μ : σ) (s : TrS) (h : s.dry = false) (h2 : s.at_ < s.told.length) : s.acc d μ = (s.told.getD s.at_ 0, μ, { s with fresh := false, at_ := s.at_ + 1 }) := by
  unfold TrS.acc; rw [if_neg (by simp [h]), if_pos h2]
theorem acc_done (d : σ → Int × Bool × σ) (μ : σ) (s : TrS) (h : s.dry = false) (h2 : ¬ s.at_ < s.told.length) (h3 : s.done = true) : s.acc d μ = (0, μ, { s with fresh := false, dry := true }) := by
  unfold TrS.acc; rw [if_neg (by simp [h]), if_neg h2, if_pos h3]
theorem acc_wait (d : σ → Int × Bool × σ) (μ : σ) (s : TrS) (h : s.dry = false) (h2 : ¬ s.at_ < s.told.length) (h3 : s.done = false) (h4 : (d μ).2.1 = false) : s.acc d μ = (0, (d μ).2.2, { s with done := true, fresh := true, dry := true }) := by
  unfold TrS.acc; rw [if_neg (by simp [h]), if_neg h2, if_neg (by simp [h3]), if_pos h4]
theorem acc_new (d : σ → Int × Bool × σ) (μ : σ) (s : TrS) (h : s.dry = false) (h2 : ¬ s.at_ < s.told.length) (h3 : s.done = false) (h4 : (d μ).2.1 = true) :
    s.acc d μ = ((d μ).1, (d μ).2.2, { s with done := true, fresh := true, told := s.told ++ [(d μ).1], at_ := s.at_ + 1 }) := by
  unfold TrS.acc; rw [if_neg (by simp [h]), if_neg h2, if_neg (by simp [h3]), if_neg (by simp [h4])]
end

/-- Told again is no more than is remembered; and at most n are remembered behind this step. -/
structure TrS.In (s : TrS) (n : Nat) : Prop where
  le : s.at_ ≤ s.told.length
  len : s.told.length + (bif s.done then 0 else 1) ≤ n

theorem TrS.In.acc {σ : Type} {s : TrS} {n : Nat} (h : s.In n) (d : σ → Int × Bool × σ) (μ : σ) : (s.acc d μ).2.2.In n := by
  obtain ⟨h1, h2⟩ := h
  cases hd : s.dry with
  | true => rw [acc_dry d μ s hd]; exact ⟨h1, h2⟩
  | false =>
    by_cases hat : s.at_ < s.told.length
    · rw [acc_told d μ s hd hat]; exact ⟨hat, h2⟩
    · cases hdn : s.done with
      | true => rw [acc_done d μ s hd hat hdn]; exact ⟨h1, h2⟩
      | false =>
        rw [hdn] at h2
        simp only [cond_false] at h2
        cases he : (d μ).2.1 with
        | false => rw [acc_wait d μ s hd hat hdn he]; exact ⟨h1, by simp only [cond_true]; omega⟩
        | true => rw [acc_new d μ s hd hat hdn he]; exact ⟨by simp only [List.length_append, List.length_singleton]; omega, by simp only [cond_true, List.length_append, List.length_singleton]; omega⟩
theorem TrS.In.fresh {s : TrS} {n : Nat} (h : s.In n) (b : Bool) : ({ s with fresh := b } : TrS).In n := ⟨h.le, h.len⟩
theorem TrS.In.mark {s : TrS} {n : Nat} (h : s.In n) (k : Int) : (s.mark k).In n := by unfold TrS.mark; split <;> exact ⟨h.le, h.len⟩
theorem acc_over {σ : Type} (s : TrS) (d : σ → Int × Bool × σ) (μ : σ) : (s.acc d μ).2.2.over = s.over := by
  unfold TrS.acc
  split
  · rfl
  · split
    · rfl
    · split
      · rfl
      · split <;> rfl
theorem mark_over (s : TrS) (k : Int) : (s.mark k).over = s.over := by unfold TrS.mark; split <;> rfl
theorem mark_dry (s : TrS) (k : Int) : (s.mark k).dry = s.dry := by unfold TrS.mark; split <;> rfl

/-! ### Tasks -/
inductive Res (σ α : Type) where
  | ret (a : α) : Res σ α
  | acc (d : σ → Int × Bool × σ) (k : Int → Res σ α) : Res σ α
  | mark (kind : Int) (k : Res σ α) : Res σ α

section
variable {σ α β : Type}
/-- The task, run on a trail. -/
def Res.run : Res σ α → σ → TrS → α × σ × TrS
  | .ret a, μ, s => (a, μ, s)
  | .acc d k, μ, s => (k (s.acc d μ).1).run (s.acc d μ).2.1 (s.acc d μ).2.2
  | .mark kind k, μ, s => k.run μ (s.mark kind)
def Res.bind : Res σ α → (α → Res σ β) → Res σ β
  | .ret a, f => f a
  | .acc d k, f => .acc d fun v => (k v).bind f
  | .mark kind k, f => .mark kind (k.bind f)
/-- The marks that come first, and what is behind them. -/
def Res.kinds : Res σ α → List Int
  | .mark kind k => kind :: k.kinds
  | _ => []
def Res.next : Res σ α → Res σ α
  | .mark _ k => k.next
  | r => r
def Res.isRet : Res σ α → Bool
  | .ret _ => true
  | _ => false
/-- Is it at an access, or over? -/
def Res.ahead : Res σ α → Bool
  | .mark _ _ => false
  | _ => true
/-- The place behind so many answers; none: it was over before. -/
def Res.follow : Res σ α → List Int → Option (Res σ α)
  | .mark _ k, l => k.follow l
  | .ret a, [] => some (.ret a)
  | .ret _, _ :: _ => none
  | .acc d k, [] => some (.acc d k)
  | .acc _ k, v :: l => (k v).follow l
/-- A step of a task that is at a place: the place behind it, what is behind it, the marks that it leaves. -/
def Res.step : Res σ α → σ → Res σ α × σ × List Int
  | .acc d k, μ => if (d μ).2.1 = true then ((k (d μ).1).next, (d μ).2.2, (k (d μ).1).kinds) else (.acc d k, (d μ).2.2, [])
  | r, μ => (r, μ, [])
/-- What a step remembers. -/
def Res.tells : Res σ α → σ → List Int
  | .acc d _, μ => if (d μ).2.1 = true then [(d μ).1] else []
  | _, _ => []

theorem run_bind (r : Res σ α) (f : α → Res σ β) : ∀ (μ : σ) (s : TrS), (r.bind f).run μ s = (f (r.run μ s).1).run (r.run μ s).2.1 (r.run μ s).2.2 := by
  induction r with
  | ret a => intro μ s; rfl
  | acc d k ih => intro μ s; exact ih _ _ _
  | mark kind k ih => intro μ s; exact ih _ _
theorem run_over (r : Res σ α) : ∀ (μ : σ) (s : TrS), (r.run μ s).2.2.over = s.over := by
  induction r with
  | ret a => intro μ s; rfl
  | acc d k ih => intro μ s; exact (ih _ _ _).trans (acc_over s d μ)
  | mark kind k ih => intro μ s; exact (ih _ _).trans (mark_over s kind)
theorem run_in (r : Res σ α) {n : Nat} : ∀ (μ : σ) (s : TrS), s.In n → (r.run μ s).2.2.In n := by
  induction r with
  | ret a => intro μ s h; exact h
  | acc d k ih => intro μ s h; exact ih _ _ _ (h.acc d μ)
  | mark kind k ih => intro μ s h; exact ih _ _ (h.mark kind)
/-- A dry trail's task does nothing any more. -/
theorem run_dry (r : Res σ α) : ∀ (μ : σ) (s : TrS), s.dry = true → (r.run μ s).2.1 = μ ∧ ∃ b, (r.run μ s).2.2 = { s with fresh := b } := by
  induction r with
  | ret a => intro μ s h; exact ⟨rfl, s.fresh, rfl⟩
  | acc d k ih =>
    intro μ s h
    simp only [Res.run]
    rw [acc_dry d μ s h]
    exact ih 0 μ { s with fresh := false } h
  | mark kind k ih =>
    intro μ s h
    simp only [Res.run]
    have e : s.mark kind = s := by unfold TrS.mark; rw [if_neg (by simp [h])]
    rw [e]
    exact ih μ s h

/-- One run is as another, for whoever looks at it: the trail's flag of freshness may differ where it is dry, and so may the answer. -/
structure Sim (q o : α × σ × TrS) : Prop where
  mem : o.2.1 = q.2.1
  tr : (q.2.2.dry = false ∧ o.2.2 = q.2.2 ∧ o.1 = q.1) ∨ (q.2.2.dry = true ∧ ∃ b, o.2.2 = { q.2.2 with fresh := b })

theorem Sim.refl (q : α × σ × TrS) : Sim q q := by
  refine ⟨rfl, ?_⟩
  cases h : q.2.2.dry with
  | false => exact .inl ⟨rfl, rfl, rfl⟩
  | true => exact .inr ⟨rfl, q.2.2.fresh, rfl⟩
theorem Sim.dry_eq {q o : α × σ × TrS} (h : Sim q o) : o.2.2.dry = q.2.2.dry := by
  rcases h.tr with ⟨_, h, _⟩ | ⟨h1, b, h⟩ <;> rw [h]
theorem Sim.over_eq {q o : α × σ × TrS} (h : Sim q o) : o.2.2.over = q.2.2.over := by
  rcases h.tr with ⟨_, h, _⟩ | ⟨h1, b, h⟩ <;> rw [h]
theorem Sim.in_ {q o : α × σ × TrS} (h : Sim q o) {n : Nat} (hq : q.2.2.In n) : o.2.2.In n := by
  rcases h.tr with ⟨_, h, _⟩ | ⟨h1, b, h⟩ <;> rw [h]
  · exact hq
  · exact hq.fresh b
/-- The flag alone makes no odds to a dry run. -/
theorem Sim.of_dry (r : Res σ β) {a : α} {μ : σ} {s : TrS} {v : β} {f : α → Res σ β} (hd : s.dry = true) (b : Bool) (o : β × σ × TrS) (h : Sim (r.run μ { s with fresh := b }) o) : Sim ((f a).run μ s) (v, o.2.1, o.2.2) := by
  obtain ⟨e1, b1, e2⟩ := run_dry (f a) μ s hd
  obtain ⟨e3, b2, e4⟩ := run_dry r μ { s with fresh := b } hd
  refine ⟨?_, .inr ⟨by rw [e2]; exact hd, ?_⟩⟩
  · rw [e1]
    exact h.mem.trans e3
  · rcases h.tr with ⟨h1, _, _⟩ | ⟨_, b3, h3⟩
    · rw [e4] at h1
      simp [hd] at h1
    · exact ⟨b3, by rw [h3, e4, e2]⟩
theorem Sim.bind {r : Res σ α} {f : α → Res σ β} {μ μ1 : σ} {s s1 : TrS} {v : α} {o : β × σ × TrS} (h1 : Sim (r.run μ s) (v, μ1, s1)) (h2 : Sim ((f v).run μ1 s1) o) : Sim ((r.bind f).run μ s) o := by
  rw [run_bind]
  obtain ⟨hm, ht⟩ := h1
  simp only at hm ht
  subst hm
  rcases ht with ⟨_, rfl, rfl⟩ | ⟨hd, b, rfl⟩
  · exact h2
  · exact Sim.of_dry (f v) (f := f) hd b o h2
/-- Another answer, of a trail that is dry. -/
theorem Sim.answer {q : α × σ × TrS} {v v' : α} {μ : σ} {s : TrS} (h : Sim q (v, μ, s)) (hv : s.dry = false → v' = v) : Sim q (v', μ, s) := by
  refine ⟨h.mem, ?_⟩
  rcases h.tr with ⟨h1, h2, h3⟩ | h
  · exact .inl ⟨h1, h2, (hv (by have := h.dry_eq; simp only at this; rw [this]; exact h1)).trans h3⟩
  · exact .inr h
end

/-! ### A step -/
section
variable {σ α β : Type}
theorem follow_append (r : Res σ α) : ∀ l l' : List Int, r.follow (l ++ l') = (r.follow l).bind fun c => c.follow l' := by
  induction r with
  | ret a =>
    intro l l'
    cases l with
    | nil => simp [Res.follow]
    | cons v l => simp [Res.follow]
  | acc d k ih =>
    intro l l'
    cases l with
    | nil => simp [Res.follow]
    | cons v l => simp only [List.cons_append, Res.follow]; exact ih v l l'
  | mark kind k ih => intro l l'; simp only [Res.follow]; exact ih l l'
theorem follow_nil (r : Res σ α) : r.follow [] = some r.next := by
  induction r with
  | ret a => rfl
  | acc d k ih => rfl
  | mark kind k ih => simpa [Res.follow, Res.next] using ih
theorem next_ahead (r : Res σ α) : r.next.ahead = true := by
  induction r with
  | ret a => rfl
  | acc d k ih => rfl
  | mark kind k ih => simpa [Res.next] using ih
theorem follow_ahead (r : Res σ α) : ∀ (l : List Int) (c : Res σ α), r.follow l = some c → c.ahead = true := by
  induction r with
  | ret a =>
    intro l c h
    cases l with
    | nil => simp [Res.follow] at h; subst h; rfl
    | cons v l => simp [Res.follow] at h
  | acc d k ih =>
    intro l c h
    cases l with
    | nil => simp [Res.follow] at h; subst h; rfl
    | cons v l => exact ih v l c h
  | mark kind k ih => intro l c h; exact ih l c h

/-- Told again. -/
theorem run_follow (r : Res σ α) (μ : σ) : ∀ (s : TrS) (c : Res σ α), s.dry = false → s.fresh = false → s.at_ ≤ s.told.length → r.follow (s.told.drop s.at_) = some c → r.run μ s = c.run μ { s with at_ := s.told.length } := by
  induction r with
  | ret a =>
    intro s c hd hf hle h
    rcases Nat.lt_or_ge s.at_ s.told.length with hlt | hge
    · rw [List.drop_eq_getElem_cons hlt] at h
      simp [Res.follow] at h
    · rw [List.drop_of_length_le hge] at h
      simp [Res.follow] at h
      subst h
      have e : s.told.length = s.at_ := by omega
      rw [e]
  | acc d k ih =>
    intro s c hd hf hle h
    rcases Nat.lt_or_ge s.at_ s.told.length with hlt | hge
    · rw [List.drop_eq_getElem_cons hlt] at h
      simp only [Res.follow] at h
      have e : s.told[s.at_] = s.told.getD s.at_ 0 := by simp [List.getD, hlt]
      rw [e] at h
      simp only [Res.run]
      rw [acc_told d μ s hd hlt]
      have := ih (s.told.getD s.at_ 0) { s with fresh := false, at_ := s.at_ + 1 } c hd rfl hlt h
      simp only at this ⊢
      rw [this]
      obtain ⟨t1, t2, t3, t4, t5, t6, t7, t8⟩ := s
      simp only at hf ⊢
      rw [hf]
    · rw [List.drop_of_length_le hge] at h
      simp [Res.follow] at h
      subst h
      have e : s.told.length = s.at_ := by omega
      rw [e]
  | mark kind k ih =>
    intro s c hd hf hle h
    simp only [Res.run]
    have e : s.mark kind = s := by unfold TrS.mark; rw [if_neg (by simp [hf])]
    rw [e]
    exact ih s c hd hf hle h

/-- The marks behind a fresh access. -/
theorem run_marks (r : Res σ α) (μ : σ) : ∀ s : TrS, s.fresh = true → s.dry = false → r.run μ s = r.next.run μ { s with marks := s.marks ++ r.kinds.map fun k => (k, s.time) } := by
  induction r with
  | ret a => intro s _ _; simp [Res.next, Res.kinds]
  | acc d k ih => intro s _ _; simp [Res.next, Res.kinds]
  | mark kind k ih =>
    intro s hf hd
    simp only [Res.run]
    have e : s.mark kind = { s with marks := s.marks ++ [(kind, s.time)] } := by unfold TrS.mark; rw [if_pos ⟨hf, hd⟩]
    rw [e, ih { s with marks := s.marks ++ [(kind, s.time)] } hf hd]
    simp [Res.next, Res.kinds]

/-- What a step does to a task that is at a place. -/
structure Stepped (r c : Res σ α) (μ : σ) (s : TrS) (time : Int) (q : α × σ × TrS) : Prop where
  mem : q.2.1 = (c.step μ).2.1
  told : q.2.2.told = s.told ++ c.tells μ
  dry : q.2.2.dry = !(c.step μ).1.isRet
  over : q.2.2.over = s.over
  timed : q.2.2.time = time
  marks : q.2.2.marks = s.marks ++ (c.step μ).2.2.map fun k => (k, time)
  place : r.follow (s.told ++ c.tells μ) = some (c.step μ).1
  answer : ∀ a, (c.step μ).1 = .ret a → q.1 = a

theorem run_step (r c : Res σ α) (μ : σ) (s : TrS) (time : Int) (h : r.follow s.told = some c) : Stepped r c μ s time (r.run μ (s.begin time)) := by
  have hc := follow_ahead r _ _ h
  have hrun : r.run μ (s.begin time) = c.run μ { s.begin time with at_ := s.told.length } :=
    run_follow r μ (s.begin time) c rfl rfl (Nat.zero_le _) (by simpa [TrS.begin] using h)
  rw [hrun]
  clear hrun
  cases c with
  | ret a => exact ⟨rfl, by simp [Res.run, TrS.begin, Res.tells], rfl, rfl, rfl, by simp [Res.run, TrS.begin, Res.step], by simpa [Res.tells, Res.step] using h, fun b hb => by simp only [Res.step, Res.ret.injEq] at hb; exact hb⟩
  | mark kind k => simp [Res.ahead] at hc
  | acc d k =>
    simp only [Res.run]
    cases he : (d μ).2.1 with
    | false =>
      rw [acc_wait d μ _ rfl (by simp [TrS.begin]) rfl he]
      simp only
      obtain ⟨e1, b, e2⟩ := run_dry (k 0) (d μ).2.2 { told := s.told, at_ := s.told.length, done := true, dry := true, fresh := true, over := s.over, time := time, marks := s.marks } rfl
      simp only [TrS.begin]
      have es : (Res.acc d k).step μ = (.acc d k, (d μ).2.2, []) := by simp [Res.step, he]
      have et : (Res.acc d k).tells μ = [] := by simp [Res.tells, he]
      refine ⟨?_, ?_, ?_, ?_, ?_, ?_, ?_, ?_⟩
      · rw [e1, es]
      · rw [e2, et]; simp
      · rw [e2, es]; rfl
      · rw [e2]
      · rw [e2]
      · rw [e2, es]; simp
      · rw [et, es, List.append_nil]; exact h
      · rw [es]; intro a ha; cases ha
    | true =>
      rw [acc_new d μ _ rfl (by simp [TrS.begin]) rfl he]
      simp only
      have es : (Res.acc d k).step μ = ((k (d μ).1).next, (d μ).2.2, (k (d μ).1).kinds) := by simp [Res.step, he]
      have et : (Res.acc d k).tells μ = [(d μ).1] := by simp [Res.tells, he]
      have hpl : r.follow (s.told ++ [(d μ).1]) = some (k (d μ).1).next := by
        rw [follow_append, h]
        simp only [Option.bind_some, Res.follow]
        exact follow_nil _
      rw [run_marks (k (d μ).1) (d μ).2.2 _ rfl rfl]
      have hna := next_ahead (k (d μ).1)
      generalize hn : (k (d μ).1).next = n at *
      cases n with
      | mark kind k' => simp [Res.ahead] at hna
      | ret a =>
        refine ⟨?_, ?_, ?_, ?_, ?_, ?_, ?_, ?_⟩
        · rw [es]; rfl
        · rw [et]; rfl
        · rw [es]; rfl
        · rfl
        · rfl
        · rw [es]; rfl
        · rw [et, es]; exact hpl
        · rw [es]; intro b hb; simp only [Res.ret.injEq] at hb; exact hb
      | acc d' k' =>
        simp only [Res.run]
        rw [acc_done d' _ _ rfl (by simp [TrS.begin]) rfl]
        simp only
        obtain ⟨e1, b, e2⟩ := run_dry (k' 0) (d μ).2.2 { told := s.told ++ [(d μ).1], at_ := s.told.length + 1, done := true, dry := true, fresh := false, over := s.over, time := time, marks := s.marks ++ List.map (fun k => (k, time)) (k (d μ).1).kinds } rfl
        simp only [TrS.begin]
        refine ⟨?_, ?_, ?_, ?_, ?_, ?_, ?_, ?_⟩
        · rw [e1, es]
        · rw [e2, et]
        · rw [e2, es]; rfl
        · rw [e2]
        · rw [e2]
        · rw [e2, es]
        · rw [et, es]; exact hpl
        · rw [es]; intro b hb; cases hb

/-- The same of whatever run looks alike. -/
theorem Sim.step {r c : Res σ α} {μ : σ} {s : TrS} {time : Int} {o : α × σ × TrS} (h : r.follow s.told = some c) (hs : Sim (r.run μ (s.begin time)) o) : Stepped r c μ s time o := by
  have hq := run_step r c μ s time h
  rcases hs.tr with ⟨_, e2, e3⟩ | ⟨hd, b, e2⟩
  · exact ⟨hs.mem.trans hq.mem, by rw [e2]; exact hq.told, by rw [e2]; exact hq.dry, by rw [e2]; exact hq.over, by rw [e2]; exact hq.timed, by rw [e2]; exact hq.marks, hq.place, fun a ha => e3.trans (hq.answer a ha)⟩
  · refine ⟨hs.mem.trans hq.mem, by rw [e2]; exact hq.told, by rw [e2]; exact hq.dry, by rw [e2]; exact hq.over, by rw [e2]; exact hq.timed, by rw [e2]; exact hq.marks, hq.place, fun a ha => ?_⟩
    have := hq.dry
    rw [ha] at this
    simp [Res.isRet, hd] at this
end
end Go.Proofs.Ytldccemgfjmcdaa
