/- A task on a land that is alone: step by step up to its end. -/
import Derived.Test.YtldccemgfjmcdaaLand
namespace Go.Proofs.Ytldccemgfjmcdaa
open Go.RowKit

section
variable {σ α β : Type}
/-- A task as one function: its answer, what is behind it, how many accesses. -/
def Res.eval : Res σ α → σ → α × σ × Nat
  | .ret a, x => (a, x, 0)
  | .acc d k, x => (((k (d x).1).eval (d x).2.2).1, ((k (d x).1).eval (d x).2.2).2.1, ((k (d x).1).eval (d x).2.2).2.2 + 1)
  | .mark _ k, x => k.eval x
/-- No access waits. -/
def Res.free : Res σ α → Prop
  | .ret _ => True
  | .acc d k => (∀ x, (d x).2.1 = true) ∧ ∀ v, (k v).free
  | .mark _ k => k.free
theorem Res.next_free {r : Res σ α} (h : r.free) : r.next.free := by
  induction r with
  | ret a => exact h
  | acc d k ih => exact h
  | mark kd k ih => exact ih h
theorem Res.next_eval (r : Res σ α) (x : σ) : r.next.eval x = r.eval x := by
  induction r with
  | ret a => rfl
  | acc d k ih => rfl
  | mark kd k ih => exact ih
theorem Res.bind_eval (r : Res σ α) (f : α → Res σ β) : ∀ x, (r.bind f).eval x = (((f (r.eval x).1).eval (r.eval x).2.1).1, ((f (r.eval x).1).eval (r.eval x).2.1).2.1, (r.eval x).2.2 + ((f (r.eval x).1).eval (r.eval x).2.1).2.2) := by
  induction r with
  | ret a => intro x; simp [Res.bind, Res.eval]
  | acc d k ih =>
    intro x
    simp only [Res.bind, Res.eval]
    rw [ih]
    simp only [Prod.mk.injEq, true_and]
    omega
  | mark kd k ih => intro x; simp only [Res.bind, Res.eval]; exact ih x
theorem Res.bind_free {r : Res σ α} {f : α → Res σ β} (h : r.free) (hf : ∀ v, (f v).free) : (r.bind f).free := by
  induction r with
  | ret a => exact hf a
  | acc d k ih => exact ⟨h.1, fun v => ih v (h.2 v)⟩
  | mark kd k ih => exact ih h

/-- So many steps. -/
def Res.steps : Nat → Res σ α → σ → Res σ α × σ
  | 0, r, x => (r, x)
  | n + 1, r, x => (((Res.steps n r x).1.step (Res.steps n r x).2).1, ((Res.steps n r x).1.step (Res.steps n r x).2).2.1)
theorem Res.steps_succ (n : Nat) (r : Res σ α) (x : σ) : Res.steps (n + 1) r x = Res.steps n (r.step x).1 (r.step x).2.1 := by
  induction n with
  | zero => rfl
  | succ n ih => rw [Res.steps, ih]; rfl
theorem Res.steps_ret (n : Nat) (a : α) (x : σ) : Res.steps n (.ret a) x = (.ret a, x) := by
  induction n with
  | zero => rfl
  | succ n ih => rw [Res.steps, ih]; rfl
theorem Res.step_acc {d : σ → Int × Bool × σ} {k : Int → Res σ α} {x : σ} (h : (d x).2.1 = true) : (Res.acc d k).step x = ((k (d x).1).next, (d x).2.2, (k (d x).1).kinds) := by simp [Res.step, h]
/-- Behind as many steps as there are accesses the task is over; ahead it isn't, and each step tells one. -/
theorem Res.steps_eval (r : Res σ α) (h : r.free) : ∀ x, Res.steps (r.eval x).2.2 r.next x = (.ret (r.eval x).1, (r.eval x).2.1) := by
  induction r with
  | ret a => intro x; rfl
  | mark kd k ih => intro x; exact ih h x
  | acc d k ih =>
    intro x
    simp only [Res.eval, Res.next]
    rw [Res.steps_succ, Res.step_acc (h.1 x)]
    exact ih _ (h.2 _) _
theorem Res.steps_open (r : Res σ α) (h : r.free) : ∀ x j, j < (r.eval x).2.2 → (Res.steps j r.next x).1.isRet = false ∧ ((Res.steps j r.next x).1.tells (Res.steps j r.next x).2).length = 1 := by
  induction r with
  | ret a => intro x j hj; simp [Res.eval] at hj
  | mark kd k ih => intro x; exact ih h x
  | acc d k ih =>
    intro x j hj
    simp only [Res.eval, Res.next] at hj ⊢
    cases j with
    | zero => exact ⟨rfl, by simp [Res.steps, Res.tells, h.1 x]⟩
    | succ j =>
      rw [Res.steps_succ, Res.step_acc (h.1 x)]
      exact ih _ (h.2 _) (d x).2.2 j (by omega)
theorem Res.steps_done (r : Res σ α) (h : r.free) (x : σ) {j : Nat} (hj : (r.eval x).2.2 ≤ j) : Res.steps j r.next x = (.ret (r.eval x).1, (r.eval x).2.1) := by
  obtain ⟨m, rfl⟩ : ∃ m, j = (r.eval x).2.2 + m := ⟨j - (r.eval x).2.2, by omega⟩
  clear hj
  induction m with
  | zero => exact r.steps_eval h x
  | succ m ih => rw [show (r.eval x).2.2 + (m + 1) = (r.eval x).2.2 + m + 1 by omega, Res.steps, ih]; rfl
end

/-- A task that is alone, j steps behind its begin; the trail, and the block for the answer, are new since w0. -/
structure RunL {β : Type} (w0 w : World) (p : Pl) (pb : Nat) (ty : TypeId) (r : Res LandS β) (R : World → β → Array Value → Prop) (σ0 : LandS) (j : Nat) (s : TrS) (F : List Nat) (cs : Array Value) : Prop where
  put : PutL w p pb ty r R (Res.steps j r.next σ0).2 s F cs (Res.steps j r.next σ0).1
  told : s.told.length = min j (r.eval σ0).2.2
  new : ∀ b ∈ F, w0.heap.size ≤ b
  npb : w0.heap.size ≤ pb
  low : Upd [p.m, p.c, p.a, p.b] w0 w
  over : s.over = (decide (0 < j) && decide ((r.eval σ0).2.2 ≤ j))

section
variable {β : Type} {w0 w : World} {p : Pl} {pb : Nat} {ty : TypeId} {r : Res LandS β} {R : World → β → Array Value → Prop} {σ0 : LandS} {j : Nat} {s : TrS} {F : List Nat} {cs : Array Value}
theorem RunL.short (h : RunL w0 w p pb ty r R σ0 j s F cs) : s.told.length ≤ j := by rw [h.told]; omega
/-- The step's own task is within what is remembered. -/
theorem RunL.begin_in (h : RunL w0 w p pb ty r R σ0 j s F cs) (time : Int) {n : Nat} (hn : j < n) : (s.begin time).In n :=
  ⟨Nat.zero_le _, by have := h.short; simp only [TrS.begin, cond_false]; omega⟩
theorem RunL.next {w' : World} {time : Int} {e : Ending} (h : RunL w0 w p pb ty r R σ0 j s F cs) (hf : r.free)
    (hs : PutStepL w p pb ty r R (Res.steps j r.next σ0).2 s F cs (Res.steps j r.next σ0).1 time e w') :
    e = .returned (.bool (decide ((r.eval σ0).2.2 ≤ j + 1))) ∧ ∃ s' F' cs', RunL w0 w' p pb ty r R σ0 (j + 1) s' F' cs' := by
  obtain ⟨he, s', F', cs', hp, -, ho, ht, -, hF', hu⟩ := hs
  have hsz := h.low.size
  have hnew : ∀ b ∈ F', w0.heap.size ≤ b := fun b hb => (hF' b hb).elim (h.new b) (fun h => by omega)
  have hret : (Res.steps (j + 1) r.next σ0).1.isRet = decide ((r.eval σ0).2.2 ≤ j + 1) := by
    by_cases hj : (r.eval σ0).2.2 ≤ j + 1
    · rw [r.steps_done hf σ0 hj, decide_eq_true hj]
      rfl
    · rw [(r.steps_open hf σ0 (j + 1) (by omega)).1, decide_eq_false hj]
  refine ⟨?_, s', F', cs', ⟨hp, ?_, hnew, h.npb, h.low.trans_new hu ?_, ?_⟩⟩
  · rw [he, ← hret]
    rfl
  · rw [ht, List.length_append, h.told]
    by_cases hj : j < (r.eval σ0).2.2
    · rw [(r.steps_open hf σ0 j hj).2]
      omega
    · rw [r.steps_done hf σ0 (by omega)]
      simp only [Res.tells, List.length_nil]
      omega
  · intro b hb
    simp only [Pl.all, List.mem_cons] at hb
    rcases hb with e | e | e | e | e | e
    · exact .inr (e ▸ h.npb)
    · exact .inl (by simp [e])
    · exact .inl (by simp [e])
    · exact .inl (by simp [e])
    · exact .inl (by simp [e])
    · exact .inr (h.new b e)
  · rw [ho, decide_eq_true (show 0 < j + 1 by omega), Bool.true_and, ← hret]
    rfl
/-- What the task comes to, when it is over. -/
theorem RunL.ends (h : RunL w0 w p pb ty r R σ0 j s F cs) (hf : r.free) (ho : s.over = true) : TL w p (r.eval σ0).2.1 s F ∧ Blk w pb ty cs ∧ R w (r.eval σ0).1 cs ∧ s.told.length = (r.eval σ0).2.2 := by
  have hj : (r.eval σ0).2.2 ≤ j := by
    have := h.over
    rw [ho] at this
    simp only [Bool.true_eq, Bool.and_eq_true, decide_eq_true_eq] at this
    exact this.2
  have hp := h.put
  rw [r.steps_done hf σ0 hj] at hp
  exact ⟨hp.tl, hp.blk, hp.done ho _ rfl, by rw [h.told]; omega⟩
end
end Go.Proofs.Ytldccemgfjmcdaa
