/- A task that puts its answer into a cell of its caller's when it is over: what one step of it does, whatever the task. -/
import Derived.Test.YtldccemgfjmcdaaDoes
namespace Go.Proofs.Ytldccemgfjmcdaa
open Go.RowKit

def Res.putIn {α : Type} (c : Res MemS α) (cs : Array Value) (po : Nat) (val : α → Value) : Array Value :=
  match c with
  | .ret a => cs.setIfInBounds po (val a)
  | _ => cs

/-- A memory, a trail on it whose task r is at the place cur, and the block that has the cell for the answer. -/
structure Put {α : Type} (w : World) (m c t pb po : Nat) (ty : TypeId) (r : Res MemS α) (val : α → Value) (μ : MemS) (s : TrS) (F : List Nat) (cs : Array Value) (cur : Res MemS α) : Prop where
  tm : TM w m c t μ s F
  blk : Blk w pb ty cs
  far : pb ∉ m :: c :: F
  at_ : r.follow s.told = some cur
  over : s.over = cur.isRet
  cell : po < cs.size
  done : ∀ a, cur = .ret a → cs[po]? = some (val a)

theorem TM.mem_t {w : World} {m c t : Nat} {μ : MemS} {s : TrS} {F : List Nat} (h : TM w m c t μ s F) : t ∈ F := by
  obtain ⟨-, ⟨tA, tcap, mA, mcap, -, rfl⟩, -, -⟩ := h
  simp

theorem putIn_size {α : Type} (c : Res MemS α) (cs : Array Value) (po : Nat) (val : α → Value) : (c.putIn cs po val).size = cs.size := by
  unfold Res.putIn
  split <;> simp
theorem putIn_done {α : Type} (c : Res MemS α) (cs : Array Value) (po : Nat) (val : α → Value) (h : po < cs.size) : ∀ a, c = .ret a → (c.putIn cs po val)[po]? = some (val a) := by
  rintro a rfl
  simp [Res.putIn, h]
theorem set_same (cs : Array Value) (i : Nat) (v : Value) (h : cs[i]? = some v) : cs.setIfInBounds i v = cs := by
  apply Array.ext_getElem?
  intro j
  by_cases hj : i = j
  · subst hj
    rw [h]
    have := (Array.getElem?_eq_some_iff.1 h).1
    simp [this]
  · simp [hj]

/-- What a step of it leaves. -/
def PutStep {α : Type} (w : World) (m c t pb po : Nat) (ty : TypeId) (r : Res MemS α) (val : α → Value) (μ : MemS) (s : TrS) (F : List Nat) (cs : Array Value) (cur : Res MemS α) (time : Int) (e : Ending) (w' : World) : Prop :=
  e = .returned (.bool (cur.step μ).1.isRet) ∧ ∃ s' F', Put w' m c t pb po ty r val (cur.step μ).2.1 s' F' ((cur.step μ).1.putIn cs po val) (cur.step μ).1 ∧
    s'.told = s.told ++ cur.tells μ ∧ s'.marks = s.marks ++ (cur.step μ).2.2.map (fun k => (k, time)) ∧ (∀ b ∈ F', b ∈ F ∨ w.heap.size ≤ b) ∧ Upd (pb :: m :: c :: F) w w'

theorem put_step {α : Type} (f : FuncId) (x : Value) (m c t pb po : Nat) (ty : TypeId) (r : Res MemS α) (val : α → Value) (μ : MemS) (s : TrS) (F : List Nat) (cs : Array Value) (cur : Res MemS α) (time : Int) (w : World)
    (h : Put w m c t pb po ty r val μ s F cs cur)
    (hcall : ∀ w, (callFunc f #[x, .pointer (some ⟨t, 0, none⟩)]).run Try.prog w = .ok (.enter f #[x, .pointer (some ⟨t, 0, none⟩)]) w)
    (HT : ∀ w1, TM w1 m c t μ (s.begin time) F → Blk w1 pb ty cs → s.over = false → Calls Try.prog f #[x, .pointer (some ⟨t, 0, none⟩)] w1 (TaskPost (TaskQ w1 m c μ (s.begin time) F r ⟨pb, po, none⟩ val) m c t)) :
    Calls Try.prog 54 #[.pointer (some ⟨t, 0, none⟩), .int .i64 time, .func (.func f) #[x] #[]] w (PutStep w m c t pb po ty r val μ s F cs cur time) := by
  obtain ⟨h, hb, hfar, hat, hov, hcell, hdone⟩ := h
  have htF := h.mem_t
  have hpt : pb ≠ t := by
    rintro rfl
    exact hfar (by simp [htF])
  cases hso : s.over with
  | true =>
    rw [hso] at hov
    refine (t_step_over _ m c t μ s F time w h hso).mono ?_
    rintro e w' ⟨rfl, rfl⟩
    cases cur with
    | acc d k => simp [Res.isRet] at hov
    | mark kd k => simp [Res.isRet] at hov
    | ret a =>
      have hd := hdone a rfl
      refine ⟨rfl, s, F, ?_, by simp [Res.tells], by simp [Res.step], fun b hb => .inl hb, Upd.refl _ _⟩
      simp only [Res.step, Res.putIn]
      rw [set_same _ _ _ hd]
      exact ⟨h, hb, hfar, hat, by rw [hso]; rfl, hcell, fun b hb => by cases hb; exact hd⟩
  | false =>
    refine (t_step f x (fun μ2 s2 F2 w2 => ∃ w1, Upd [t] w w1 ∧ TaskQ w1 m c μ (s.begin time) F r ⟨pb, po, none⟩ val μ2 s2 F2 w2) m c t μ s F time w h hso hcall (Lib.hid fun w1 h1 hu1 => ?_)).mono ?_
    · exact (HT w1 h1 (hb.upd hu1 (by simp [hpt])) hso).mono fun e w2 hq => TaskPost.mono hq fun μ2 s2 F2 w3 hq => ⟨w1, hu1, hq⟩
    · rintro e w' ⟨μ2, s2, F2, w2, ⟨w1, hu1, v, w1', hsim, hF2, hu2, hdry, hput⟩, rfl, h2, hu3⟩
      have hst := Sim.step hat hsim
      have hF2' : ∀ b ∈ F2, b ∈ F ∨ w.heap.size ≤ b := fun b hb => (hF2 b hb).imp id fun h => Nat.le_trans hu1.size h
      have hb1 : Blk w1' pb ty cs := (hb.upd hu1 (by simp [hpt])).upd hu2 hfar
      have hb2 : Blk w' pb ty ((cur.step μ).1.putIn cs po val) := by
        refine Blk.upd ?_ hu3 (by simp [hpt])
        cases hd : s2.dry with
        | true =>
          have e := hst.dry
          rw [show (v, μ2, s2).2.2.dry = true from hd] at e
          rw [hdry hd]
          cases hc : (cur.step μ).1 with
          | ret a => rw [hc] at e; simp [Res.isRet] at e
          | acc d k => exact hb1
          | mark kd k => exact hb1
        | false =>
          have e := hst.dry
          rw [show (v, μ2, s2).2.2.dry = false from hd] at e
          rw [hput hd]
          cases hc : (cur.step μ).1 with
          | ret a =>
            have := hst.answer a hc
            simp only at this
            subst this
            exact hb1.put po _
          | acc d k => rw [hc] at e; simp [Res.isRet] at e
          | mark kd k => rw [hc] at e; simp [Res.isRet] at e
      have hupd : Upd (pb :: m :: c :: F) w w' := by
        have k1 : Upd (pb :: m :: c :: F) w w1 := hu1.mono (by simp [htF])
        have k2 : Upd (pb :: m :: c :: F) w1 w1' := hu2.mono (by intro b hb; simp only [List.mem_cons] at hb ⊢; exact .inr hb)
        have k3 : Upd (pb :: m :: c :: F) w1' w2 := by
          cases hd : s2.dry with
          | true => rw [hdry hd]; exact Upd.refl _ _
          | false => rw [hput hd]; exact (Upd.refl _ _).put (.inl (by simp)) _
        have k4 : Upd (pb :: m :: c :: F) w2 w' := hu3.mono (by simp [htF])
        exact ((k1.trans k2).trans k3).trans k4
      have hmem : μ2 = (cur.step μ).2.1 := hst.mem
      have hdr : s2.dry = !(cur.step μ).1.isRet := hst.dry
      refine ⟨by rw [hdr, Bool.not_not], s2.finish, F2, ⟨by rw [← hmem]; exact h2, hb2, ?_, ?_, ?_, ?_, ?_⟩, hst.told, hst.marks, hF2', hupd⟩
      · intro hin
        simp only [List.mem_cons, not_or] at hin hfar
        rcases hin with e | e | e
        · exact hfar.1 e
        · exact hfar.2.1 e
        · rcases hF2' _ e with e | e
          · exact hfar.2.2 e
          · exact absurd hb.lt (by omega)
      · have := hst.place
        rw [show s2.finish.told = s.told ++ cur.tells μ from hst.told]
        exact this
      · show (!s2.dry) = _
        rw [hdr, Bool.not_not]
      · rw [putIn_size]; exact hcell
      · exact putIn_done _ _ _ _ hcell

/-- A task that begins. -/
theorem Put.first {α : Type} {w : World} {m c t pb po : Nat} {ty : TypeId} {r : Res MemS α} {val : α → Value} {μ : MemS} {F : List Nat} {cs : Array Value} (h : TM w m c t μ TrS.new F) (hb : Blk w pb ty cs) (hfar : pb ∉ m :: c :: F) (hcell : po < cs.size) (hr : r.next.isRet = false) :
    Put w m c t pb po ty r val μ TrS.new F cs r.next :=
  ⟨h, hb, hfar, follow_nil r, hr.symm, hcell, fun a ha => by rw [ha] at hr; cases hr⟩
theorem Put.begin_in {α : Type} {w : World} {m c t pb po : Nat} {ty : TypeId} {r : Res MemS α} {val : α → Value} {μ : MemS} {s : TrS} {F : List Nat} {cs : Array Value} {cur : Res MemS α} (_h : Put w m c t pb po ty r val μ s F cs cur) (time : Int) : (s.begin time).In (s.told.length + 1) :=
  ⟨Nat.zero_le _, Nat.le_refl _⟩

/-- Steps alone, one behind the other. -/
def Res.alone {α : Type} : Nat → Res MemS α → MemS → Res MemS α × MemS
  | 0, r, μ => (r, μ)
  | n + 1, r, μ => let q := Res.alone n r μ; ((q.1.step q.2).1, (q.1.step q.2).2.1)

theorem tells_le {α : Type} (cur : Res MemS α) (μ : MemS) : (cur.tells μ).length ≤ 1 := by
  cases cur with
  | ret a => simp [Res.tells]
  | mark k r => simp [Res.tells]
  | acc d k => simp only [Res.tells]; split <;> simp
theorem putIn_step {α : Type} (cur : Res MemS α) (μ : MemS) (cs : Array Value) (po : Nat) (val : α → Value) : (cur.step μ).1.putIn (cur.putIn cs po val) po val = (cur.step μ).1.putIn cs po val := by
  cases cur with
  | ret a => simp [Res.step, Res.putIn]
  | mark k r => rfl
  | acc d k => rfl
theorem putIn_next {α : Type} (r : Res MemS α) (cs : Array Value) (po : Nat) (val : α → Value) (h : r.isRet = false) : r.putIn cs po val = cs := by
  cases r with
  | ret a => simp [Res.isRet] at h
  | mark k r => rfl
  | acc d k => rfl

def Res.aloneTold {α : Type} : Nat → Res MemS α → MemS → List Int
  | 0, _, _ => []
  | n + 1, r, μ => Res.aloneTold n r μ ++ (Res.alone n r μ).1.tells (Res.alone n r μ).2
theorem aloneTold_le {α : Type} (r : Res MemS α) (μ : MemS) : ∀ n, (Res.aloneTold n r μ).length ≤ n
  | 0 => Nat.le_refl _
  | n + 1 => by
    have h1 := aloneTold_le r μ n
    have h2 := tells_le (Res.alone n r μ).1 (Res.alone n r μ).2
    simp only [Res.aloneTold, List.length_append]
    omega

/-- A task that is alone: k steps behind the place p0. -/
structure AloneAt {α : Type} (w0 : World) (m c t pb po : Nat) (ty : TypeId) (r : Res MemS α) (val : α → Value) (p0 : Res MemS α) (μ0 : MemS) (told0 : List Int) (cs : Array Value) (k : Nat) (w : World) (s : TrS) (F : List Nat) : Prop where
  put : Put w m c t pb po ty r val (Res.alone k p0 μ0).2 s F ((Res.alone k p0 μ0).1.putIn cs po val) (Res.alone k p0 μ0).1
  told : s.told = told0 ++ Res.aloneTold k p0 μ0
  new : ∀ b ∈ F, w0.heap.size ≤ b
  low : Below w0.heap.size w0 w

theorem AloneAt.first {α : Type} {w0 w : World} {m c t pb po : Nat} {ty : TypeId} {r : Res MemS α} {val : α → Value} {μ : MemS} {F : List Nat} {cs : Array Value} (h : TM w m c t μ TrS.new F) (hb : Blk w pb ty cs) (hfar : pb ∉ m :: c :: F) (hcell : po < cs.size) (hr : r.next.isRet = false) (hF : ∀ b ∈ F, w0.heap.size ≤ b) (hw : Below w0.heap.size w0 w) :
    AloneAt w0 m c t pb po ty r val r.next μ [] cs 0 w TrS.new F :=
  ⟨by simp only [Res.alone]; rw [putIn_next _ _ _ _ hr]; exact Put.first h hb hfar hcell hr, rfl, hF, hw⟩
theorem AloneAt.again {α : Type} {w0 w : World} {m c t pb po : Nat} {ty : TypeId} {r : Res MemS α} {val : α → Value} {μ : MemS} {s : TrS} {F : List Nat} {cs : Array Value} {p0 : Res MemS α} (h : Put w m c t pb po ty r val μ s F cs p0) (hF : ∀ b ∈ F, w0.heap.size ≤ b) (hw : Below w0.heap.size w0 w) (hr : p0.isRet = false) :
    AloneAt w0 m c t pb po ty r val p0 μ s.told cs 0 w s F :=
  ⟨by simp only [Res.alone]; rw [putIn_next _ _ _ _ hr]; exact h, by simp [Res.aloneTold], hF, hw⟩
theorem AloneAt.next {α : Type} {w0 w w' : World} {m c t pb po : Nat} {ty : TypeId} {r : Res MemS α} {val : α → Value} {p0 : Res MemS α} {μ0 : MemS} {told0 : List Int} {s : TrS} {F : List Nat} {cs : Array Value} {k : Nat} {time : Int} {e : Ending}
    (h : AloneAt w0 m c t pb po ty r val p0 μ0 told0 cs k w s F) (hmc : ∀ b ∈ [pb, m, c], w0.heap.size ≤ b)
    (hs : PutStep w m c t pb po ty r val (Res.alone k p0 μ0).2 s F ((Res.alone k p0 μ0).1.putIn cs po val) (Res.alone k p0 μ0).1 time e w') :
    e = .returned (.bool (Res.alone (k + 1) p0 μ0).1.isRet) ∧ ∃ s' F', AloneAt w0 m c t pb po ty r val p0 μ0 told0 cs (k + 1) w' s' F' := by
  obtain ⟨hput, htold, hF, hw⟩ := h
  obtain ⟨he, s', F', hp, ht, -, hF', hu⟩ := hs
  have hsz := hw.size
  rw [putIn_step] at hp
  refine ⟨he, s', F', hp, by rw [ht, htold, List.append_assoc]; rfl, fun b hb => (hF' b hb).elim (hF b) fun h => by omega, below_upd hw hu (Nat.le_refl _) ?_⟩
  intro b hb
  simp only [List.mem_cons] at hb
  rcases hb with e | e | e | e
  · exact hmc b (by simp [e])
  · exact hmc b (by simp [e])
  · exact hmc b (by simp [e])
  · exact hF b e
theorem AloneAt.short {α : Type} {w0 w : World} {m c t pb po : Nat} {ty : TypeId} {r : Res MemS α} {val : α → Value} {p0 : Res MemS α} {μ0 : MemS} {told0 : List Int} {s : TrS} {F : List Nat} {cs : Array Value} {k n : Nat}
    (h : AloneAt w0 m c t pb po ty r val p0 μ0 told0 cs k w s F) (hn : told0.length + k < n) : s.told.length < n := by
  rw [h.told, List.length_append]
  have := aloneTold_le p0 μ0 k
  omega

/-- Beside the task somebody else may use the memory. -/
theorem Put.mem {α : Type} {w w' : World} {m c t pb po : Nat} {ty : TypeId} {r : Res MemS α} {val : α → Value} {μ μ' : MemS} {s : TrS} {F G : List Nat} {cs : Array Value} {cur : Res MemS α}
    (h : Put w m c t pb po ty r val μ s F cs cur) (hm : MemAt w' m c μ') (hu : Upd G w w') (hG : ∀ b ∈ G, b = m ∨ b = c) : Put w' m c t pb po ty r val μ' s F cs cur := by
  obtain ⟨ht, hb, hfar, hat, hov, hcell, hdone⟩ := h
  refine ⟨⟨hm, ht.tr.upd hu fun b hb hin => ?_, ht.hm, ht.hc⟩, hb.upd hu fun hin => ?_, hfar, hat, hov, hcell, hdone⟩
  · rcases hG b hin with rfl | rfl
    · exact ht.hm hb
    · exact ht.hc hb
  · rcases hG pb hin with rfl | rfl <;> exact hfar (by simp)
theorem Put.below {α : Type} {w w' : World} {m c t pb po : Nat} {ty : TypeId} {r : Res MemS α} {val : α → Value} {μ : MemS} {s : TrS} {F : List Nat} {cs : Array Value} {cur : Res MemS α}
    (h : Put w m c t pb po ty r val μ s F cs cur) (hb : Below w.heap.size w w') : Put w' m c t pb po ty r val μ s F cs cur :=
  h.mem (G := []) (h.tm.mem.below hb h.tm.mem.1.lt h.tm.mem.2.1.lt) (Upd.of_below hb) (by simp)
end Go.Proofs.Ytldccemgfjmcdaa
