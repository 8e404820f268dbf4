/- As Put, Threads, GThs: tasks on one memory that may be over at their very first step; their trails are dry between steps. -/
import Derived.Test.YtcphidmfdakbeaaGThs
namespace Go.Proofs.Ytcphidmfdakbeaa
open Go.RowKit

/-- A memory, a trail on it whose task r is at the place cur, and the block that has the cell for the answer. b: has it been stepped? -/
structure PutB {α : Type} (w : World) (m c t pb po : Nat) (ty : TypeId) (r : Res MemS α) (val : α → Value) (μ : MemS) (s : TrS) (F : List Nat) (cs : Array Value) (cur : Res MemS α) (b : Bool) : Prop where
  tm : TM w m c t μ s F
  blk : Blk w pb ty cs
  far : pb ∉ m :: c :: F
  at_ : r.follow s.told = some cur
  over : s.over = (b && cur.isRet)
  cell : po < cs.size
  done : b = true → ∀ a, cur = .ret a → cs[po]? = some (val a)
  dry : s.dry = true

/-- What a step of it leaves. -/
def PutStepB {α : Type} (w : World) (m c t pb po : Nat) (ty : TypeId) (r : Res MemS α) (val : α → Value) (μ : MemS) (s : TrS) (F : List Nat) (cs : Array Value) (cur : Res MemS α) (time : Int) (e : Ending) (w' : World) : Prop :=
  e = .returned (.bool (cur.step μ).1.isRet) ∧ ∃ s' F', PutB w' m c t pb po ty r val (cur.step μ).2.1 s' F' ((cur.step μ).1.putIn cs po val) (cur.step μ).1 true ∧
    s'.told = s.told ++ cur.tells μ ∧ s'.marks = s.marks ++ (cur.step μ).2.2.map (fun k => (k, time)) ∧ (∀ b ∈ F', b ∈ F ∨ w.heap.size ≤ b) ∧ Upd (pb :: m :: c :: F) w w'

theorem put_stepB {α : Type} (f : FuncId) (x : Value) (m c t pb po : Nat) (ty : TypeId) (r : Res MemS α) (val : α → Value) (μ : MemS) (s : TrS) (F : List Nat) (cs : Array Value) (cur : Res MemS α) (bg : Bool) (time : Int) (w : World)
    (h : PutB w m c t pb po ty r val μ s F cs cur bg)
    (hcall : ∀ w, (callFunc f #[x, .pointer (some ⟨t, 0, none⟩)]).run Try.prog w = .ok (.enter f #[x, .pointer (some ⟨t, 0, none⟩)]) w)
    (HT : ∀ w1, TM w1 m c t μ (s.begin time) F → Upd [t] w w1 → Blk w1 pb ty cs → s.over = false → Calls Try.prog f #[x, .pointer (some ⟨t, 0, none⟩)] w1 (TaskPost (TaskQ w1 m c μ (s.begin time) F r ⟨pb, po, none⟩ val) m c t)) :
    Calls Try.prog 19 #[.pointer (some ⟨t, 0, none⟩), .int .i64 time, .func (.func f) #[x] #[]] w (PutStepB w m c t pb po ty r val μ s F cs cur time) := by
  obtain ⟨h, hb, hfar, hat, hov, hcell, hdone, hdry⟩ := h
  have htF := h.mem_t
  have hpt : pb ≠ t := by
    rintro rfl
    exact hfar (by simp [htF])
  cases hso : s.over with
  | true =>
    rw [hso] at hov
    refine (t_step_over _ m c t μ s F time w h hso).mono ?_
    rintro e w' ⟨rfl, rfl⟩
    obtain ⟨hbg, hir⟩ : bg = true ∧ cur.isRet = true := by
      have := hov.symm
      rwa [Bool.and_eq_true] at this
    cases cur with
    | acc d k => simp [Res.isRet] at hir
    | mark kd k => simp [Res.isRet] at hir
    | ret a =>
      have hd := hdone hbg a rfl
      refine ⟨rfl, s, F, ?_, by simp [Res.tells], by simp [Res.step], fun b hb => .inl hb, Upd.refl _ _⟩
      simp only [Res.step, Res.putIn]
      rw [set_same _ _ _ hd]
      exact ⟨h, hb, hfar, hat, by rw [hso]; rfl, hcell, fun _ b hb => by cases hb; exact hd, hdry⟩
  | false =>
    refine (t_step f x (fun μ2 s2 F2 w2 => ∃ w1, Upd [t] w w1 ∧ TaskQ w1 m c μ (s.begin time) F r ⟨pb, po, none⟩ val μ2 s2 F2 w2) m c t μ s F time w h hso hcall (Lib.hid fun w1 h1 hu1 => ?_)).mono ?_
    · exact (HT w1 h1 hu1 (hb.upd hu1 (by simp [hpt])) hso).mono fun e w2 hq => TaskPost.mono hq fun μ2 s2 F2 w3 hq => ⟨w1, hu1, hq⟩
    · rintro e w' ⟨μ2, s2, F2, w2, ⟨w1, hu1, v, w1', hsim, hF2, hu2, hdry, hput⟩, rfl, h2, hu3⟩
      have hst := Sim.step hat hsim
      have hF2' : ∀ b ∈ F2, b ∈ F ∨ w.heap.size ≤ b := fun b hb => (hF2 b hb).imp id fun h => Nat.le_trans hu1.size h
      have hb1 : Blk w1' pb ty cs := (hb.upd hu1 (by simp [hpt])).upd hu2 hfar
      have hb2 : Blk w' pb ty ((cur.step μ).1.putIn cs po val) := by
        refine Blk.upd ?_ hu3 (by simp [hpt])
        cases hd : s2.dry with
        | true =>
          have e := hst.dry
          rw [show (v, μ2, s2).2.2.dry = true from hd] at e
          rw [hdry hd]
          cases hc : (cur.step μ).1 with
          | ret a => rw [hc] at e; simp [Res.isRet] at e
          | acc d k => exact hb1
          | mark kd k => exact hb1
        | false =>
          have e := hst.dry
          rw [show (v, μ2, s2).2.2.dry = false from hd] at e
          rw [hput hd]
          cases hc : (cur.step μ).1 with
          | ret a =>
            have := hst.answer a hc
            simp only at this
            subst this
            exact hb1.put po _
          | acc d k => rw [hc] at e; simp [Res.isRet] at e
          | mark kd k => rw [hc] at e; simp [Res.isRet] at e
      have hupd : Upd (pb :: m :: c :: F) w w' := by
        have k1 : Upd (pb :: m :: c :: F) w w1 := hu1.mono (by simp [htF])
        have k2 : Upd (pb :: m :: c :: F) w1 w1' := hu2.mono (by intro b hb; simp only [List.mem_cons] at hb ⊢; exact .inr hb)
        have k3 : Upd (pb :: m :: c :: F) w1' w2 := by
          cases hd : s2.dry with
          | true => rw [hdry hd]; exact Upd.refl _ _
          | false => rw [hput hd]; exact (Upd.refl _ _).put (.inl (by simp)) _
        have k4 : Upd (pb :: m :: c :: F) w2 w' := hu3.mono (by simp [htF])
        exact ((k1.trans k2).trans k3).trans k4
      have hmem : μ2 = (cur.step μ).2.1 := hst.mem
      have hdr : s2.dry = !(cur.step μ).1.isRet := hst.dry
      refine ⟨by rw [hdr, Bool.not_not], s2.finish, F2, ⟨by rw [← hmem]; exact h2, hb2, ?_, ?_, ?_, ?_, ?_, rfl⟩, hst.told, hst.marks, hF2', hupd⟩
      · intro hin
        simp only [List.mem_cons, not_or] at hin hfar
        rcases hin with e | e | e
        · exact hfar.1 e
        · exact hfar.2.1 e
        · rcases hF2' _ e with e | e
          · exact hfar.2.2 e
          · exact absurd hb.lt (by omega)
      · have := hst.place
        rw [show s2.finish.told = s.told ++ cur.tells μ from hst.told]
        exact this
      · show (!s2.dry) = _
        rw [hdr, Bool.not_not, Bool.true_and]
      · rw [putIn_size]; exact hcell
      · exact fun _ => putIn_done _ _ _ _ hcell

/-- A task that begins. -/
theorem PutB.first {α : Type} {w : World} {m c t pb po : Nat} {ty : TypeId} {r : Res MemS α} {val : α → Value} {μ : MemS} {F : List Nat} {cs : Array Value} (h : TM w m c t μ TrS.new F) (hb : Blk w pb ty cs) (hfar : pb ∉ m :: c :: F) (hcell : po < cs.size) :
    PutB w m c t pb po ty r val μ TrS.new F cs r.next false :=
  ⟨h, hb, hfar, follow_nil r, rfl, hcell, (fun h => by cases h), rfl⟩

/-- A thread: its trail, what it remembers, its blocks, its task, and the place where that is. -/
structure ThB (α : Type) where
  t : Nat
  s : TrS
  F : List Nat
  r : Res MemS α
  cur : Res MemS α
  b : Bool

/-- The threads, on one memory; other blocks O that they leave alone; all is above B. -/
structure ThsB {α : Type} (B : Nat) (w : World) (m c pb : Nat) (ty : TypeId) (val : α → Value) (μ : MemS) (cs : Array Value) (O : List Nat) (ths : List (ThB α)) : Prop where
  mem : MemAt w m c μ
  blk : Blk w pb ty cs
  pbmc : pb ∉ [m, c]
  put : ∀ (i : Nat) (th : ThB α), ths[i]? = some th → PutB w m c th.t pb i ty th.r val μ th.s th.F cs th.cur th.b
  dis : ∀ (i j : Nat) (a b : ThB α), i ≠ j → ths[i]? = some a → ths[j]? = some b → ∀ x ∈ a.F, x ∉ b.F
  oth : ∀ x ∈ O, x < w.heap.size ∧ x ∉ [pb, m, c] ∧ ∀ (i : Nat) (th : ThB α), ths[i]? = some th → x ∉ th.F
  new : ∀ x ∈ [pb, m, c], B ≤ x
  newF : ∀ (i : Nat) (th : ThB α), ths[i]? = some th → ∀ x ∈ th.F, B ≤ x

section
variable {α : Type} {B : Nat} {w w' : World} {m c pb : Nat} {ty : TypeId} {val : α → Value} {μ : MemS} {cs : Array Value} {O G : List Nat} {ths : List (ThB α)}

theorem PutB.upd {t po : Nat} {r : Res MemS α} {s : TrS} {F : List Nat} {cur : Res MemS α} {bg : Bool} (h : PutB w m c t pb po ty r val μ s F cs cur bg) (hu : Upd G w w') (hG : ∀ x ∈ G, x ∉ pb :: m :: c :: F) : PutB w' m c t pb po ty r val μ s F cs cur bg := by
  obtain ⟨ht, hb, hfar, hat, hov, hcell, hdone, hdry⟩ := h
  exact ⟨ht.upd hu (fun hin => hG m hin (by simp)) (fun hin => hG c hin (by simp)) (fun b hb hin => hG b hin (by simp [hb])), hb.upd hu (fun hin => hG pb hin (by simp)), hfar, hat, hov, hcell, hdone, hdry⟩

/-- What is done to other blocks, or to new ones, leaves the threads. -/
theorem ThsB.upd (h : ThsB B w m c pb ty val μ cs O ths) (hu : Upd G w w') (hG : ∀ x ∈ G, x ∈ O) : ThsB B w' m c pb ty val μ cs O ths := by
  obtain ⟨hm, hb, hpm, hput, hdis, hoth, hnew, hnewF⟩ := h
  have hn : ∀ x, x ∈ [pb, m, c] → x ∉ G := fun x hx hin => (hoth x (hG x hin)).2.1 hx
  refine ⟨hm.upd hu (hn m (by simp)) (hn c (by simp)), hb.upd hu (hn pb (by simp)), hpm, fun i th hi => (hput i th hi).upd hu fun x hx hin => ?_, hdis, fun x hx => ⟨Nat.lt_of_lt_of_le (hoth x hx).1 hu.size, (hoth x hx).2⟩, hnew, hnewF⟩
  have ho := hoth x (hG x hx)
  simp only [List.mem_cons] at hin
  rcases hin with e | e | e | e
  · exact ho.2.1 (by simp [e])
  · exact ho.2.1 (by simp [e])
  · exact ho.2.1 (by simp [e])
  · exact ho.2.2 i th hi e
/-- One more other block: a new one. -/
theorem ThsB.more (h : ThsB B w m c pb ty val μ cs O ths) (hu : Upd G w w') (hG : ∀ x ∈ G, x ∈ O) {b : Nat} (h1 : w.heap.size ≤ b) (h2 : b < w'.heap.size) : ThsB B w' m c pb ty val μ cs (b :: O) ths := by
  have h' := h.upd hu hG
  refine ⟨h'.mem, h'.blk, h'.pbmc, h'.put, h'.dis, fun x hx => ?_, h'.new, h'.newF⟩
  simp only [List.mem_cons] at hx
  rcases hx with rfl | hx
  · refine ⟨h2, ?_, fun i th hi hin => ?_⟩
    · have e1 := h.mem.1.lt
      have e2 := h.mem.2.1.lt
      have e3 := h.blk.lt
      simp
      omega
    · have := (h.put i th hi).tm.lt x (by simp [hin])
      omega
  · exact h'.oth x hx
theorem ThsB.less (h : ThsB B w m c pb ty val μ cs O ths) {O' : List Nat} (hO : ∀ x ∈ O', x ∈ O) : ThsB B w m c pb ty val μ cs O' ths :=
  ⟨h.mem, h.blk, h.pbmc, h.put, h.dis, fun x hx => h.oth x (hO x hx), h.new, h.newF⟩
theorem ThsB.none (hm : MemAt w m c μ) (hb : Blk w pb ty cs) (h1 : pb ∉ [m, c]) (h2 : ∀ x ∈ O, x < w.heap.size ∧ x ∉ [pb, m, c]) (h3 : ∀ x ∈ [pb, m, c], B ≤ x) : ThsB B w m c pb ty val μ cs O [] :=
  ⟨hm, hb, h1, by simp, by simp, fun x hx => ⟨(h2 x hx).1, (h2 x hx).2, by simp⟩, h3, by simp⟩
/-- One more thread. -/
theorem ThsB.push (h : ThsB B w m c pb ty val μ cs O ths) {t : Nat} (hb : Below w.heap.size w w') (ht : TM w' m c t μ TrS.new [t]) (hge : w.heap.size ≤ t) (r : Res MemS α) (hcell : ths.length < cs.size) (hB : B ≤ w.heap.size) :
    ThsB B w' m c pb ty val μ cs O (ths ++ [⟨t, TrS.new, [t], r, r.next, false⟩]) := by
  have hu : Upd [] w w' := Upd.of_below hb
  have h' := h.upd hu (by simp)
  have key : ∀ i th, (ths ++ [(⟨t, TrS.new, [t], r, r.next, false⟩ : ThB α)])[i]? = some th → ths[i]? = some th ∨ (i = ths.length ∧ th = ⟨t, TrS.new, [t], r, r.next, false⟩) := by
    intro i th hi
    rcases Nat.lt_trichotomy i ths.length with hl | rfl | hl
    · rw [List.getElem?_append_left hl] at hi
      exact .inl hi
    · simp at hi
      exact .inr ⟨rfl, hi.symm⟩
    · rw [List.getElem?_append_right (by omega)] at hi
      rw [List.getElem?_eq_none (by simp; omega)] at hi
      cases hi
  have hpt : pb ≠ t := by have := h.blk.lt; omega
  refine ⟨h'.mem, h'.blk, h'.pbmc, fun i th hi => ?_, fun i j a b hij hi hj x hx hx2 => ?_, fun x hx => ⟨(h'.oth x hx).1, (h'.oth x hx).2.1, fun i th hi hin => ?_⟩, h'.new, fun i th hi x hx => ?_⟩
  · rcases key i th hi with hi | ⟨rfl, rfl⟩
    · exact h'.put i th hi
    · exact PutB.first ht h'.blk (by have := h.pbmc; simp at this ⊢; exact ⟨this.1, this.2, hpt⟩) hcell
  · rcases key i a hi with hi | ⟨rfl, rfl⟩
    · have hlt := (h.put i a hi).tm.lt x (by simp [hx])
      rcases key j b hj with hj | ⟨rfl, rfl⟩
      · exact h.dis i j a b hij hi hj x hx hx2
      · simp at hx2
        omega
    · simp at hx
      rcases key j b hj with hj | ⟨rfl, rfl⟩
      · have hlt := (h.put j b hj).tm.lt x (by simp [hx2])
        omega
      · exact hij rfl
  · rcases key i th hi with hi | ⟨rfl, rfl⟩
    · exact (h'.oth x hx).2.2 i th hi hin
    · simp at hin
      have := (h.oth x hx).1
      omega
  · rcases key i th hi with hi | ⟨rfl, rfl⟩
    · exact h'.newF i th hi x hx
    · simp at hx
      omega

/-- A step of one of them. -/
theorem ThsB.step {i : Nat} {th : ThB α} {time : Int} {e : Ending} (h : ThsB B w m c pb ty val μ cs O ths) (hi : ths[i]? = some th) (hs : PutStepB w m c th.t pb i ty th.r val μ th.s th.F cs th.cur time e w') (hB : B ≤ w.heap.size) :
    e = .returned (.bool (th.cur.step μ).1.isRet) ∧ ∃ s' F', ThsB B w' m c pb ty val (th.cur.step μ).2.1 ((th.cur.step μ).1.putIn cs i val) O (ths.set i ⟨th.t, s', F', th.r, (th.cur.step μ).1, true⟩) ∧
      s'.told = th.s.told ++ th.cur.tells μ ∧ s'.marks = th.s.marks ++ (th.cur.step μ).2.2.map (fun k => (k, time)) ∧ (∀ x ∈ O, w'.heap[x]? = w.heap[x]?) ∧ Below B w w' ∧ Upd (pb :: m :: c :: th.F) w w' := by
  obtain ⟨he, s', F', hp, ht, hmk, hF', hu⟩ := hs
  have hil : i < ths.length := (List.getElem?_eq_some_iff.1 hi).1
  have key : ∀ j b, (ths.set i ⟨th.t, s', F', th.r, (th.cur.step μ).1, true⟩)[j]? = some b → (j = i ∧ b = ⟨th.t, s', F', th.r, (th.cur.step μ).1, true⟩) ∨ (j ≠ i ∧ ths[j]? = some b) := by
    intro j b hj
    by_cases hji : j = i
    · subst hji
      rw [List.getElem?_set_self hil] at hj
      exact .inl ⟨rfl, by simpa using hj.symm⟩
    · rw [List.getElem?_set_ne (fun e => hji e.symm)] at hj
      exact .inr ⟨hji, hj⟩
  have hlt : ∀ (j : Nat) (b : ThB α), ths[j]? = some b → ∀ x ∈ b.F, x < w.heap.size := fun j b hj x hx => (h.put j b hj).tm.lt x (by simp [hx])
  have hoF : ∀ x ∈ O, x ∉ pb :: m :: c :: th.F := by
    intro x hx hin
    have ho := h.oth x hx
    simp only [List.mem_cons] at hin
    rcases hin with e | e | e | e
    · exact ho.2.1 (by simp [e])
    · exact ho.2.1 (by simp [e])
    · exact ho.2.1 (by simp [e])
    · exact ho.2.2 i th hi e
  refine ⟨he, s', F', ⟨hp.tm.mem, hp.blk, h.pbmc, fun j b hj => ?_, fun j k a b hjk hj hk x hx hx2 => ?_, fun x hx => ⟨Nat.lt_of_lt_of_le (h.oth x hx).1 hu.size, (h.oth x hx).2.1, fun j b hj hin => ?_⟩, h.new, fun j b hj x hx => ?_⟩, ht, hmk, fun x hx => hu.block x (h.oth x hx).1 (hoF x hx), hu.below hB (fun x hx => ?_), hu⟩
  · rcases key j b hj with ⟨rfl, rfl⟩ | ⟨hji, hj⟩
    · exact hp
    · have hq := h.put j b hj
      have hjc : j < cs.size := hq.cell
      refine ⟨⟨hp.tm.mem, hq.tm.tr.upd hu (fun x hx hin => ?_), hq.tm.hm, hq.tm.hc⟩, hp.blk, hq.far, hq.at_, hq.over, by rw [putIn_size]; exact hjc, fun hbb a ha => ?_, hq.dry⟩
      · simp only [List.mem_cons] at hin
        rcases hin with e | e | e | e
        · have := hq.far; subst e; exact this (by simp [hx])
        · exact hq.tm.hm (e ▸ hx)
        · exact hq.tm.hc (e ▸ hx)
        · exact h.dis j i b th hji hj hi x hx e
      · have hd := hq.done hbb a ha
        unfold Res.putIn
        split
        · rw [Array.getElem?_setIfInBounds_ne (fun e => hji e.symm)]
          exact hd
        · exact hd
  · rcases key j a hj with ⟨rfl, rfl⟩ | ⟨hji, hj'⟩
    · rcases key k b hk with ⟨rfl, rfl⟩ | ⟨hki, hk'⟩
      · exact hjk rfl
      · rcases hF' x hx with hx | hx
        · exact h.dis j k th b hjk hi hk' x hx hx2
        · have := hlt k b hk' x hx2; omega
    · rcases key k b hk with ⟨rfl, rfl⟩ | ⟨hki, hk'⟩
      · rcases hF' x hx2 with hx2 | hx2
        · exact h.dis j k a th hjk hj' hi x hx hx2
        · have := hlt j a hj' x hx; omega
      · exact h.dis j k a b hjk hj' hk' x hx hx2
  · rcases key j b hj with ⟨rfl, rfl⟩ | ⟨hji, hj⟩
    · rcases hF' x hin with e | e
      · exact (h.oth x hx).2.2 j th hi e
      · have := (h.oth x hx).1; omega
    · exact (h.oth x hx).2.2 j b hj hin
  · rcases key j b hj with ⟨rfl, rfl⟩ | ⟨hji, hj⟩
    · rcases hF' x hx with e | e
      · exact h.newF j th hi x e
      · omega
    · exact h.newF j b hj x hx
  · simp only [List.mem_cons] at hx
    rcases hx with e | e | e | e
    · exact h.new x (by simp [e])
    · exact h.new x (by simp [e])
    · exact h.new x (by simp [e])
    · exact h.newF i th hi x e
end


/-- The threads: task and place by their states; R: what a trail remembers beside; z: what a cell holds till its task is over. -/
def GThsB {U α : Type} (place task : U → Res MemS α) (bg : U → Bool) (R : TrS → U → Prop) (z : Value) (ty : TypeId) (val : α → Value) (B : Nat) (w : World) (m c pb : Nat) (O : List Nat) (N : Nat) (ts : List Nat) (us : List U) (μ : MemS) : Prop :=
  ∃ (ths : List (ThB α)) (cs : Array Value), ThsB B w m c pb ty val μ cs O ths ∧ cs.size = N ∧ ths.map ThB.t = ts ∧ ths.map ThB.cur = us.map place ∧
    ∀ (i : Nat) (th : ThB α) (u : U), ths[i]? = some th → us[i]? = some u → th.r = task u ∧ th.b = bg u ∧ th.s.dry = true ∧ R th.s u ∧ ((bg u && (place u).isRet) = false → cs[i]? = some z)

section
variable {U α : Type} {place task : U → Res MemS α} {bg : U → Bool} {R : TrS → U → Prop} {z : Value} {ty : TypeId} {val : α → Value} {B : Nat} {w w' : World} {m c pb : Nat} {O G : List Nat} {N : Nat} {ts : List Nat} {us : List U} {μ : MemS}
theorem GThsB.upd (h : GThsB place task bg R z ty val B w m c pb O N ts us μ) (hu : Upd G w w') (hG : ∀ x ∈ G, x ∈ O) : GThsB place task bg R z ty val B w' m c pb O N ts us μ := by
  obtain ⟨ths, cs, h, hr⟩ := h
  exact ⟨ths, cs, h.upd hu hG, hr⟩
theorem GThsB.more (h : GThsB place task bg R z ty val B w m c pb O N ts us μ) (hu : Upd G w w') (hG : ∀ x ∈ G, x ∈ O) {b : Nat} (h1 : w.heap.size ≤ b) (h2 : b < w'.heap.size) : GThsB place task bg R z ty val B w' m c pb (b :: O) N ts us μ := by
  obtain ⟨ths, cs, h, hr⟩ := h
  exact ⟨ths, cs, h.more hu hG h1 h2, hr⟩
theorem GThsB.less (h : GThsB place task bg R z ty val B w m c pb O N ts us μ) {O' : List Nat} (hO : ∀ x ∈ O', x ∈ O) : GThsB place task bg R z ty val B w m c pb O' N ts us μ := by
  obtain ⟨ths, cs, h, hr⟩ := h
  exact ⟨ths, cs, h.less hO, hr⟩
theorem GThsB.mem (h : GThsB place task bg R z ty val B w m c pb O N ts us μ) : MemAt w m c μ := by
  obtain ⟨ths, cs, h, -⟩ := h
  exact h.mem
theorem GThsB.len (h : GThsB place task bg R z ty val B w m c pb O N ts us μ) : ts.length = us.length := by
  obtain ⟨ths, cs, -, -, rfl, hc, -⟩ := h
  have := congrArg List.length hc
  simpa using this
theorem GThsB.free (h : GThsB place task bg R z ty val B w m c pb O N ts us μ) (i : Nat) : w.frozen? ⟨pb, i, none⟩ = false := by
  obtain ⟨ths, cs, h, -⟩ := h
  exact h.blk.free i
theorem GThsB.begin_ {cs : Array Value} (h : ThsB B w m c pb ty val μ cs O []) (hN : cs.size = N) : GThsB place task bg R z ty val B w m c pb O N [] [] μ :=
  ⟨[], cs, h, hN, rfl, rfl, by simp⟩
theorem GThsB.at_ (h : GThsB place task bg R z ty val B w m c pb O N ts us μ) {i t : Nat} {u : U} (ht : ts[i]? = some t) (hu : us[i]? = some u) :
    ∃ (th : ThB α) (cs : Array Value), PutB w m c t pb i ty (task u) val μ th.s th.F cs (place u) (bg u) ∧ R th.s u ∧ ((bg u && (place u).isRet) = false → cs[i]? = some z) ∧ cs.size = N ∧ th.t = t := by
  obtain ⟨ths, cs, h, hN, rfl, hc, hr⟩ := h
  rw [List.getElem?_map] at ht
  cases hth : ths[i]? with
  | none => rw [hth] at ht; cases ht
  | some th =>
    rw [hth] at ht
    injection ht with ht
    have e : (ths.map ThB.cur)[i]? = (us.map place)[i]? := by rw [hc]
    rw [List.getElem?_map, List.getElem?_map, hth, hu] at e
    injection e with e
    have hp := h.put i th hth
    obtain ⟨h1, hbu, hdr, h2, h3⟩ := hr i th u hth hu
    rw [h1, ht, e, hbu] at hp
    exact ⟨th, cs, hp, h2, h3, hN, ht⟩
theorem GThsB.over (h : GThsB place task bg R z ty val B w m c pb O N ts us μ) {i t : Nat} {u : U} (ht : ts[i]? = some t) (hu : us[i]? = some u) : ∃ s F, TM w m c t μ s F ∧ s.over = (bg u && (place u).isRet) ∧ s.dry = true ∧ R s u := by
  obtain ⟨th, cs, hp, hR, -⟩ := h.at_ ht hu
  exact ⟨_, _, hp.tm, hp.over, hp.dry, hR⟩
theorem GThsB.cell_ret (h : GThsB place task bg R z ty val B w m c pb O N ts us μ) {i t : Nat} {u : U} (ht : ts[i]? = some t) (hu : us[i]? = some u) {a : α} (hb : bg u = true) (ha : place u = .ret a) : w.cell? ⟨pb, i, none⟩ = some (val a) := by
  obtain ⟨th, cs, hp, -⟩ := h.at_ ht hu
  exact hp.blk.at_ (hp.done hb a ha)
theorem GThsB.cell_not (h : GThsB place task bg R z ty val B w m c pb O N ts us μ) {i t : Nat} {u : U} (ht : ts[i]? = some t) (hu : us[i]? = some u) (ha : (bg u && (place u).isRet) = false) : w.cell? ⟨pb, i, none⟩ = some z := by
  obtain ⟨th, cs, hp, -, h3, -⟩ := h.at_ ht hu
  exact hp.blk.at_ (h3 ha)

/-- One more of them. -/
theorem GThsB.push {t : Nat} (h : GThsB place task bg R z ty val B w m c pb O N ts us μ) (u : U) (hz : ∀ (i : Nat) (cs : Array Value), i < N → us.length ≤ i → Blk w pb ty cs → cs[i]? = some z) (hb : Below w.heap.size w w') (htm : TM w' m c t μ TrS.new [t]) (hge : w.heap.size ≤ t) (hN : ts.length < N) (hB : B ≤ w.heap.size)
    (hp : place u = (task u).next) (hb0 : bg u = false) (hR : R TrS.new u) :
    GThsB place task bg R z ty val B w' m c pb O N (ts ++ [t]) (us ++ [u]) μ := by
  have hlen := h.len
  obtain ⟨ths, cs, h, hcs, rfl, hc, hr'⟩ := h
  have hl : ths.length = us.length := by simpa using hlen
  have hzz := hz us.length cs (by simp at hN; omega) (Nat.le_refl _) h.blk
  refine ⟨_, cs, h.push hb htm hge (task u) (by simpa [hcs] using hN) hB, hcs, by simp, by simp [hc, hp], fun i th u2 hi hu2 => ?_⟩
  rcases Nat.lt_trichotomy i ths.length with hlt | rfl | hlt
  · rw [List.getElem?_append_left hlt] at hi
    rw [List.getElem?_append_left (by omega)] at hu2
    exact hr' i th u2 hi hu2
  · rw [hl] at hu2 ⊢
    simp at hi hu2
    subst hi hu2
    exact ⟨rfl, hb0.symm, rfl, hR, fun _ => hzz⟩
  · rw [List.getElem?_append_right (by omega), List.getElem?_eq_none (by simp; omega)] at hi
    cases hi

/-- A step of one of them. -/
theorem GThsB.step {i t : Nat} {u u' : U} {time : Int} {f : FuncId} {args : Array Value} {P : Program} (h : GThsB place task bg R z ty val B w m c pb O N ts us μ) (ht : ts[i]? = some t) (hu : us[i]? = some u) (hB : B ≤ w.heap.size)
    (hcall : ∀ (s : TrS) (F : List Nat) (cs : Array Value), PutB w m c t pb i ty (task u) val μ s F cs (place u) (bg u) → R s u → ((bg u && (place u).isRet) = false → cs[i]? = some z) → (∀ x ∈ pb :: m :: c :: F, B ≤ x) → Calls P f args w (PutStepB w m c t pb i ty (task u) val μ s F cs (place u) time))
    (hp : ((place u).step μ).1 = place u') (ht' : task u' = task u) (hb' : bg u' = true) (hR : ∀ s s' : TrS, R s u → s'.told = s.told ++ (place u).tells μ → s'.marks = s.marks ++ ((place u).step μ).2.2.map (fun k => (k, time)) → R s' u') :
    Calls P f args w fun ed w' => ed = .returned (.bool (place u').isRet) ∧ GThsB place task bg R z ty val B w' m c pb O N ts (us.set i u') ((place u).step μ).2.1 ∧ (∃ G, Upd G w w' ∧ ∀ x ∈ O, x ∉ G) ∧ Below B w w' := by
  obtain ⟨ths, cs, h, hN, rfl, hc, hr⟩ := h
  rw [List.getElem?_map] at ht
  cases hth : ths[i]? with
  | none => rw [hth] at ht; cases ht
  | some th =>
    rw [hth] at ht
    injection ht with ht
    have e : (ths.map ThB.cur)[i]? = (us.map place)[i]? := by rw [hc]
    rw [List.getElem?_map, List.getElem?_map, hth, hu] at e
    injection e with e
    have hpp := h.put i th hth
    obtain ⟨h1, hbu, hdr, h2, h3⟩ := hr i th u hth hu
    have hil : i < ths.length := (List.getElem?_eq_some_iff.1 hth).1
    have hul : i < us.length := (List.getElem?_eq_some_iff.1 hu).1
    subst ht
    have hpp' := hpp
    rw [h1, e, hbu] at hpp'
    have hnew : ∀ x ∈ pb :: m :: c :: th.F, B ≤ x := fun x hx => by
      simp only [List.mem_cons] at hx
      rcases hx with e | e | e | e
      · exact h.new x (by simp [e])
      · exact h.new x (by simp [e])
      · exact h.new x (by simp [e])
      · exact h.newF i th hth x e
    refine (hcall th.s th.F cs hpp' h2 h3 hnew).mono fun ed w' hs => ?_
    rw [← h1, ← e] at hs
    obtain ⟨he, s', F', hth', htold, hmk, -, hbl, hupd⟩ := h.step hth hs hB
    have hO : ∃ G, Upd G w w' ∧ ∀ x ∈ O, x ∉ G := ⟨_, hupd, fun x hx hin => by
      have ho := h.oth x hx
      simp only [List.mem_cons] at hin
      rcases hin with e | e | e | e
      · exact ho.2.1 (by simp [e])
      · exact ho.2.1 (by simp [e])
      · exact ho.2.1 (by simp [e])
      · exact ho.2.2 i th hth e⟩
    rw [e] at hth' he htold hmk
    rw [hp] at hth' he
    refine ⟨he, ⟨_, _, hth', by rw [putIn_size]; exact hN, ?_, ?_, fun j th2 u2 hj hu2 => ?_⟩, hO, hbl⟩
    · rw [List.map_set]
      apply List.ext_getElem? ; intro j
      by_cases hj : i = j
      · subst hj
        rw [List.getElem?_set_self (by simpa using hil), List.getElem?_map, hth]
        rfl
      · rw [List.getElem?_set_ne hj]
    · rw [List.map_set, List.map_set, hc]
    · by_cases hij : i = j
      · subst hij
        rw [List.getElem?_set_self hil] at hj
        rw [List.getElem?_set_self hul] at hu2
        injection hj with hj
        injection hu2 with hu2
        subst hj hu2
        refine ⟨by rw [ht']; exact h1, hb'.symm, (hth'.put i _ (List.getElem?_set_self hil)).dry, hR _ _ h2 htold hmk, fun hnr => ?_⟩
        rw [hb', Bool.true_and] at hnr
        rw [putIn_next _ _ _ _ hnr]
        refine h3 ?_
        cases hpl : place u with
        | ret a => rw [hpl] at hp; simp only [Res.step] at hp; rw [← hp] at hnr; simp [Res.isRet] at hnr
        | acc d k => simp [Res.isRet]
        | mark kd k => simp [Res.isRet]
      · rw [List.getElem?_set_ne hij] at hj hu2
        obtain ⟨a1, ab, ad, a2, a3⟩ := hr j th2 u2 hj hu2
        refine ⟨a1, ab, ad, a2, fun ho => ?_⟩
        unfold Res.putIn
        split
        · rw [Array.getElem?_setIfInBounds_ne hij]
          exact a3 ho
        · exact a3 ho

/-- A row of pointers grew by one, beside others. -/
theorem GThsB.grew {A : Option Addr} {n cap n' cap' lo sz : Nat} {e : TypeId} {v' : Value} {xs' : List Value} {o : Obj} {w4 : World} (h : GThsB place task bg R z ty val B w m c pb (blockOf' A ++ O) N ts us μ)
    (hg : (w.alloc o).grownBy w4 (Value.slice A n cap).ownBlock) (hat : v'.ownBlock = (Value.slice A n cap).ownBlock ∨ v'.ownBlock = some (w.alloc o).heap.size) (hown : w4.ownsRow lo e sz v' n' xs') {g : Nat} (hv : v' = .slice (some ⟨g, 0, none⟩) n' cap') :
    GThsB place task bg R z ty val B w4 m c pb (g :: O) N ts us μ := by
  subst hv
  have hu : Upd (blockOf' A) w w4 := ((Upd.refl _ _).alloc o).grown hg (fun b hb => by
    cases A with
    | none => simp [Value.ownBlock] at hb
    | some a => simp [Value.ownBlock] at hb; exact .inl (by simp [blockOf', hb]))
  rcases hat with e | e
  · cases A with
    | none => simp [Value.ownBlock] at e
    | some a =>
      simp [Value.ownBlock] at e
      exact (h.upd hu (fun x hx => by simp [hx])).less (by simp [blockOf', e])
  · simp [Value.ownBlock] at e
    exact (h.more hu (fun x hx => by simp [hx]) (b := g) (by omega) (hown.lt g rfl).2).less (by simp; intro x hx; exact .inr (.inr hx))
end

end Go.Proofs.Ytcphidmfdakbeaa
