/- Many tasks on one memory, each of which puts its answer into a cell of one block: what a step of one of them does. -/
import Derived.Test.YtcphidmfdakbeaaPut
namespace Go.Proofs.Ytcphidmfdakbeaa
open Go.RowKit

/-- A thread: its trail, what it remembers, its blocks, its task, and the place where that is. -/
structure Th (α : Type) where
  t : Nat
  s : TrS
  F : List Nat
  r : Res MemS α
  cur : Res MemS α

/-- The threads, on one memory; other blocks O that they leave alone; all is above B. -/
structure Ths {α : Type} (B : Nat) (w : World) (m c pb : Nat) (ty : TypeId) (val : α → Value) (μ : MemS) (cs : Array Value) (O : List Nat) (ths : List (Th α)) : Prop where
  mem : MemAt w m c μ
  blk : Blk w pb ty cs
  pbmc : pb ∉ [m, c]
  put : ∀ (i : Nat) (th : Th α), ths[i]? = some th → Put w m c th.t pb i ty th.r val μ th.s th.F cs th.cur
  dis : ∀ (i j : Nat) (a b : Th α), i ≠ j → ths[i]? = some a → ths[j]? = some b → ∀ x ∈ a.F, x ∉ b.F
  oth : ∀ x ∈ O, x < w.heap.size ∧ x ∉ [pb, m, c] ∧ ∀ (i : Nat) (th : Th α), ths[i]? = some th → x ∉ th.F
  new : ∀ x ∈ [pb, m, c], B ≤ x
  newF : ∀ (i : Nat) (th : Th α), ths[i]? = some th → ∀ x ∈ th.F, B ≤ x

section
variable {α : Type} {B : Nat} {w w' : World} {m c pb : Nat} {ty : TypeId} {val : α → Value} {μ : MemS} {cs : Array Value} {O G : List Nat} {ths : List (Th α)}

theorem Put.upd {t po : Nat} {r : Res MemS α} {s : TrS} {F : List Nat} {cur : Res MemS α} (h : Put w m c t pb po ty r val μ s F cs cur) (hu : Upd G w w') (hG : ∀ x ∈ G, x ∉ pb :: m :: c :: F) : Put w' m c t pb po ty r val μ s F cs cur := by
  obtain ⟨ht, hb, hfar, hat, hov, hcell, hdone⟩ := h
  exact ⟨ht.upd hu (fun hin => hG m hin (by simp)) (fun hin => hG c hin (by simp)) (fun b hb hin => hG b hin (by simp [hb])), hb.upd hu (fun hin => hG pb hin (by simp)), hfar, hat, hov, hcell, hdone⟩

/-- What is done to other blocks, or to new ones, leaves the threads. -/
theorem Ths.upd (h : Ths B w m c pb ty val μ cs O ths) (hu : Upd G w w') (hG : ∀ x ∈ G, x ∈ O) : Ths B w' m c pb ty val μ cs O ths := by
  obtain ⟨hm, hb, hpm, hput, hdis, hoth, hnew, hnewF⟩ := h
  have hn : ∀ x, x ∈ [pb, m, c] → x ∉ G := fun x hx hin => (hoth x (hG x hin)).2.1 hx
  refine ⟨hm.upd hu (hn m (by simp)) (hn c (by simp)), hb.upd hu (hn pb (by simp)), hpm, fun i th hi => (hput i th hi).upd hu fun x hx hin => ?_, hdis, fun x hx => ⟨Nat.lt_of_lt_of_le (hoth x hx).1 hu.size, (hoth x hx).2⟩, hnew, hnewF⟩
  have ho := hoth x (hG x hx)
  simp only [List.mem_cons] at hin
  rcases hin with e | e | e | e
  · exact ho.2.1 (by simp [e])
  · exact ho.2.1 (by simp [e])
  · exact ho.2.1 (by simp [e])
  · exact ho.2.2 i th hi e
/-- One more other block: a new one. -/
theorem Ths.more (h : Ths B w m c pb ty val μ cs O ths) (hu : Upd G w w') (hG : ∀ x ∈ G, x ∈ O) {b : Nat} (h1 : w.heap.size ≤ b) (h2 : b < w'.heap.size) : Ths B w' m c pb ty val μ cs (b :: O) ths := by
  have h' := h.upd hu hG
  refine ⟨h'.mem, h'.blk, h'.pbmc, h'.put, h'.dis, fun x hx => ?_, h'.new, h'.newF⟩
  simp only [List.mem_cons] at hx
  rcases hx with rfl | hx
  · refine ⟨h2, ?_, fun i th hi hin => ?_⟩
    · have e1 := h.mem.1.lt
      have e2 := h.mem.2.1.lt
      have e3 := h.blk.lt
      simp
      omega
    · have := (h.put i th hi).tm.lt x (by simp [hin])
      omega
  · exact h'.oth x hx
theorem Ths.less (h : Ths B w m c pb ty val μ cs O ths) {O' : List Nat} (hO : ∀ x ∈ O', x ∈ O) : Ths B w m c pb ty val μ cs O' ths :=
  ⟨h.mem, h.blk, h.pbmc, h.put, h.dis, fun x hx => h.oth x (hO x hx), h.new, h.newF⟩
theorem Ths.none (hm : MemAt w m c μ) (hb : Blk w pb ty cs) (h1 : pb ∉ [m, c]) (h2 : ∀ x ∈ O, x < w.heap.size ∧ x ∉ [pb, m, c]) (h3 : ∀ x ∈ [pb, m, c], B ≤ x) : Ths B w m c pb ty val μ cs O [] :=
  ⟨hm, hb, h1, by simp, by simp, fun x hx => ⟨(h2 x hx).1, (h2 x hx).2, by simp⟩, h3, by simp⟩
/-- One more thread. -/
theorem Ths.push (h : Ths B w m c pb ty val μ cs O ths) {t : Nat} (hb : Below w.heap.size w w') (ht : TM w' m c t μ TrS.new [t]) (hge : w.heap.size ≤ t) (r : Res MemS α) (hr : r.next.isRet = false) (hcell : ths.length < cs.size) (hB : B ≤ w.heap.size) :
    Ths B w' m c pb ty val μ cs O (ths ++ [⟨t, TrS.new, [t], r, r.next⟩]) := by
  have hu : Upd [] w w' := Upd.of_below hb
  have h' := h.upd hu (by simp)
  have key : ∀ i th, (ths ++ [(⟨t, TrS.new, [t], r, r.next⟩ : Th α)])[i]? = some th → ths[i]? = some th ∨ (i = ths.length ∧ th = ⟨t, TrS.new, [t], r, r.next⟩) := by
    intro i th hi
    rcases Nat.lt_trichotomy i ths.length with hl | rfl | hl
    · rw [List.getElem?_append_left hl] at hi
      exact .inl hi
    · simp at hi
      exact .inr ⟨rfl, hi.symm⟩
    · rw [List.getElem?_append_right (by omega)] at hi
      rw [List.getElem?_eq_none (by simp; omega)] at hi
      cases hi
  have hpt : pb ≠ t := by have := h.blk.lt; omega
  refine ⟨h'.mem, h'.blk, h'.pbmc, fun i th hi => ?_, fun i j a b hij hi hj x hx hx2 => ?_, fun x hx => ⟨(h'.oth x hx).1, (h'.oth x hx).2.1, fun i th hi hin => ?_⟩, h'.new, fun i th hi x hx => ?_⟩
  · rcases key i th hi with hi | ⟨rfl, rfl⟩
    · exact h'.put i th hi
    · exact Put.first ht h'.blk (by have := h.pbmc; simp at this ⊢; exact ⟨this.1, this.2, hpt⟩) hcell hr
  · rcases key i a hi with hi | ⟨rfl, rfl⟩
    · have hlt := (h.put i a hi).tm.lt x (by simp [hx])
      rcases key j b hj with hj | ⟨rfl, rfl⟩
      · exact h.dis i j a b hij hi hj x hx hx2
      · simp at hx2
        omega
    · simp at hx
      rcases key j b hj with hj | ⟨rfl, rfl⟩
      · have hlt := (h.put j b hj).tm.lt x (by simp [hx2])
        omega
      · exact hij rfl
  · rcases key i th hi with hi | ⟨rfl, rfl⟩
    · exact (h'.oth x hx).2.2 i th hi hin
    · simp at hin
      have := (h.oth x hx).1
      omega
  · rcases key i th hi with hi | ⟨rfl, rfl⟩
    · exact h'.newF i th hi x hx
    · simp at hx
      omega

/-- A step of one of them. -/
theorem Ths.step {i : Nat} {th : Th α} {time : Int} {e : Ending} (h : Ths B w m c pb ty val μ cs O ths) (hi : ths[i]? = some th) (hs : PutStep w m c th.t pb i ty th.r val μ th.s th.F cs th.cur time e w') (hB : B ≤ w.heap.size) :
    e = .returned (.bool (th.cur.step μ).1.isRet) ∧ ∃ s' F', Ths B w' m c pb ty val (th.cur.step μ).2.1 ((th.cur.step μ).1.putIn cs i val) O (ths.set i ⟨th.t, s', F', th.r, (th.cur.step μ).1⟩) ∧
      s'.told = th.s.told ++ th.cur.tells μ ∧ s'.marks = th.s.marks ++ (th.cur.step μ).2.2.map (fun k => (k, time)) ∧ (∀ x ∈ O, w'.heap[x]? = w.heap[x]?) ∧ Below B w w' ∧ Upd (pb :: m :: c :: th.F) w w' := by
  obtain ⟨he, s', F', hp, ht, hmk, hF', hu⟩ := hs
  have hil : i < ths.length := (List.getElem?_eq_some_iff.1 hi).1
  have key : ∀ j b, (ths.set i ⟨th.t, s', F', th.r, (th.cur.step μ).1⟩)[j]? = some b → (j = i ∧ b = ⟨th.t, s', F', th.r, (th.cur.step μ).1⟩) ∨ (j ≠ i ∧ ths[j]? = some b) := by
    intro j b hj
    by_cases hji : j = i
    · subst hji
      rw [List.getElem?_set_self hil] at hj
      exact .inl ⟨rfl, by simpa using hj.symm⟩
    · rw [List.getElem?_set_ne (fun e => hji e.symm)] at hj
      exact .inr ⟨hji, hj⟩
  have hlt : ∀ (j : Nat) (b : Th α), ths[j]? = some b → ∀ x ∈ b.F, x < w.heap.size := fun j b hj x hx => (h.put j b hj).tm.lt x (by simp [hx])
  have hoF : ∀ x ∈ O, x ∉ pb :: m :: c :: th.F := by
    intro x hx hin
    have ho := h.oth x hx
    simp only [List.mem_cons] at hin
    rcases hin with e | e | e | e
    · exact ho.2.1 (by simp [e])
    · exact ho.2.1 (by simp [e])
    · exact ho.2.1 (by simp [e])
    · exact ho.2.2 i th hi e
  refine ⟨he, s', F', ⟨hp.tm.mem, hp.blk, h.pbmc, fun j b hj => ?_, fun j k a b hjk hj hk x hx hx2 => ?_, fun x hx => ⟨Nat.lt_of_lt_of_le (h.oth x hx).1 hu.size, (h.oth x hx).2.1, fun j b hj hin => ?_⟩, h.new, fun j b hj x hx => ?_⟩, ht, hmk, fun x hx => hu.block x (h.oth x hx).1 (hoF x hx), hu.below hB (fun x hx => ?_), hu⟩
  · rcases key j b hj with ⟨rfl, rfl⟩ | ⟨hji, hj⟩
    · exact hp
    · have hq := h.put j b hj
      have hjc : j < cs.size := hq.cell
      refine ⟨⟨hp.tm.mem, hq.tm.tr.upd hu (fun x hx hin => ?_), hq.tm.hm, hq.tm.hc⟩, hp.blk, hq.far, hq.at_, hq.over, by rw [putIn_size]; exact hjc, fun a ha => ?_⟩
      · simp only [List.mem_cons] at hin
        rcases hin with e | e | e | e
        · have := hq.far; subst e; exact this (by simp [hx])
        · exact hq.tm.hm (e ▸ hx)
        · exact hq.tm.hc (e ▸ hx)
        · exact h.dis j i b th hji hj hi x hx e
      · have hd := hq.done a ha
        unfold Res.putIn
        split
        · rw [Array.getElem?_setIfInBounds_ne (fun e => hji e.symm)]
          exact hd
        · exact hd
  · rcases key j a hj with ⟨rfl, rfl⟩ | ⟨hji, hj'⟩
    · rcases key k b hk with ⟨rfl, rfl⟩ | ⟨hki, hk'⟩
      · exact hjk rfl
      · rcases hF' x hx with hx | hx
        · exact h.dis j k th b hjk hi hk' x hx hx2
        · have := hlt k b hk' x hx2; omega
    · rcases key k b hk with ⟨rfl, rfl⟩ | ⟨hki, hk'⟩
      · rcases hF' x hx2 with hx2 | hx2
        · exact h.dis j k a th hjk hj' hi x hx hx2
        · have := hlt j a hj' x hx; omega
      · exact h.dis j k a b hjk hj' hk' x hx hx2
  · rcases key j b hj with ⟨rfl, rfl⟩ | ⟨hji, hj⟩
    · rcases hF' x hin with e | e
      · exact (h.oth x hx).2.2 j th hi e
      · have := (h.oth x hx).1; omega
    · exact (h.oth x hx).2.2 j b hj hin
  · rcases key j b hj with ⟨rfl, rfl⟩ | ⟨hji, hj⟩
    · rcases hF' x hx with e | e
      · exact h.newF j th hi x e
      · omega
    · exact h.newF j b hj x hx
  · simp only [List.mem_cons] at hx
    rcases hx with e | e | e | e
    · exact h.new x (by simp [e])
    · exact h.new x (by simp [e])
    · exact h.new x (by simp [e])
    · exact h.newF i th hi x e
end

/-- A call that leaves the world, in a region that draws its order. -/
theorem quiet_own {P : Program} {f : FuncId} {args : Array Value} {w : World} {n : Nat} {v : Value}
    (h : Calls P f args (w.drewN n) fun e w' => e = .returned v ∧ w.drewN n = w') : Calls P f args (w.drewN n) fun e w'' => e = .returned v ∧ ∃ m, w'' = w.drewN m :=
  h.mono fun _ _ ⟨he, hm⟩ => ⟨he, n, hm.symm⟩
end Go.Proofs.Ytcphidmfdakbeaa
