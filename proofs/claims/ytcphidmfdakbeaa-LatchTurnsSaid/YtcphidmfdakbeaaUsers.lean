/- The latch's users as threads: what each step does, in words of the chapter. -/
import Derived.Test.YtcphidmfdakbeaaLaw05
import Derived.Test.YtcphidmfdakbeaaThreads
namespace Go.Proofs.Ytcphidmfdakbeaa
open Go.RowKit

/-- Where a user is, its ticket, and what it saw. -/
structure US where
  at_ : Nat
  ticket : Int
  saw : Int
deriving DecidableEq

/-- The memory's three cells. -/
structure Ls where
  n : Int
  d : Int
  s : Int
deriving DecidableEq

def US.place (u : US) : Res MemS Int :=
  match u.at_ with
  | 0 => userR.next
  | 1 => waitP u.ticket
  | 2 => loadP u.ticket
  | 3 => storeP u.ticket u.saw
  | 4 => giveP u.ticket
  | _ => .ret u.ticket

def US.step (u : US) (l : Ls) : US × Ls :=
  match u.at_ with
  | 0 => ({ u with at_ := 1, ticket := l.d }, { l with d := wrap64 (l.d + 1) })
  | 1 => if l.s = u.ticket then ({ u with at_ := 2 }, l) else (u, l)
  | 2 => ({ u with at_ := 3, saw := l.n }, l)
  | 3 => ({ u with at_ := 4 }, { l with n := wrap64 (u.saw + 1) })
  | 4 => ({ u with at_ := 5 }, { l with s := wrap64 (u.ticket + 1) })
  | _ => (u, l)

theorem place_ret (u : US) (h : u.at_ ≤ 5) : u.place.isRet = (u.at_ == 5) := by
  obtain ⟨a, k, v⟩ := u
  match a, h with
  | 0, _ => rfl
  | 1, _ => rfl
  | 2, _ => rfl
  | 3, _ => rfl
  | 4, _ => rfl
  | 5, _ => rfl
theorem step_at (u : US) (l : Ls) (h : u.at_ ≤ 5) : (u.step l).1.at_ ≤ 5 := by
  obtain ⟨a, k, v⟩ := u
  match a, h with
  | 0, _ => simp [US.step]
  | 1, _ => simp only [US.step]; split <;> simp
  | 2, _ => simp [US.step]
  | 3, _ => simp [US.step]
  | 4, _ => simp [US.step]
  | 5, _ => simp [US.step]
theorem step_place (u : US) (l : Ls) (cnt : Int) (h : u.at_ ≤ 5) :
    ∃ cnt', (u.place.step ⟨[l.n, l.d, l.s], cnt⟩).1 = (u.step l).1.place ∧ (u.place.step ⟨[l.n, l.d, l.s], cnt⟩).2.1 = ⟨[(u.step l).2.n, (u.step l).2.d, (u.step l).2.s], cnt'⟩ := by
  obtain ⟨a, k, v⟩ := u
  obtain ⟨n, d, s⟩ := l
  match a, h with
  | 0, _ =>
    refine ⟨wrap64 (cnt + 1), ?_⟩
    simp [US.place, US.step, user_eq, Res.next, Res.step, dAdd, MemS.add, MemS.has, MemS.tick, MemS.get, MemS.set, waitP]
  | 1, _ =>
    refine ⟨wrap64 (cnt + 1), ?_⟩
    by_cases hs : s = k
    · simp [US.place, US.step, waitP, Res.next, Res.step, dWait, MemS.load, MemS.has, MemS.tick, MemS.get, hs, loadP]
    · simp [US.place, US.step, waitP, Res.step, dWait, MemS.load, MemS.has, MemS.tick, MemS.get, hs]
  | 2, _ =>
    refine ⟨wrap64 (cnt + 1), ?_⟩
    simp [US.place, US.step, loadP, Res.next, Res.step, dLoad, MemS.load, MemS.has, MemS.tick, MemS.get, storeP]
  | 3, _ =>
    refine ⟨wrap64 (cnt + 1), ?_⟩
    simp [US.place, US.step, storeP, Res.next, Res.step, dStore, MemS.store, MemS.has, MemS.tick, MemS.set, giveP]
  | 4, _ =>
    refine ⟨wrap64 (cnt + 1), ?_⟩
    simp [US.place, US.step, giveP, Res.next, Res.step, dStore, MemS.store, MemS.has, MemS.tick, MemS.set]
  | 5, _ =>
    refine ⟨cnt, ?_⟩
    simp [US.place, US.step, Res.step]

/-- The users' threads, in these words. -/
def UThs (B : Nat) (w : World) (m c pb : Nat) (O : List Nat) (K N : Nat) (ts : List Nat) (us : List US) (l : Ls) : Prop :=
  ∃ (ths : List (Th Int)) (cs : Array Value) (cnt : Int), Ths B w m c pb 2 (Value.int .i64) ⟨[l.n, l.d, l.s], cnt⟩ cs O ths ∧ cs.size = N ∧ ths.map Th.t = ts ∧ ths.map Th.cur = us.map US.place ∧
    (∀ th ∈ ths, th.r = userR ∧ th.s.told.length ≤ K) ∧ (∀ u ∈ us, u.at_ ≤ 5)

section
variable {B : Nat} {w w' : World} {m c pb : Nat} {O G : List Nat} {K N : Nat} {ts : List Nat} {us : List US} {l : Ls}
theorem UThs.upd (h : UThs B w m c pb O K N ts us l) (hu : Upd G w w') (hG : ∀ x ∈ G, x ∈ O) : UThs B w' m c pb O K N ts us l := by
  obtain ⟨ths, cs, cnt, h, hr⟩ := h
  exact ⟨ths, cs, cnt, h.upd hu hG, hr⟩
theorem UThs.more (h : UThs B w m c pb O K N ts us l) (hu : Upd G w w') (hG : ∀ x ∈ G, x ∈ O) {b : Nat} (h1 : w.heap.size ≤ b) (h2 : b < w'.heap.size) : UThs B w' m c pb (b :: O) K N ts us l := by
  obtain ⟨ths, cs, cnt, h, hr⟩ := h
  exact ⟨ths, cs, cnt, h.more hu hG h1 h2, hr⟩
theorem UThs.less (h : UThs B w m c pb O K N ts us l) {O' : List Nat} (hO : ∀ x ∈ O', x ∈ O) : UThs B w m c pb O' K N ts us l := by
  obtain ⟨ths, cs, cnt, h, hr⟩ := h
  exact ⟨ths, cs, cnt, h.less hO, hr⟩
theorem UThs.mem (h : UThs B w m c pb O K N ts us l) : ∃ cnt, MemAt w m c ⟨[l.n, l.d, l.s], cnt⟩ := by
  obtain ⟨ths, cs, cnt, h, -⟩ := h
  exact ⟨cnt, h.mem⟩
/-- Somebody else counts an access. -/
theorem UThs.loaded (h : UThs B w m c pb O K N ts us l) {cnt : Int} (hm : MemAt w' m c ⟨[l.n, l.d, l.s], cnt⟩) (hu : Upd [m] w w') : UThs B w' m c pb O K N ts us l := by
  obtain ⟨ths, cs, cnt', ⟨h1, h2, h3, h4, h5, h6, h7, h8⟩, hr⟩ := h
  refine ⟨ths, cs, cnt, ⟨hm, h2.upd hu (by simp at h3 ⊢; exact h3.1), h3, fun i th hi => (h4 i th hi).mem hm hu (by simp), h5, fun x hx => ⟨Nat.lt_of_lt_of_le (h6 x hx).1 hu.size, (h6 x hx).2⟩, h7, h8⟩, hr⟩
theorem UThs.len (h : UThs B w m c pb O K N ts us l) : ts.length = us.length := by
  obtain ⟨ths, cs, cnt, -, -, rfl, hc, -⟩ := h
  have := congrArg List.length hc
  simpa using this
theorem UThs.at_ (h : UThs B w m c pb O K N ts us l) {i t : Nat} {u : US} (ht : ts[i]? = some t) (hu : us[i]? = some u) :
    ∃ (th : Th Int) (cs : Array Value) (cnt : Int), Put w m c t pb i 2 userR (Value.int .i64) ⟨[l.n, l.d, l.s], cnt⟩ th.s th.F cs th.cur ∧ th.cur = u.place ∧ u.at_ ≤ 5 ∧ cs.size = N := by
  obtain ⟨ths, cs, cnt, h, hN, rfl, hc, hr, h5⟩ := h
  rw [List.getElem?_map] at ht
  cases hth : ths[i]? with
  | none => rw [hth] at ht; cases ht
  | some th =>
    rw [hth] at ht
    injection ht with ht
    have e : (ths.map Th.cur)[i]? = (us.map US.place)[i]? := by rw [hc]
    rw [List.getElem?_map, List.getElem?_map, hth, hu] at e
    injection e with e
    have hp := h.put i th hth
    rw [(hr th (List.mem_of_getElem? hth)).1, ht] at hp
    exact ⟨th, cs, cnt, hp, e, h5 u (List.mem_of_getElem? hu), hN⟩
theorem UThs.over (h : UThs B w m c pb O K N ts us l) {i t : Nat} {u : US} (ht : ts[i]? = some t) (hu : us[i]? = some u) : ∃ s F μ, TM w m c t μ s F ∧ s.over = (u.at_ == 5) := by
  obtain ⟨th, cs, cnt, hp, hc, h5, -⟩ := h.at_ ht hu
  exact ⟨_, _, _, hp.tm, by rw [hp.over, hc, place_ret u h5]⟩
theorem UThs.got (h : UThs B w m c pb O K N ts us l) {i t : Nat} {u : US} (ht : ts[i]? = some t) (hu : us[i]? = some u) (h5 : u.at_ = 5) : w.cell? ⟨pb, i, none⟩ = some (.int .i64 u.ticket) := by
  obtain ⟨th, cs, cnt, hp, hc, -, -⟩ := h.at_ ht hu
  obtain ⟨a, k, v⟩ := u
  simp only at h5
  subst h5
  exact hp.blk.at_ (hp.done k hc)
theorem UThs.free (h : UThs B w m c pb O K N ts us l) (i : Nat) : w.frozen? ⟨pb, i, none⟩ = false := by
  obtain ⟨ths, cs, cnt, h, -⟩ := h
  exact h.blk.free i

/-- One more of them. -/
theorem UThs.push {t : Nat} (h : UThs B w m c pb O K N ts us l) {cnt : Int} (hm : MemAt w m c ⟨[l.n, l.d, l.s], cnt⟩) (hb : Below w.heap.size w w') (htm : TM w' m c t ⟨[l.n, l.d, l.s], cnt⟩ TrS.new [t]) (hge : w.heap.size ≤ t) (hN : ts.length < N) (hB : B ≤ w.heap.size) :
    UThs B w' m c pb O K N (ts ++ [t]) (us ++ [⟨0, 0, 0⟩]) l := by
  obtain ⟨ths, cs, cnt', h, hcs, rfl, hc, hr, h5⟩ := h
  obtain rfl : cnt' = cnt := by
    have := (h.mem.1.inj hm.1).2
    simpa using this
  refine ⟨_, cs, cnt', h.push hb htm hge userR rfl (by simpa [hcs] using hN) hB, hcs, by simp, by simp [hc, US.place], fun th hth => ?_, fun u hu => ?_⟩
  · simp only [List.mem_append, List.mem_singleton] at hth
    rcases hth with hth | rfl
    · exact hr th hth
    · exact ⟨rfl, Nat.zero_le _⟩
  · simp only [List.mem_append, List.mem_singleton] at hu
    rcases hu with hu | rfl
    · exact h5 u hu
    · simp

/-- A step of one of them. -/
theorem UThs.step {i t : Nat} {u : US} (h : UThs B w m c pb O K N ts us l) (ht : ts[i]? = some t) (hu : us[i]? = some u) (hK : K < 1000000) (hB : B ≤ w.heap.size) (time : Int) :
    Calls Try.prog 19 #[.pointer (some ⟨t, 0, none⟩), .int .i64 time, .func (.func 41) #[.agg #[.pointer (some ⟨pb, i, none⟩)]] #[]] w fun e w' =>
      e = .returned (.bool ((u.step l).1.at_ == 5)) ∧ UThs B w' m c pb O (K + 1) N ts (us.set i (u.step l).1) (u.step l).2 ∧ (∀ x ∈ O, w'.heap[x]? = w.heap[x]?) ∧ Below B w w' := by
  obtain ⟨ths, cs, cnt, h, hN, rfl, hc, hr, h5⟩ := h
  rw [List.getElem?_map] at ht
  cases hth : ths[i]? with
  | none => rw [hth] at ht; cases ht
  | some th =>
    rw [hth] at ht
    injection ht with ht
    have e : (ths.map Th.cur)[i]? = (us.map US.place)[i]? := by rw [hc]
    rw [List.getElem?_map, List.getElem?_map, hth, hu] at e
    injection e with e
    have hp := h.put i th hth
    have hrr := hr th (List.mem_of_getElem? hth)
    have h5u := h5 u (List.mem_of_getElem? hu)
    have hp' := hp
    rw [hrr.1] at hp'
    rw [← ht]
    refine (user_step m c th.t pb i _ _ th.s th.F cs th.cur time w hp' (by omega)).mono fun e' w' hs => ?_
    rw [← hrr.1] at hs
    obtain ⟨he, s', F', hth', htold, -, hO, hb, -⟩ := h.step hth hs hB
    obtain ⟨cnt', e1, e2⟩ := step_place u l cnt h5u
    rw [e, e1, e2] at hth'
    rw [e, e1, place_ret _ (step_at u l h5u)] at he
    refine ⟨he, ⟨_, _, cnt', hth', by rw [putIn_size]; exact hN, ?_, ?_, fun th2 h2 => ?_, fun u2 h2 => ?_⟩, hO, hb⟩
    · rw [List.map_set]
      apply List.ext_getElem? ; intro j
      by_cases hj : i = j
      · subst hj
        have := (List.getElem?_eq_some_iff.1 hth).1
        rw [List.getElem?_set_self (by simpa using this), List.getElem?_map, hth]
        rfl
      · rw [List.getElem?_set_ne hj]
    · rw [List.map_set, List.map_set, hc]
    · rcases List.mem_or_eq_of_mem_set h2 with h2 | rfl
      · exact ⟨(hr th2 h2).1, Nat.le_succ_of_le (hr th2 h2).2⟩
      · refine ⟨hrr.1, ?_⟩
        simp only
        rw [htold, List.length_append]
        have := tells_le th.cur ⟨[l.n, l.d, l.s], cnt⟩
        omega
    · rcases List.mem_or_eq_of_mem_set h2 with h2 | rfl
      · exact h5 u2 h2
      · exact step_at u l h5u

/-- The row of the trails' pointers grew by one. -/
theorem UThs.grew {A : Option Addr} {n cap n' cap' lo sz : Nat} {e : TypeId} {v' : Value} {xs' : List Value} {o : Obj} {w4 : World} (h : UThs B w m c pb (blockOf A) K N ts us l)
    (hg : (w.alloc o).grownBy w4 (Value.slice A n cap).ownBlock) (hat : v'.ownBlock = (Value.slice A n cap).ownBlock ∨ v'.ownBlock = some (w.alloc o).heap.size) (hown : w4.ownsRow lo e sz v' n' xs') {g : Nat} (hv : v' = .slice (some ⟨g, 0, none⟩) n' cap') :
    UThs B w4 m c pb [g] K N ts us l := by
  subst hv
  have hu : Upd (blockOf A) w w4 := ((Upd.refl _ _).alloc o).grown hg (fun b hb => by
    cases A with
    | none => simp [Value.ownBlock] at hb
    | some a => simp [Value.ownBlock] at hb; exact .inl (by simp [blockOf, hb]))
  rcases hat with e | e
  · cases A with
    | none => simp [Value.ownBlock] at e
    | some a =>
      simp [Value.ownBlock] at e
      exact (h.upd hu (fun x hx => hx)).less (by simp [blockOf, e])
  · simp [Value.ownBlock] at e
    exact (h.more hu (fun x hx => hx) (b := g) (by omega) (hown.lt g rfl).2).less (by simp)
end
end Go.Proofs.Ytcphidmfdakbeaa
