/- Many tasks on one memory, each at a place that a state of U's tells. -/
import Derived.Test.YtcphidmfdakbeaaThreads
namespace Go.Proofs.Ytcphidmfdakbeaa
open Go.RowKit

def blockOf' (A : Option Addr) : List Nat := match A with
  | none => []
  | some a => [a.block]

/-- The threads: task and place by their states; R: what a trail remembers beside; z: what a cell holds till its task is over. -/
def GThs {U α : Type} (place task : U → Res MemS α) (R : TrS → U → Prop) (z : Value) (ty : TypeId) (val : α → Value) (B : Nat) (w : World) (m c pb : Nat) (O : List Nat) (N : Nat) (ts : List Nat) (us : List U) (μ : MemS) : Prop :=
  ∃ (ths : List (Th α)) (cs : Array Value), Ths B w m c pb ty val μ cs O ths ∧ cs.size = N ∧ ths.map Th.t = ts ∧ ths.map Th.cur = us.map place ∧
    ∀ (i : Nat) (th : Th α) (u : U), ths[i]? = some th → us[i]? = some u → th.r = task u ∧ R th.s u ∧ ((place u).isRet = false → cs[i]? = some z)

section
variable {U α : Type} {place task : U → Res MemS α} {R : TrS → U → Prop} {z : Value} {ty : TypeId} {val : α → Value} {B : Nat} {w w' : World} {m c pb : Nat} {O G : List Nat} {N : Nat} {ts : List Nat} {us : List U} {μ : MemS}
theorem GThs.upd (h : GThs place task R z ty val B w m c pb O N ts us μ) (hu : Upd G w w') (hG : ∀ x ∈ G, x ∈ O) : GThs place task R z ty val B w' m c pb O N ts us μ := by
  obtain ⟨ths, cs, h, hr⟩ := h
  exact ⟨ths, cs, h.upd hu hG, hr⟩
theorem GThs.more (h : GThs place task R z ty val B w m c pb O N ts us μ) (hu : Upd G w w') (hG : ∀ x ∈ G, x ∈ O) {b : Nat} (h1 : w.heap.size ≤ b) (h2 : b < w'.heap.size) : GThs place task R z ty val B w' m c pb (b :: O) N ts us μ := by
  obtain ⟨ths, cs, h, hr⟩ := h
  exact ⟨ths, cs, h.more hu hG h1 h2, hr⟩
theorem GThs.less (h : GThs place task R z ty val B w m c pb O N ts us μ) {O' : List Nat} (hO : ∀ x ∈ O', x ∈ O) : GThs place task R z ty val B w m c pb O' N ts us μ := by
  obtain ⟨ths, cs, h, hr⟩ := h
  exact ⟨ths, cs, h.less hO, hr⟩
theorem GThs.mem (h : GThs place task R z ty val B w m c pb O N ts us μ) : MemAt w m c μ := by
  obtain ⟨ths, cs, h, -⟩ := h
  exact h.mem
theorem GThs.len (h : GThs place task R z ty val B w m c pb O N ts us μ) : ts.length = us.length := by
  obtain ⟨ths, cs, -, -, rfl, hc, -⟩ := h
  have := congrArg List.length hc
  simpa using this
theorem GThs.free (h : GThs place task R z ty val B w m c pb O N ts us μ) (i : Nat) : w.frozen? ⟨pb, i, none⟩ = false := by
  obtain ⟨ths, cs, h, -⟩ := h
  exact h.blk.free i
theorem GThs.begin_ {cs : Array Value} (h : Ths B w m c pb ty val μ cs O []) (hN : cs.size = N) : GThs place task R z ty val B w m c pb O N [] [] μ :=
  ⟨[], cs, h, hN, rfl, rfl, by simp⟩
theorem GThs.at_ (h : GThs place task R z ty val B w m c pb O N ts us μ) {i t : Nat} {u : U} (ht : ts[i]? = some t) (hu : us[i]? = some u) :
    ∃ (th : Th α) (cs : Array Value), Put w m c t pb i ty (task u) val μ th.s th.F cs (place u) ∧ R th.s u ∧ ((place u).isRet = false → cs[i]? = some z) ∧ cs.size = N ∧ th.t = t := by
  obtain ⟨ths, cs, h, hN, rfl, hc, hr⟩ := h
  rw [List.getElem?_map] at ht
  cases hth : ths[i]? with
  | none => rw [hth] at ht; cases ht
  | some th =>
    rw [hth] at ht
    injection ht with ht
    have e : (ths.map Th.cur)[i]? = (us.map place)[i]? := by rw [hc]
    rw [List.getElem?_map, List.getElem?_map, hth, hu] at e
    injection e with e
    have hp := h.put i th hth
    obtain ⟨h1, h2, h3⟩ := hr i th u hth hu
    rw [h1, ht, e] at hp
    exact ⟨th, cs, hp, h2, h3, hN, ht⟩
theorem GThs.over (h : GThs place task R z ty val B w m c pb O N ts us μ) {i t : Nat} {u : U} (ht : ts[i]? = some t) (hu : us[i]? = some u) : ∃ s F, TM w m c t μ s F ∧ s.over = (place u).isRet ∧ R s u := by
  obtain ⟨th, cs, hp, hR, -⟩ := h.at_ ht hu
  exact ⟨_, _, hp.tm, hp.over, hR⟩
theorem GThs.cell_ret (h : GThs place task R z ty val B w m c pb O N ts us μ) {i t : Nat} {u : U} (ht : ts[i]? = some t) (hu : us[i]? = some u) {a : α} (ha : place u = .ret a) : w.cell? ⟨pb, i, none⟩ = some (val a) := by
  obtain ⟨th, cs, hp, -⟩ := h.at_ ht hu
  exact hp.blk.at_ (hp.done a ha)
theorem GThs.cell_not (h : GThs place task R z ty val B w m c pb O N ts us μ) {i t : Nat} {u : U} (ht : ts[i]? = some t) (hu : us[i]? = some u) (ha : (place u).isRet = false) : w.cell? ⟨pb, i, none⟩ = some z := by
  obtain ⟨th, cs, hp, -, h3, -⟩ := h.at_ ht hu
  exact hp.blk.at_ (h3 ha)

/-- One more of them. -/
theorem GThs.push {t : Nat} (h : GThs place task R z ty val B w m c pb O N ts us μ) (u : U) (hz : ∀ (i : Nat) (cs : Array Value), i < N → us.length ≤ i → Blk w pb ty cs → cs[i]? = some z) (hb : Below w.heap.size w w') (htm : TM w' m c t μ TrS.new [t]) (hge : w.heap.size ≤ t) (hN : ts.length < N) (hB : B ≤ w.heap.size)
    (hp : place u = (task u).next) (hr : (place u).isRet = false) (hR : R TrS.new u) :
    GThs place task R z ty val B w' m c pb O N (ts ++ [t]) (us ++ [u]) μ := by
  have hlen := h.len
  obtain ⟨ths, cs, h, hcs, rfl, hc, hr'⟩ := h
  have hl : ths.length = us.length := by simpa using hlen
  have hzz := hz us.length cs (by simp at hN; omega) (Nat.le_refl _) h.blk
  refine ⟨_, cs, h.push hb htm hge (task u) (by rw [← hp]; exact hr) (by simpa [hcs] using hN) hB, hcs, by simp, by simp [hc, hp], fun i th u2 hi hu2 => ?_⟩
  rcases Nat.lt_trichotomy i ths.length with hlt | rfl | hlt
  · rw [List.getElem?_append_left hlt] at hi
    rw [List.getElem?_append_left (by omega)] at hu2
    exact hr' i th u2 hi hu2
  · rw [hl] at hu2 ⊢
    simp at hi hu2
    subst hi hu2
    exact ⟨rfl, hR, fun _ => hzz⟩
  · rw [List.getElem?_append_right (by omega), List.getElem?_eq_none (by simp; omega)] at hi
    cases hi

/-- A step of one of them. -/
theorem GThs.step {i t : Nat} {u u' : U} {time : Int} {f : FuncId} {args : Array Value} {P : Program} (h : GThs place task R z ty val B w m c pb O N ts us μ) (ht : ts[i]? = some t) (hu : us[i]? = some u) (hB : B ≤ w.heap.size)
    (hcall : ∀ (s : TrS) (F : List Nat) (cs : Array Value), Put w m c t pb i ty (task u) val μ s F cs (place u) → R s u → ((place u).isRet = false → cs[i]? = some z) → Calls P f args w (PutStep w m c t pb i ty (task u) val μ s F cs (place u) time))
    (hp : ((place u).step μ).1 = place u') (ht' : task u' = task u) (hR : ∀ s s' : TrS, R s u → s'.told = s.told ++ (place u).tells μ → s'.marks = s.marks ++ ((place u).step μ).2.2.map (fun k => (k, time)) → R s' u') :
    Calls P f args w fun ed w' => ed = .returned (.bool (place u').isRet) ∧ GThs place task R z ty val B w' m c pb O N ts (us.set i u') ((place u).step μ).2.1 ∧ (∀ x ∈ O, w'.heap[x]? = w.heap[x]?) ∧ Below B w w' := by
  obtain ⟨ths, cs, h, hN, rfl, hc, hr⟩ := h
  rw [List.getElem?_map] at ht
  cases hth : ths[i]? with
  | none => rw [hth] at ht; cases ht
  | some th =>
    rw [hth] at ht
    injection ht with ht
    have e : (ths.map Th.cur)[i]? = (us.map place)[i]? := by rw [hc]
    rw [List.getElem?_map, List.getElem?_map, hth, hu] at e
    injection e with e
    have hpp := h.put i th hth
    obtain ⟨h1, h2, h3⟩ := hr i th u hth hu
    have hil : i < ths.length := (List.getElem?_eq_some_iff.1 hth).1
    have hul : i < us.length := (List.getElem?_eq_some_iff.1 hu).1
    subst ht
    have hpp' := hpp
    rw [h1, e] at hpp'
    refine (hcall th.s th.F cs hpp' h2 h3).mono fun ed w' hs => ?_
    rw [← h1, ← e] at hs
    obtain ⟨he, s', F', hth', htold, hmk, hO, hbl, -⟩ := h.step hth hs hB
    rw [e] at hth' he htold hmk
    rw [hp] at hth' he
    refine ⟨he, ⟨_, _, hth', by rw [putIn_size]; exact hN, ?_, ?_, fun j th2 u2 hj hu2 => ?_⟩, hO, hbl⟩
    · rw [List.map_set]
      apply List.ext_getElem? ; intro j
      by_cases hj : i = j
      · subst hj
        rw [List.getElem?_set_self (by simpa using hil), List.getElem?_map, hth]
        rfl
      · rw [List.getElem?_set_ne hj]
    · rw [List.map_set, List.map_set, hc]
    · by_cases hij : i = j
      · subst hij
        rw [List.getElem?_set_self hil] at hj
        rw [List.getElem?_set_self hul] at hu2
        injection hj with hj
        injection hu2 with hu2
        subst hj hu2
        refine ⟨by rw [ht']; exact h1, hR _ _ h2 htold hmk, fun hnr => ?_⟩
        rw [putIn_next _ _ _ _ hnr]
        refine h3 ?_
        cases hpl : place u with
        | ret a => rw [hpl] at hp; simp only [Res.step] at hp; rw [← hp] at hnr; simp [Res.isRet] at hnr
        | acc d k => rfl
        | mark kd k => rfl
      · rw [List.getElem?_set_ne hij] at hj hu2
        obtain ⟨a1, a2, a3⟩ := hr j th2 u2 hj hu2
        refine ⟨a1, a2, fun ho => ?_⟩
        unfold Res.putIn
        split
        · rw [Array.getElem?_setIfInBounds_ne hij]
          exact a3 ho
        · exact a3 ho

/-- A row of pointers grew by one, beside others. -/
theorem GThs.grew {A : Option Addr} {n cap n' cap' lo sz : Nat} {e : TypeId} {v' : Value} {xs' : List Value} {o : Obj} {w4 : World} (h : GThs place task R z ty val B w m c pb (blockOf' A ++ O) N ts us μ)
    (hg : (w.alloc o).grownBy w4 (Value.slice A n cap).ownBlock) (hat : v'.ownBlock = (Value.slice A n cap).ownBlock ∨ v'.ownBlock = some (w.alloc o).heap.size) (hown : w4.ownsRow lo e sz v' n' xs') {g : Nat} (hv : v' = .slice (some ⟨g, 0, none⟩) n' cap') :
    GThs place task R z ty val B w4 m c pb (g :: O) N ts us μ := by
  subst hv
  have hu : Upd (blockOf' A) w w4 := ((Upd.refl _ _).alloc o).grown hg (fun b hb => by
    cases A with
    | none => simp [Value.ownBlock] at hb
    | some a => simp [Value.ownBlock] at hb; exact .inl (by simp [blockOf', hb]))
  rcases hat with e | e
  · cases A with
    | none => simp [Value.ownBlock] at e
    | some a =>
      simp [Value.ownBlock] at e
      exact (h.upd hu (fun x hx => by simp [hx])).less (by simp [blockOf', e])
  · simp [Value.ownBlock] at e
    exact (h.more hu (fun x hx => by simp [hx]) (b := g) (by omega) (hown.lt g rfl).2).less (by simp; intro x hx; exact .inr (.inr hx))
end

end Go.Proofs.Ytcphidmfdakbeaa
