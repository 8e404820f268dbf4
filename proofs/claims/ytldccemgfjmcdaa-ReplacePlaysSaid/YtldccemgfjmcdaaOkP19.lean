/- Layer 19, plainly: which handles are good; Reclaim and Reserve. -/
import Derived.Test.YtldccemgfjmcdaaGiveP19
namespace Go.Proofs.Ytldccemgfjmcdaa
open Go.RowKit
set_option linter.unusedSimpArgs false
set_option linter.unusedVariables false

/-- The ring's handles and the caller's are live, all apart, and none is the root's. -/
structure LS.Ok (L : LS) (had : List Int) : Prop where
  nd : (L.ring.map (·.1) ++ had).Nodup
  has : ∀ h ∈ L.ring.map (·.1) ++ had, ∃ s, 2 ≤ s ∧ L.has s h
  root : L.live.getD 0 false = true
theorem LS.has_eq {L : LS} {s : Nat} {h h' : Int} (a : L.has s h) (b : L.has s h') : h = h' := by rw [a.2.2.2, b.2.2.2]
section
variable {N : Nat} {f : Nat → Int} {α : ArS} {L : LS} {had had' : List Int} {h : Int}
theorem LS.Ok.perm (o : L.Ok had) (p : had.Perm had') : L.Ok had' :=
  ⟨((List.Perm.append_left _ p).nodup_iff).1 o.nd, fun x hx => o.has x (by
    rcases List.mem_append.1 hx with h | h
    · exact List.mem_append.2 (.inl h)
    · exact List.mem_append.2 (.inr (p.mem_iff.2 h))), o.root⟩
theorem getD_set_ne {β : Type} {l : List β} {i j : Nat} {x d : β} (h : i ≠ j) : (l.set i x).getD j d = l.getD j d := by
  simp only [List.getD_eq_getElem?_getD]
  rw [List.getElem?_set_ne h]
theorem getD_set_eq {β : Type} {l : List β} {i : Nat} {x d : β} (h : i < l.length) : (l.set i x).getD i d = x := by
  simp only [List.getD_eq_getElem?_getD]
  rw [List.getElem?_set_self h]
  rfl
/-- The slot of a handle that is given dies; the others stay. -/
theorem LS.Ok.dies (o : L.Ok (h :: had)) (hr : Rel N f α L) (hs : Small L) (hN : N ≤ 1000) : ∃ s, 2 ≤ s ∧ L.has s h ∧ (h % 65536).toNat = s ∧ (∀ x ∈ L.ring.map (·.1) ++ had, ∃ t, 2 ≤ t ∧ (L.give h).has t x) ∧ (L.give h).live.getD 0 false = true := by
  obtain ⟨s, s2, hh⟩ := o.has h (by simp)
  obtain ⟨-, -, hm⟩ := hr.right hs hN hh
  refine ⟨s, s2, hh, hm, ?_, ?_⟩
  · intro x hx
    have hx2 : x ∈ L.ring.map (·.1) ++ (h :: had) := by
      rcases List.mem_append.1 hx with a | a
      · exact List.mem_append.2 (.inl a)
      · exact List.mem_append.2 (.inr (List.mem_cons_of_mem _ a))
    obtain ⟨t, t2, ht⟩ := o.has x hx2
    have hne : t ≠ s := by
      intro e
      subst e
      have e := LS.has_eq ht hh
      subst e
      have := o.nd
      rw [(List.perm_middle).nodup_iff] at this
      exact (List.nodup_cons.1 this).1 hx
    refine ⟨t, t2, ht.1, ht.2.1, ?_, ht.2.2.2⟩
    simp only [LS.give]
    rw [hm, getD_set_ne (by have := ht.1; have := hh.1; omega)]
    exact ht.2.2.1
  · simp only [LS.give]
    rw [hm, getD_set_ne (by omega)]
    exact o.root
theorem LS.Ok.give (o : L.Ok (h :: had)) (hr : Rel N f α L) (hs : Small L) (hN : N ≤ 1000) : (L.give h).Ok had := by
  obtain ⟨s, s2, hh, hm, h1, h2⟩ := o.dies hr hs hN
  have := o.nd
  rw [(List.perm_middle).nodup_iff] at this
  exact ⟨(List.nodup_cons.1 this).2, h1, h2⟩
theorem LS.Ok.retire (o : L.Ok (h :: had)) (tag : Int) : (L.retire h tag).Ok had := by
  refine ⟨?_, ?_, o.root⟩
  · have := o.nd
    simpa [LS.retire, List.append_assoc] using this
  · intro x hx
    exact o.has x (by simpa [LS.retire, List.append_assoc] using hx)
theorem LS.Ok.pop (o : L.Ok had) {e : Int × Int} {l : List (Int × Int)} (he : L.ring = e :: l) : ({ L with ring := l, out := L.out + 1 } : LS).Ok (e.1 :: had) := by
  have hp : (l.map (·.1) ++ e.1 :: had).Perm (L.ring.map (·.1) ++ had) := by
    rw [he]
    exact List.perm_middle
  exact ⟨hp.nodup_iff.2 o.nd, fun x hx => o.has x (hp.mem_iff.1 hx), o.root⟩
theorem LS.Ok.take (o : L.Ok had) (hr : Rel N f α L) (hs : Small L) (hN : N ≤ 1000) {s : Nat} {l : List Nat} (hf : L.free = s :: l) : L.take.1 ≠ 0 ∧ L.take.2.Ok (L.take.1 :: had) := by
  obtain ⟨s1, s2, slv⟩ := hr.fr s (by rw [hf]; simp)
  have hb := getD_small (i := s - 1) hs.1
  have hg := hr.gl
  have hl := hr.ll
  have s2' : 2 ≤ s := by
    by_cases hs1 : s = 1
    · subst hs1
      have := o.root
      simp only [List.getD_eq_getElem?_getD, List.getElem?_eq_getElem (show 0 < L.live.length by omega), Nat.sub_self] at this slv
      simp at this slv
      rw [this] at slv
      cases slv
    · omega
  have e1 : L.take.1 = L.gen.getD (s - 1) 0 * 65536 + 65536 + s := by unfold LS.take; rw [hf]
  have e2 : L.take.2 = { L with free := l, gen := L.gen.set (s - 1) (L.gen.getD (s - 1) 0 + 1), live := L.live.set (s - 1) true } := by unfold LS.take; rw [hf]
  have other : ∀ x ∈ L.ring.map (·.1) ++ had, ∃ t, 2 ≤ t ∧ t ≠ s ∧ L.has t x := by
    intro x hx
    obtain ⟨t, t2, ht⟩ := o.has x hx
    refine ⟨t, t2, ?_, ht⟩
    intro e
    subst e
    have h3 := ht.2.2.1
    simp only [List.getD_eq_getElem?_getD, List.getElem?_eq_getElem (show t - 1 < L.live.length by omega)] at h3 slv
    simp at h3 slv
    rw [h3] at slv
    cases slv
  have now : ∀ t x, t ≠ s → 2 ≤ t → L.has t x → L.take.2.has t x := by
    intro t x hne t2 ht
    rw [e2]
    refine ⟨ht.1, by simpa using ht.2.1, ?_, ?_⟩
    · simp only
      rw [getD_set_ne (by omega)]
      exact ht.2.2.1
    · simp only
      rw [getD_set_ne (by omega)]
      exact ht.2.2.2
  have mine : L.take.2.has s L.take.1 := by
    rw [e1, e2]
    refine ⟨s1, by simp; omega, ?_, ?_⟩
    · simp only
      rw [getD_set_eq (by omega)]
    · simp only
      rw [getD_set_eq (by omega)]
      omega
  have er : L.take.2.ring = L.ring := by rw [e2]
  refine ⟨by rw [e1]; omega, ?_, ?_, ?_⟩
  · rw [er, (List.perm_middle).nodup_iff]
    refine List.nodup_cons.2 ⟨fun hin => ?_, o.nd⟩
    obtain ⟨t, t2, hne, ht⟩ := other _ hin
    have hx := (now t _ hne t2 ht).2.2.2
    have hy := mine.2.2.2
    have hz := mine.2.1
    have hz' := (now t _ hne t2 ht).2.1
    have hlen : L.take.2.gen.length = N := by rw [e2]; simpa using hg
    rw [hlen] at hz hz'
    rw [hx] at hy
    omega
  · intro x hx
    rw [er, (List.perm_middle).mem_iff] at hx
    rcases List.mem_cons.1 hx with rfl | hx
    · exact ⟨s, s2', mine⟩
    · obtain ⟨t, t2, hne, ht⟩ := other _ hx
      exact ⟨t, t2, now t x hne t2 ht⟩
  · rw [e2]
    simp only
    rw [getD_set_ne (by omega)]
    exact o.root
/-! ### Reclaim -/
def LS.pop (L : LS) (e : Int × Int) (l : List (Int × Int)) : LS := { L.give e.1 with ring := l, out := L.out + 1 }
def LS.reclaimGo : Nat → Nat → LS → Nat × LS
  | 0, k, L => (k, L)
  | m + 1, k, L => match L.ring with
    | [] => (k, L)
    | e :: l => if e.2 + 2 ≤ L.epoch then LS.reclaimGo m (k + 1) (L.pop e l) else (k, L)
theorem Rel.out (hr : Rel N f α L) (h1N : 1 ≤ N) {e : Int × Int} {l : List (Int × Int)} (he : L.ring = e :: l) : Rel N (upd1 f 22 (L.out + 1)) α { L with ring := l, out := L.out + 1 } := by
  have low : ∀ k, k ≠ 22 → upd1 f 22 (L.out + 1) k = f k := fun k a => upd1_ne a
  have ncl : ∀ t wd, cl N t wd ≠ 22 := fun t wd => by unfold cl; omega
  have hpo := hr.po
  have ho := hr.o0
  have hrl := hr.rl
  rw [he] at hpo hrl
  simp only [List.length_cons] at hpo hrl
  refine ⟨hr.gl, hr.ll, hr.first, hr.slots, hr.clean, ?_, ?_, hr.fr, hr.nodup, ?_, ?_, upd1_eq, ?_, ?_, ?_, ?_, ?_⟩
  · rw [low 21 (by omega)]; exact hr.head
  · intro i u hu; rw [low _ (ncl _ _)]; exact hr.chain i u hu
  · intro i hi; rw [low _ (ncl _ _)]; exact hr.gens i hi
  · rw [low 4 (by omega)]; exact hr.ep
  · rw [low 23 (by omega)]; exact hr.p
  · simp only; omega
  · simp only; omega
  · simp only; omega
  · intro j x hx
    rw [low _ (by omega), low _ (by omega)]
    have := hr.rg (j + 1) x (by rw [he]; simpa using hx)
    simp only
    rw [show L.out + 1 + (j : Int) = L.out + ((j + 1 : Nat) : Int) by omega]
    exact this
theorem Rel.reclaims (h1N : 1 ≤ N) (hN : N ≤ 1000) : ∀ (m k : Nat) (f : Nat → Int) (α : ArS) (L : LS), Rel N f α L → Small L → L.Ok had →
    ∃ n f' α', n ≤ 4 + 8 * L.ring.length ∧ Ev (24 + 30 * N) f α (reclaimGo L.epoch N m k) ((LS.reclaimGo m k L).1 : Int) n f' α' ∧ Rel N f' α' (LS.reclaimGo m k L).2 ∧ Small (LS.reclaimGo m k L).2 ∧ (LS.reclaimGo m k L).2.Ok had
  | 0, k, f, α, L, hr, hs, ho => ⟨0, f, α, by omega, Ev.ret _, hr, hs, ho⟩
  | m + 1, k, f, α, L, hr, hs, ho => by
    have hpo := hr.po
    have ho0 := hr.o0
    cases he : L.ring with
    | nil =>
      have e1 : LS.reclaimGo (m + 1) k L = (k, L) := by simp only [LS.reclaimGo]; rw [he]
      rw [e1]
      rw [he] at hpo
      simp only [List.length_nil] at hpo
      refine ⟨2, f, α, by omega, ?_, hr, hs, ho⟩
      have e3 : Ev (24 + 30 * N) f α (if f 22 = f 23 then (.ret (k : Int) : Res LandS Int) else (ldR (ringAt N (f 22))).bind fun h => (ldR (ringAt N (f 22) + 1)).bind fun tag => if tag + 2 ≤ L.epoch then (giveR h).bind fun _ => (stR 22 (wrap64 (f 22 + 1))).bind fun _ => reclaimGo L.epoch N m (k + 1) else .ret (k : Int)) (k : Int) 0 f α := by
        rw [if_pos (by rw [hr.o, hr.p]; omega)]
        exact Ev.ret _
      have e2 := (Ev.ld (f := f) (α := α) (i := 23) (len := 24 + 30 * N) (show 23 < 24 + 30 * N by omega)).bind (k := fun tail => if f 22 = tail then (.ret (k : Int) : Res LandS Int) else (ldR (ringAt N (f 22))).bind fun h => (ldR (ringAt N (f 22) + 1)).bind fun tag => if tag + 2 ≤ L.epoch then (giveR h).bind fun _ => (stR 22 (wrap64 (f 22 + 1))).bind fun _ => reclaimGo L.epoch N m (k + 1) else .ret (k : Int)) e3
      exact (Ev.ld (f := f) (α := α) (i := 22) (len := 24 + 30 * N) (show 22 < 24 + 30 * N by omega)).bind (k := fun head => (ldR 23).bind fun tail => if head = tail then (.ret (k : Int) : Res LandS Int) else (ldR (ringAt N head)).bind fun h => (ldR (ringAt N head + 1)).bind fun tag => if tag + 2 ≤ L.epoch then (giveR h).bind fun _ => (stR 22 (wrap64 (head + 1))).bind fun _ => reclaimGo L.epoch N m (k + 1) else .ret (k : Int)) e2
    | cons e l =>
      have b1 := Int.emod_lt_of_pos L.out (show (0 : Int) < N by omega)
      have b2 := Int.emod_nonneg L.out (show (N : Int) ≠ 0 by omega)
      obtain ⟨q, hq⟩ : ∃ q, (L.out % N).toNat = q := ⟨_, rfl⟩
      have ha : ringAt N (f 22) = ((24 + 2 * q : Nat) : Int) := by unfold ringAt; rw [hr.o]; omega
      have ha1 : ringAt N (f 22) + 1 = ((25 + 2 * q : Nat) : Int) := by rw [ha]; omega
      obtain ⟨g1, g2⟩ := hr.rg 0 e (by rw [he]; rfl)
      rw [show L.out + ((0 : Nat) : Int) = L.out by omega, hq] at g1 g2
      rw [he] at hpo
      simp only [List.length_cons] at hpo
      have hne : ¬ f 22 = f 23 := by rw [hr.o, hr.p]; omega
      have e0 : LS.reclaimGo (m + 1) k L = if e.2 + 2 ≤ L.epoch then LS.reclaimGo m (k + 1) (L.pop e l) else (k, L) := by
        conv => lhs; unfold LS.reclaimGo
        rw [he]
      have wrapUp : ∀ {v : Int} {n : Nat} {f' : Nat → Int} {α' : ArS}, Ev (24 + 30 * N) f α (if e.2 + 2 ≤ L.epoch then (giveR e.1).bind fun _ => (stR 22 (wrap64 (f 22 + 1))).bind fun _ => reclaimGo L.epoch N m (k + 1) else (.ret (k : Int) : Res LandS Int)) v n f' α' → Ev (24 + 30 * N) f α (reclaimGo L.epoch N (m + 1) k) v (1 + (1 + (1 + (1 + n)))) f' α' := by
        intro v n f' α' h
        have e4 := (Ev.ld (f := f) (α := α) (i := 25 + 2 * q) (len := 24 + 30 * N) (by omega)).bind (k := fun tag => if tag + 2 ≤ L.epoch then (giveR e.1).bind fun _ => (stR 22 (wrap64 (f 22 + 1))).bind fun _ => reclaimGo L.epoch N m (k + 1) else (.ret (k : Int) : Res LandS Int)) (by rw [g2]; exact h)
        rw [← ha1] at e4
        have e3 := (Ev.ld (f := f) (α := α) (i := 24 + 2 * q) (len := 24 + 30 * N) (by omega)).bind (k := fun h => (ldR (ringAt N (f 22) + 1)).bind fun tag => if tag + 2 ≤ L.epoch then (giveR h).bind fun _ => (stR 22 (wrap64 (f 22 + 1))).bind fun _ => reclaimGo L.epoch N m (k + 1) else (.ret (k : Int) : Res LandS Int)) (by rw [g1]; exact e4)
        rw [← ha] at e3
        have e2 := (Ev.ld (f := f) (α := α) (i := 23) (len := 24 + 30 * N) (show 23 < 24 + 30 * N by omega)).bind (k := fun tail => if f 22 = tail then (.ret (k : Int) : Res LandS Int) else (ldR (ringAt N (f 22))).bind fun h => (ldR (ringAt N (f 22) + 1)).bind fun tag => if tag + 2 ≤ L.epoch then (giveR h).bind fun _ => (stR 22 (wrap64 (f 22 + 1))).bind fun _ => reclaimGo L.epoch N m (k + 1) else .ret (k : Int)) (by rw [if_neg hne]; exact e3)
        exact (Ev.ld (f := f) (α := α) (i := 22) (len := 24 + 30 * N) (show 22 < 24 + 30 * N by omega)).bind (k := fun head => (ldR 23).bind fun tail => if head = tail then (.ret (k : Int) : Res LandS Int) else (ldR (ringAt N head)).bind fun h => (ldR (ringAt N head + 1)).bind fun tag => if tag + 2 ≤ L.epoch then (giveR h).bind fun _ => (stR 22 (wrap64 (head + 1))).bind fun _ => reclaimGo L.epoch N m (k + 1) else .ret (k : Int)) e2
      by_cases hle : e.2 + 2 ≤ L.epoch
      · rw [e0, if_pos hle]
        have o1 := ho.pop he
        obtain ⟨s, s2, hh⟩ := ho.has e.1 (by rw [he]; simp)
        obtain ⟨f1, α1, ev1, hr1⟩ := hr.give hs hN hh
        have eo : (L.give e.1).out = L.out := rfl
        have eg : (L.give e.1).ring = e :: l := he
        have hr2 := hr1.out h1N eg
        rw [eo] at hr2
        have o2 : (L.pop e l).Ok had := by
          have hr0 := hr.out h1N he
          exact o1.give hr0 hs hN
        have hs2 : Small (L.pop e l) := hs
        obtain ⟨n, f2, α2, hn, ev2, hr3, hs3, o3⟩ := Rel.reclaims h1N hN m (k + 1) _ α1 (L.pop e l) hr2 hs2 o2
        have hn2 : n ≤ 4 + 8 * l.length := hn
        have hw : wrap64 (f 22 + 1) = L.out + 1 := by rw [hr.o]; have := hs.2.1; unfold wrap64; omega
        refine ⟨1 + (1 + (1 + (1 + (3 + (1 + n))))), f2, α2, by simp only [List.length_cons]; omega, wrapUp ?_, hr3, hs3, o3⟩
        rw [if_pos hle, hw]
        exact ev1.bind (k := fun _ => (stR 22 (L.out + 1)).bind fun _ => reclaimGo L.epoch N m (k + 1)) ((Ev.st (f := f1) (α := α1) (len := 24 + 30 * N) (i := 22) (show 22 < 24 + 30 * N by omega) (L.out + 1)).bind (k := fun _ => reclaimGo L.epoch N m (k + 1)) ev2)
      · rw [e0, if_neg hle]
        refine ⟨1 + (1 + (1 + (1 + 0))), f, α, by omega, wrapUp ?_, hr, hs, ho⟩
        rw [if_neg hle]
        exact Ev.ret _
/-! ### Numbers that grow slowly -/
def LS.Sm (b : Int) (L : LS) : Prop := (∀ g ∈ L.gen, 0 ≤ g ∧ g ≤ b) ∧ L.put ≤ b ∧ 0 ≤ L.epoch ∧ L.epoch ≤ b
theorem LS.Sm.small {b : Int} (h : L.Sm b) (hb : b < 100000000000) : Small L := ⟨fun g hg => by have := h.1 g hg; omega, by have := h.2.1; omega, by have := h.2.2.1; omega, by have := h.2.2.2; omega⟩
theorem LS.Sm.mono {b c : Int} (h : L.Sm b) (hb : b ≤ c) : L.Sm c := ⟨fun g hg => by have := h.1 g hg; omega, by have := h.2.1; omega, h.2.2.1, by have := h.2.2.2; omega⟩
theorem LS.Sm.take {b : Int} (h : L.Sm b) : L.take.2.Sm (b + 1) := by
  unfold LS.take
  split
  · exact h.mono (by omega)
  · rename_i s l hf
    have h3 := h.2.2.1
    have h4 := h.2.2.2
    refine ⟨fun g hg => ?_, by have := h.2.1; simp only; omega, h3, by simp only; omega⟩
    simp only at hg
    rcases List.mem_or_eq_of_mem_set hg with hg | hg
    · have := h.1 g hg; omega
    · subst hg
      rw [List.getD_eq_getElem?_getD]
      by_cases hi : s - 1 < L.gen.length
      · rw [List.getElem?_eq_getElem hi]
        have := h.1 _ (List.getElem_mem hi)
        simp only [Option.getD_some]
        omega
      · rw [List.getElem?_eq_none (by omega)]
        simp only [Option.getD_none]
        omega
theorem LS.Sm.give {b : Int} (h : L.Sm b) (hd : Int) : (L.give hd).Sm b := h
theorem LS.Sm.retire {b : Int} (h : L.Sm b) (hd tag : Int) : (L.retire hd tag).Sm (b + 1) := ⟨(h.mono (c := b + 1) (by omega)).1, by have := h.2.1; simp only [LS.retire]; omega, h.2.2.1, by have := h.2.2.2; simp only [LS.retire]; omega⟩
theorem LS.Sm.reclaim {b : Int} : ∀ (m k : Nat) (L : LS), L.Sm b → (LS.reclaimGo m k L).2.Sm b
  | 0, _, _, h => h
  | m + 1, k, L, h => by
    unfold LS.reclaimGo
    split
    · exact h
    · split
      · exact LS.Sm.reclaim m (k + 1) _ h
      · exact h
/-! ### Reserve -/
def LS.gives : List Int → LS → LS
  | [], L => L
  | h :: hs, L => LS.gives hs (L.give h)
def LS.reserveGo : Nat → List Int → LS → Option (List Int) × LS
  | 0, out, L => (some out, L)
  | k + 1, out, L => match L.free with
    | [] => (none, LS.gives out.reverse L)
    | _ :: _ => LS.reserveGo k (out ++ [L.take.1]) L.take.2
theorem Rel.gives {b : Int} (hb : b < 100000000000) (hN : N ≤ 1000) : ∀ (l : List Int) (f : Nat → Int) (α : ArS) (L : LS), Rel N f α L → L.Sm b → L.Ok (l ++ had) →
    ∃ f' α', Ev (24 + 30 * N) f α (giveAllR l) () (3 * l.length) f' α' ∧ Rel N f' α' (LS.gives l L) ∧ (LS.gives l L).Sm b ∧ (LS.gives l L).Ok had
  | [], f, α, L, hr, hs, ho => ⟨f, α, Ev.ret _, hr, hs, ho⟩
  | h :: hs', f, α, L, hr, hs, ho => by
    obtain ⟨s, s2, hh⟩ := ho.has h (by simp)
    obtain ⟨f1, α1, ev1, hr1⟩ := hr.give (hs.small hb) hN hh
    obtain ⟨f2, α2, ev2, hr2, hs2, ho2⟩ := Rel.gives hb hN hs' f1 α1 (L.give h) hr1 (hs.give h) (LS.Ok.give ho hr (hs.small hb) hN)
    refine ⟨f2, α2, ?_, hr2, hs2, ho2⟩
    exact (ev1.bind (k := fun _ => giveAllR hs') ev2).eq rfl (by simp only [List.length_cons]; omega)
theorem LS.take_free (hf : L.free ≠ []) : L.take.2.free.length + 1 = L.free.length := by
  unfold LS.take
  split
  · rename_i h; exact absurd h hf
  · rename_i s l h; rw [h]; rfl
theorem Rel.reserves (hN : N ≤ 1000) : ∀ (k : Nat) (b : Int) (hb : b + k < 100000000000) (out : List Int) (f : Nat → Int) (α : ArS) (L : LS), Rel N f α L → L.Sm b → L.Ok (out ++ had) →
    ∃ n f' α', n ≤ 5 + 8 * L.free.length + 3 * out.length ∧ Ev (24 + 30 * N) f α (Go.Proofs.Ytldccemgfjmcdaa.reserveGo k out) (LS.reserveGo k out L).1 n f' α' ∧ Rel N f' α' (LS.reserveGo k out L).2 ∧ (LS.reserveGo k out L).2.Sm (b + k) ∧ (LS.reserveGo k out L).2.Ok ((LS.reserveGo k out L).1.getD [] ++ had)
  | 0, b, hb, out, f, α, L, hr, hs, ho => ⟨0, f, α, by omega, Ev.ret _, hr, hs.mono (by omega), ho⟩
  | k + 1, b, hb, out, f, α, L, hr, hs, ho => by
    obtain ⟨n1, f1, α1, ⟨hn1, -⟩, ev1, hr1⟩ := hr.take (hs.small (by omega)) hN
    have hs1 := hs.take
    cases hf : L.free with
    | nil =>
      have e0 : LS.reserveGo (k + 1) out L = (none, LS.gives out.reverse L) := by conv => { lhs; unfold LS.reserveGo; rw [hf] }
      have et : L.take = (0, L) := by unfold LS.take; rw [hf]
      rw [et] at ev1 hr1
      have ho' : L.Ok (out.reverse ++ had) := ho.perm (List.Perm.append_right had (List.reverse_perm out).symm)
      obtain ⟨f2, α2, ev2, hr2, hs2, ho2⟩ := Rel.gives (b := b) (by omega) hN out.reverse f1 α1 L hr1 hs ho'
      rw [e0]
      refine ⟨n1 + (3 * out.length), f2, α2, by simp only [List.length_nil]; omega, ?_, hr2, hs2.mono (by omega), ho2⟩
      unfold Go.Proofs.Ytldccemgfjmcdaa.reserveGo
      refine ev1.bind (k := fun h => if h = 0 then (giveAllR out.reverse).bind fun _ => .ret none else Go.Proofs.Ytldccemgfjmcdaa.reserveGo k (out ++ [h])) ?_
      rw [if_pos rfl]
      exact (ev2.bind (k := fun _ => (.ret none : Res LandS (Option (List Int)))) (Ev.ret _)).eq rfl (by simp)
    | cons s l =>
      have e0 : LS.reserveGo (k + 1) out L = LS.reserveGo k (out ++ [L.take.1]) L.take.2 := by conv => { lhs; unfold LS.reserveGo; rw [hf] }
      obtain ⟨hne, ho1⟩ := LS.Ok.take ho hr (hs.small (by omega)) hN hf
      have hfl := LS.take_free (L := L) (by rw [hf]; simp)
      have ho2 : L.take.2.Ok ((out ++ [L.take.1]) ++ had) := ho1.perm (by rw [List.append_assoc]; exact List.perm_middle.symm)
      obtain ⟨n2, f2, α2, hn2, ev2, hr2, hs2, ho3⟩ := Rel.reserves hN k (b + 1) (by omega) (out ++ [L.take.1]) f1 α1 L.take.2 hr1 hs1 ho2
      rw [e0]
      rw [List.length_append, List.length_singleton] at hn2
      refine ⟨n1 + n2, f2, α2, by rw [← hf]; omega, ?_, hr2, hs2.mono (by omega), ho3⟩
      unfold Go.Proofs.Ytldccemgfjmcdaa.reserveGo
      refine ev1.bind (k := fun h => if h = 0 then (giveAllR out.reverse).bind fun _ => .ret none else Go.Proofs.Ytldccemgfjmcdaa.reserveGo k (out ++ [h])) ?_
      rw [if_neg hne]
      exact ev2
end
end Go.Proofs.Ytldccemgfjmcdaa
