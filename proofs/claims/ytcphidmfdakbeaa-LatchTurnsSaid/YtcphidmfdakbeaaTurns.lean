/- LatchTurns: the chapter's threads walked, what holds of them, and the statement. -/
import Derived.Test.YtcphidmfdakbeaaFair
import Derived.Test.YtcphidmfdakbeaaArgs
namespace Go.Proofs.Ytcphidmfdakbeaa
open Go.RowKit

/-! ### What holds of the users, whoever is let go on -/
structure UInv (K : Nat) (us : List US) (l : Ls) : Prop where
  d : 0 ≤ l.d ∧ l.d ≤ K
  s : 0 ≤ l.s ∧ l.s ≤ l.d
  tk : ∀ (i : Nat) (u : US), us[i]? = some u → 1 ≤ u.at_ → 0 ≤ u.ticket ∧ u.ticket < l.d
  ds : ∀ (i j : Nat) (u v : US), i ≠ j → us[i]? = some u → us[j]? = some v → 1 ≤ u.at_ → 1 ≤ v.at_ → u.ticket ≠ v.ticket
  hold : ∀ (i : Nat) (u : US), us[i]? = some u → 2 ≤ u.at_ → u.at_ ≤ 4 → u.ticket = l.s
  fin : ∀ (i : Nat) (u : US), us[i]? = some u → u.at_ = 5 → u.ticket < l.s
  saw : ∀ (i : Nat) (u : US), us[i]? = some u → u.at_ = 3 → u.saw = l.n
  n0 : (∀ (i : Nat) (u : US), us[i]? = some u → u.at_ ≠ 4) → l.n = l.s
  n1 : ∀ (i : Nat) (u : US), us[i]? = some u → u.at_ = 4 → l.n = l.s + 1

theorem UInv.first (N : Nat) : UInv 0 (List.replicate N ⟨0, 0, 0⟩) ⟨0, 0, 0⟩ := by
  have hz : ∀ (i : Nat) (u : US), (List.replicate N (⟨0, 0, 0⟩ : US))[i]? = some u → u.at_ = 0 := by
    intro i u h
    rw [List.getElem?_replicate] at h
    split at h
    · injection h with h; rw [← h]
    · cases h
  refine ⟨⟨Int.le_refl _, Int.le_refl _⟩, ⟨Int.le_refl _, Int.le_refl _⟩, ?_, ?_, ?_, ?_, ?_, fun _ => rfl, ?_⟩
  · intro i u h h1; have := hz i u h; omega
  · intro i j u v _ h _ h1; have := hz i u h; omega
  · intro i u h h1; have := hz i u h; omega
  · intro i u h h1; have := hz i u h; omega
  · intro i u h h1; have := hz i u h; omega
  · intro i u h h1; have := hz i u h; omega
theorem UInv.low {K : Nat} {us : List US} {l : Ls} (h : UInv K us l) : l.s ≤ l.n := by
  by_cases h4 : ∃ (i : Nat) (u : US), us[i]? = some u ∧ u.at_ = 4
  · obtain ⟨i, u, h1, h2⟩ := h4
    have := h.n1 i u h1 h2
    omega
  · have := h.n0 fun i u h1 h2 => h4 ⟨i, u, h1, h2⟩
    omega
theorem UInv.high {K : Nat} {us : List US} {l : Ls} (h : UInv K us l) : l.n ≤ l.s + 1 := by
  by_cases h4 : ∃ (i : Nat) (u : US), us[i]? = some u ∧ u.at_ = 4
  · obtain ⟨i, u, h1, h2⟩ := h4
    have := h.n1 i u h1 h2
    omega
  · have := h.n0 fun i u h1 h2 => h4 ⟨i, u, h1, h2⟩
    omega

theorem UInv.step {K : Nat} {us : List US} {l : Ls} {i : Nat} {u : US} (h : UInv K us l) (hu : us[i]? = some u) (h5 : u.at_ ≤ 5) (hK : K ≤ 100000) :
    UInv (K + 1) (us.set i (u.step l).1) (u.step l).2 ∧ (u.step l).2.s = l.s + (if (u.step l).1.at_ = 5 ∧ u.at_ ≠ 5 then 1 else 0) := by
  have hil : i < us.length := (List.getElem?_eq_some_iff.1 hu).1
  have key : ∀ (u' : US) (j : Nat) (v : US), (us.set i u')[j]? = some v → (j = i ∧ v = u') ∨ (j ≠ i ∧ us[j]? = some v) := by
    intro u' j v hj
    by_cases hji : j = i
    · subst hji
      rw [List.getElem?_set_self hil] at hj
      exact .inl ⟨rfl, by simpa using hj.symm⟩
    · rw [List.getElem?_set_ne (fun e => hji e.symm)] at hj
      exact .inr ⟨hji, hj⟩
  have hself : us.set i u = us := by
    apply List.ext_getElem?
    intro j
    by_cases hji : i = j
    · subst hji
      rw [List.getElem?_set_self hil, hu]
    · rw [List.getElem?_set_ne hji]
  have hlow := h.low
  have hhigh := h.high
  have hd := h.d
  have hs := h.s
  obtain ⟨a, k, v⟩ := u
  obtain ⟨n, d, s⟩ := l
  simp only at hlow hhigh hd hs h5
  match a, h5 with
  | 0, _ =>
    have hw : wrap64 (d + 1) = d + 1 := wrap_small _ (by omega) (by omega)
    refine ⟨?_, by simp [US.step]⟩
    simp only [US.step]
    rw [hw]
    refine ⟨⟨by simp only; omega, by simp only; omega⟩, ⟨hs.1, by simp only; omega⟩, ?_, ?_, ?_, ?_, ?_, ?_, ?_⟩
    · intro j v' hj h1
      rcases key _ j v' hj with ⟨rfl, rfl⟩ | ⟨hji, hj⟩
      · simp only; omega
      · have := h.tk j v' hj h1; simp only at this ⊢; omega
    · intro j j' u1 u2 hjj hj hj' h1 h2
      rcases key _ j u1 hj with ⟨rfl, rfl⟩ | ⟨hji, hk⟩
      · rcases key _ j' u2 hj' with ⟨rfl, rfl⟩ | ⟨hji', hk'⟩
        · exact absurd rfl hjj
        · have := h.tk j' u2 hk' h2; simp only at this ⊢; omega
      · rcases key _ j' u2 hj' with ⟨rfl, rfl⟩ | ⟨hji', hk'⟩
        · have := h.tk j u1 hk h1; simp only at this ⊢; omega
        · exact h.ds j j' u1 u2 hjj hk hk' h1 h2
    · intro j v' hj h1 h2
      rcases key _ j v' hj with ⟨rfl, rfl⟩ | ⟨hji, hj⟩
      · simp at h1
      · exact h.hold j v' hj h1 h2
    · intro j v' hj h1
      rcases key _ j v' hj with ⟨rfl, rfl⟩ | ⟨hji, hj⟩
      · simp at h1
      · exact h.fin j v' hj h1
    · intro j v' hj h1
      rcases key _ j v' hj with ⟨rfl, rfl⟩ | ⟨hji, hj⟩
      · simp at h1
      · exact h.saw j v' hj h1
    · intro hall
      refine h.n0 fun j v' hj h4 => ?_
      by_cases hji : j = i
      · subst hji
        rw [hu] at hj
        injection hj with hj
        rw [← hj] at h4
        simp at h4
      · exact hall j v' (by rw [List.getElem?_set_ne (fun e => hji e.symm)]; exact hj) h4
    · intro j v' hj h1
      rcases key _ j v' hj with ⟨rfl, rfl⟩ | ⟨hji, hj⟩
      · simp at h1
      · exact h.n1 j v' hj h1
  | 1, _ =>
    simp only [US.step]
    by_cases hsk : s = k
    · subst hsk
      rw [if_pos rfl]
      refine ⟨?_, by simp⟩
      have htk := h.tk i _ hu (by simp)
      simp only at htk
      have hno : ∀ (j : Nat) (v' : US), j ≠ i → us[j]? = some v' → ¬ (2 ≤ v'.at_ ∧ v'.at_ ≤ 4) := by
        rintro j v' hji hj ⟨h1, h2⟩
        have e1 := h.hold j v' hj h1 h2
        exact h.ds j i v' _ hji hj hu (by omega) (by simp) e1
      refine ⟨⟨hd.1, by simp only; omega⟩, hs, ?_, ?_, ?_, ?_, ?_, ?_, ?_⟩
      · intro j v' hj h1
        rcases key _ j v' hj with ⟨rfl, rfl⟩ | ⟨hji, hj⟩
        · exact htk
        · exact h.tk j v' hj h1
      · intro j j' u1 u2 hjj hj hj' h1 h2
        rcases key _ j u1 hj with ⟨rfl, rfl⟩ | ⟨hji, hk⟩
        · rcases key _ j' u2 hj' with ⟨rfl, rfl⟩ | ⟨hji', hk'⟩
          · exact absurd rfl hjj
          · have e := h.ds _ j' _ u2 hjj hu hk' (by simp) h2
            exact e
        · rcases key _ j' u2 hj' with ⟨rfl, rfl⟩ | ⟨hji', hk'⟩
          · have e := h.ds j _ u1 _ hjj hk hu h1 (by simp)
            exact e
          · exact h.ds j j' u1 u2 hjj hk hk' h1 h2
      · intro j v' hj h1 h2
        rcases key _ j v' hj with ⟨rfl, rfl⟩ | ⟨hji, hj⟩
        · rfl
        · exact h.hold j v' hj h1 h2
      · intro j v' hj h1
        rcases key _ j v' hj with ⟨rfl, rfl⟩ | ⟨hji, hj⟩
        · simp at h1
        · exact h.fin j v' hj h1
      · intro j v' hj h1
        rcases key _ j v' hj with ⟨rfl, rfl⟩ | ⟨hji, hj⟩
        · simp at h1
        · exact h.saw j v' hj h1
      · intro hall
        refine h.n0 fun j v' hj h4 => ?_
        by_cases hji : j = i
        · subst hji
          rw [hu] at hj
          injection hj with hj
          rw [← hj] at h4
          simp at h4
        · exact hall j v' (by rw [List.getElem?_set_ne (fun e => hji e.symm)]; exact hj) h4
      · intro j v' hj h1
        rcases key _ j v' hj with ⟨rfl, rfl⟩ | ⟨hji, hj⟩
        · simp at h1
        · exact h.n1 j v' hj h1
    · rw [if_neg hsk, hself]
      exact ⟨⟨⟨hd.1, by simp only; omega⟩, h.s, h.tk, h.ds, h.hold, h.fin, h.saw, h.n0, h.n1⟩, by simp⟩
  | 2, _ =>
    simp only [US.step]
    have htk := h.tk i _ hu (by simp)
    have hho := h.hold i _ hu (by simp) (by simp)
    simp only at htk hho
    refine ⟨?_, by simp⟩
    refine ⟨⟨hd.1, by simp only; omega⟩, hs, ?_, ?_, ?_, ?_, ?_, ?_, ?_⟩
    · intro j v' hj h1
      rcases key _ j v' hj with ⟨rfl, rfl⟩ | ⟨hji, hj⟩
      · exact htk
      · exact h.tk j v' hj h1
    · intro j j' u1 u2 hjj hj hj' h1 h2
      rcases key _ j u1 hj with ⟨rfl, rfl⟩ | ⟨hji, hk⟩
      · rcases key _ j' u2 hj' with ⟨rfl, rfl⟩ | ⟨hji', hk'⟩
        · exact absurd rfl hjj
        · have e := h.ds _ j' _ u2 hjj hu hk' (by simp) h2
          exact e
      · rcases key _ j' u2 hj' with ⟨rfl, rfl⟩ | ⟨hji', hk'⟩
        · have e := h.ds j _ u1 _ hjj hk hu h1 (by simp)
          exact e
        · exact h.ds j j' u1 u2 hjj hk hk' h1 h2
    · intro j v' hj h1 h2
      rcases key _ j v' hj with ⟨rfl, rfl⟩ | ⟨hji, hj⟩
      · exact hho
      · exact h.hold j v' hj h1 h2
    · intro j v' hj h1
      rcases key _ j v' hj with ⟨rfl, rfl⟩ | ⟨hji, hj⟩
      · simp at h1
      · exact h.fin j v' hj h1
    · intro j v' hj h1
      rcases key _ j v' hj with ⟨rfl, rfl⟩ | ⟨hji, hj⟩
      · rfl
      · exact h.saw j v' hj h1
    · intro hall
      refine h.n0 fun j v' hj h4 => ?_
      by_cases hji : j = i
      · subst hji
        rw [hu] at hj
        injection hj with hj
        rw [← hj] at h4
        simp at h4
      · exact hall j v' (by rw [List.getElem?_set_ne (fun e => hji e.symm)]; exact hj) h4
    · intro j v' hj h1
      rcases key _ j v' hj with ⟨rfl, rfl⟩ | ⟨hji, hj⟩
      · simp at h1
      · exact h.n1 j v' hj h1
  | 3, _ =>
    simp only [US.step]
    have htk := h.tk i _ hu (by simp)
    have hho := h.hold i _ hu (by simp) (by simp)
    have hsw := h.saw i _ hu rfl
    simp only at htk hho hsw
    subst hsw
    have hno : ∀ (j : Nat) (v' : US), j ≠ i → us[j]? = some v' → ¬ (2 ≤ v'.at_ ∧ v'.at_ ≤ 4) := by
      rintro j v' hji hj ⟨h1, h2⟩
      have e1 := h.hold j v' hj h1 h2
      exact h.ds j i v' _ hji hj hu (by omega) (by simp) (e1.trans hho.symm)
    have hns : v = s := h.n0 fun j v' hj h4 => by
      by_cases hji : j = i
      · subst hji
        rw [hu] at hj
        injection hj with hj
        rw [← hj] at h4
        simp at h4
      · exact hno j v' hji hj ⟨by omega, by omega⟩
    have hw : wrap64 (v + 1) = v + 1 := wrap_small _ (by omega) (by omega)
    rw [hw]
    refine ⟨?_, by simp⟩
    refine ⟨⟨hd.1, by simp only; omega⟩, hs, ?_, ?_, ?_, ?_, ?_, ?_, ?_⟩
    · intro j v' hj h1
      rcases key _ j v' hj with ⟨rfl, rfl⟩ | ⟨hji, hj⟩
      · exact htk
      · exact h.tk j v' hj h1
    · intro j j' u1 u2 hjj hj hj' h1 h2
      rcases key _ j u1 hj with ⟨rfl, rfl⟩ | ⟨hji, hk⟩
      · rcases key _ j' u2 hj' with ⟨rfl, rfl⟩ | ⟨hji', hk'⟩
        · exact absurd rfl hjj
        · have e := h.ds _ j' _ u2 hjj hu hk' (by simp) h2
          exact e
      · rcases key _ j' u2 hj' with ⟨rfl, rfl⟩ | ⟨hji', hk'⟩
        · have e := h.ds j _ u1 _ hjj hk hu h1 (by simp)
          exact e
        · exact h.ds j j' u1 u2 hjj hk hk' h1 h2
    · intro j v' hj h1 h2
      rcases key _ j v' hj with ⟨rfl, rfl⟩ | ⟨hji, hj⟩
      · exact hho
      · exact h.hold j v' hj h1 h2
    · intro j v' hj h1
      rcases key _ j v' hj with ⟨rfl, rfl⟩ | ⟨hji, hj⟩
      · simp at h1
      · exact h.fin j v' hj h1
    · intro j v' hj h1
      rcases key _ j v' hj with ⟨rfl, rfl⟩ | ⟨hji, hj⟩
      · simp at h1
      · exact absurd ⟨by omega, by omega⟩ (hno j v' hji hj)
    · intro hall
      exact absurd rfl (hall i _ (List.getElem?_set_self hil))
    · intro j v' hj h1
      simp only
      omega
  | 4, _ =>
    simp only [US.step]
    have htk := h.tk i _ hu (by simp)
    have hho := h.hold i _ hu (by simp) (by simp)
    have hn1 := h.n1 i _ hu rfl
    simp only at htk hho hn1
    subst hho
    have hno : ∀ (j : Nat) (v' : US), j ≠ i → us[j]? = some v' → ¬ (2 ≤ v'.at_ ∧ v'.at_ ≤ 4) := by
      rintro j v' hji hj ⟨h1, h2⟩
      have e1 := h.hold j v' hj h1 h2
      exact h.ds j i v' _ hji hj hu (by omega) (by simp) e1
    have hw : wrap64 (k + 1) = k + 1 := wrap_small _ (by omega) (by omega)
    rw [hw]
    refine ⟨?_, by simp⟩
    refine ⟨⟨hd.1, by simp only; omega⟩, ⟨by simp only; omega, by simp only; omega⟩, ?_, ?_, ?_, ?_, ?_, ?_, ?_⟩
    · intro j v' hj h1
      rcases key _ j v' hj with ⟨rfl, rfl⟩ | ⟨hji, hj⟩
      · exact htk
      · exact h.tk j v' hj h1
    · intro j j' u1 u2 hjj hj hj' h1 h2
      rcases key _ j u1 hj with ⟨rfl, rfl⟩ | ⟨hji, hk⟩
      · rcases key _ j' u2 hj' with ⟨rfl, rfl⟩ | ⟨hji', hk'⟩
        · exact absurd rfl hjj
        · have e := h.ds _ j' _ u2 hjj hu hk' (by simp) h2
          exact e
      · rcases key _ j' u2 hj' with ⟨rfl, rfl⟩ | ⟨hji', hk'⟩
        · have e := h.ds j _ u1 _ hjj hk hu h1 (by simp)
          exact e
        · exact h.ds j j' u1 u2 hjj hk hk' h1 h2
    · intro j v' hj h1 h2
      rcases key _ j v' hj with ⟨rfl, rfl⟩ | ⟨hji, hj⟩
      · simp at h2
      · exact absurd ⟨h1, h2⟩ (hno j v' hji hj)
    · intro j v' hj h1
      rcases key _ j v' hj with ⟨rfl, rfl⟩ | ⟨hji, hj⟩
      · simp only; omega
      · have := h.fin j v' hj h1; simp only at this ⊢; omega
    · intro j v' hj h1
      rcases key _ j v' hj with ⟨rfl, rfl⟩ | ⟨hji, hj⟩
      · simp at h1
      · exact absurd ⟨by omega, by omega⟩ (hno j v' hji hj)
    · intro _
      exact hn1
    · intro j v' hj h1
      rcases key _ j v' hj with ⟨rfl, rfl⟩ | ⟨hji, hj⟩
      · simp at h1
      · exact absurd ⟨by omega, by omega⟩ (hno j v' hji hj)
  | 5, _ =>
    simp only [US.step]
    rw [hself]
    exact ⟨⟨⟨hd.1, by simp only; omega⟩, h.s, h.tk, h.ds, h.hold, h.fin, h.saw, h.n0, h.n1⟩, by simp⟩

/-! ### The chapter's threads, walked -/
def uset (cs : Array Value) (off : Nat) (u : US) : Array Value := ((cs.setIfInBounds off (.int .i64 u.at_)).setIfInBounds (off + 1) (.int .i64 u.ticket)).setIfInBounds (off + 2) (.int .i64 u.saw)

def RefPost (tb off lb nb : Nat) (cs : Array Value) (u : US) (l : Ls) (w : World) (e : Ending) (w' : World) : Prop :=
  e = .returned (.tuple #[]) ∧ Blk w' tb 93 (uset cs off u) ∧ Blk w' lb 90 #[.int .i64 l.d, .int .i64 l.s] ∧ Blk w' nb 2 #[.int .i64 l.n] ∧ Upd [tb, lb, nb] w w'

theorem blk_uset {w' : World} {tb off : Nat} {ty : TypeId} {cs cs' : Array Value} {u : US} (h : Blk w' tb ty cs') (_hs : off + 2 < cs.size) (e0 : cs'[off]? = some (.int .i64 u.at_)) (e1 : cs'[off + 1]? = some (.int .i64 u.ticket)) (e2 : cs'[off + 2]? = some (.int .i64 u.saw))
    (hr : ∀ j, j ≠ off → j ≠ off + 1 → j ≠ off + 2 → cs'[j]? = cs[j]?) : Blk w' tb ty (uset cs off u) := by
  have e : uset cs off u = cs' := by
    apply Array.ext_getElem?
    intro j
    unfold uset
    by_cases h2 : off + 2 = j
    · subst h2
      rw [Array.getElem?_setIfInBounds_self_of_lt (by simp; omega), e2]
    · rw [Array.getElem?_setIfInBounds_ne h2]
      by_cases h1 : off + 1 = j
      · subst h1
        rw [Array.getElem?_setIfInBounds_self_of_lt (by simp; omega), e1]
      · rw [Array.getElem?_setIfInBounds_ne h1]
        by_cases h0 : off = j
        · subst h0
          rw [Array.getElem?_setIfInBounds_self_of_lt (by omega), e0]
        · rw [Array.getElem?_setIfInBounds_ne h0]
          exact (hr j (fun e => h0 e.symm) (fun e => h1 e.symm) (fun e => h2 e.symm)).symm
  rw [e]
  exact h

set_option maxRecDepth 100000 in
theorem ref05_step (tb off lb nb : Nat) (cs : Array Value) (u : US) (l : Ls) (w : World) (hT : Blk w tb 93 cs) (h0 : cs[off]? = some (.int .i64 u.at_)) (h1 : cs[off + 1]? = some (.int .i64 u.ticket)) (h2 : cs[off + 2]? = some (.int .i64 u.saw))
    (hL : Blk w lb 90 #[.int .i64 l.d, .int .i64 l.s]) (hN : Blk w nb 2 #[.int .i64 l.n]) (h5 : u.at_ ≤ 5) :
    Calls Try.prog 43 #[.pointer (some ⟨tb, off, none⟩), .pointer (some ⟨lb, 0, none⟩), .pointer (some ⟨nb, 0, none⟩)] w (RefPost tb off lb nb cs (u.step l).1 (u.step l).2 w) := by
  have n1 : tb ≠ lb := hT.ne_ hL (by decide)
  have n2 : tb ≠ nb := hT.ne_ hN (by decide)
  have n3 : lb ≠ nb := hL.ne_ hN (by decide)
  have c0 := hT.at_ h0
  have c1 := hT.at_ h1
  have c2 := hT.at_ h2
  have l0 := hL.at_ (i := 0) rfl
  have l1 := hL.at_ (i := 1) rfl
  have m0 := hN.at_ (i := 0) rfl
  simp only [List.getElem_toArray, List.getElem_cons_zero, List.getElem_cons_succ] at l0 l1 m0
  have f0 := hT.free off
  have f1 := hT.free (off + 1)
  have f2 := hT.free (off + 2)
  have g0 := hL.free 0
  have g1 := hL.free 1
  have k0 := hN.free 0
  have hsz : off + 2 < cs.size := by have := (Array.getElem?_eq_some_iff.1 h2).1; exact this
  obtain ⟨a, k, v⟩ := u
  obtain ⟨n, d, s⟩ := l
  simp only at c0 c1 c2 l0 l1 m0 h0 h1 h2 h5
  match a, h5 with
  | 0, _ =>
    have hfin : RefPost tb off lb nb cs ⟨1, d, v⟩ ⟨n, wrap64 (d + 1), s⟩ w (.returned (.tuple #[])) (((w.setCell ⟨tb, off + 1, none⟩ (.int .i64 d)).setCell ⟨lb, 0, none⟩ (.int .i64 (wrap64 (d + 1)))).setCell ⟨tb, off, none⟩ (.int .i64 1)) := by
      refine ⟨rfl, blk_uset (((hT.put (off + 1) (.int .i64 d)).far (p := ⟨lb, 0, none⟩) n1 (.int .i64 (wrap64 (d + 1)))).put (off) (.int .i64 1)) hsz ?_ ?_ ?_ ?_, (((hL.far (p := ⟨tb, off + 1, none⟩) (fun e => n1 e.symm) (.int .i64 d)).put (0) (.int .i64 (wrap64 (d + 1)))).far (p := ⟨tb, off, none⟩) (fun e => n1 e.symm) (.int .i64 1)), (((hN.far (p := ⟨tb, off + 1, none⟩) (fun e => n2 e.symm) (.int .i64 d)).far (p := ⟨lb, 0, none⟩) (fun e => n3 e.symm) (.int .i64 (wrap64 (d + 1)))).far (p := ⟨tb, off, none⟩) (fun e => n2 e.symm) (.int .i64 1)), ((((Upd.refl _ _).put (.inl (by simp)) _).put (.inl (by simp)) _).put (.inl (by simp)) _)⟩
      · first | (simp [show off < cs.size by omega]; done) | ((repeat rw [Array.getElem?_setIfInBounds_ne (by omega)]); exact h0)
      · first | (simp [show off + 1 < cs.size by omega]; done) | ((repeat rw [Array.getElem?_setIfInBounds_ne (by omega)]); exact h1)
      · first | (simp [show off + 2 < cs.size by omega]; done) | ((repeat rw [Array.getElem?_setIfInBounds_ne (by omega)]); exact h2)
      · intro j j0 j1 j2
        simp [Array.getElem?_setIfInBounds_ne, Ne.symm j0, Ne.symm j1, Ne.symm j2]
    have HF := Lib.hid hfin
    clear hfin hT hL hN h0 h1 h2
    go_enter Try.func43, Try.ntmps43
    go_wp2
    go_end0
    exact HF.out
  | 1, _ =>
    by_cases hsk : s = k
    · subst hsk
      have q : (s != s) = false := by simp
      simp only [US.step]
      rw [if_pos trivial]
      have hfin : ∀ nq, RefPost tb off lb nb cs ⟨2, s, v⟩ ⟨n, d, s⟩ w (.returned (.tuple #[])) ((w.drewN nq).setCell ⟨tb, off, none⟩ (.int .i64 2)) := by
        refine fun nq => ⟨rfl, blk_uset ((hT.drewN nq).put (off) (.int .i64 2)) hsz ?_ ?_ ?_ ?_, ((hL.drewN nq).far (p := ⟨tb, off, none⟩) (fun e => n1 e.symm) (.int .i64 2)), ((hN.drewN nq).far (p := ⟨tb, off, none⟩) (fun e => n2 e.symm) (.int .i64 2)), (((Upd.refl _ _).drewN nq).put (.inl (by simp)) _)⟩
        · first | (simp [show off < cs.size by omega]; done) | ((repeat rw [Array.getElem?_setIfInBounds_ne (by omega)]); exact h0)
        · first | (simp [show off + 1 < cs.size by omega]; done) | ((repeat rw [Array.getElem?_setIfInBounds_ne (by omega)]); exact h1)
        · first | (simp [show off + 2 < cs.size by omega]; done) | ((repeat rw [Array.getElem?_setIfInBounds_ne (by omega)]); exact h2)
        · intro j j0 j1 j2
          simp [Array.getElem?_setIfInBounds_ne, Ne.symm j0, Ne.symm j1, Ne.symm j2]
      have HF := Lib.hid hfin
      clear hfin hT hL hN h0 h1 h2
      go_enter Try.func43, Try.ntmps43
      go_wp2_with fail
      go_quiet (fail)
      go_wp2
      go_end0
      exact HF.out _
    · have q : (s != k) = true := by simp [hsk]
      simp only [US.step]
      rw [if_neg hsk]
      have hfin : ∀ nq, RefPost tb off lb nb cs ⟨1, k, v⟩ ⟨n, d, s⟩ w (.returned (.tuple #[])) (w.drewN nq) := by
        refine fun nq => ⟨rfl, blk_uset (hT.drewN nq) hsz ?_ ?_ ?_ ?_, hL.drewN nq, hN.drewN nq, (Upd.refl _ _).drewN nq⟩
        · first | (simp [show off < cs.size by omega]; done) | ((repeat rw [Array.getElem?_setIfInBounds_ne (by omega)]); exact h0)
        · first | (simp [show off + 1 < cs.size by omega]; done) | ((repeat rw [Array.getElem?_setIfInBounds_ne (by omega)]); exact h1)
        · first | (simp [show off + 2 < cs.size by omega]; done) | ((repeat rw [Array.getElem?_setIfInBounds_ne (by omega)]); exact h2)
        · intro j j0 j1 j2
          simp [Array.getElem?_setIfInBounds_ne, Ne.symm j0, Ne.symm j1, Ne.symm j2]
      have HF := Lib.hid hfin
      clear hfin hT hL hN h0 h1 h2
      go_enter Try.func43, Try.ntmps43
      clear hsk
      go_wp2_with fail
      go_quiet (fail)
      go_wp2
      go_end0
      exact HF.out _
  | 2, _ =>
    have hfin : RefPost tb off lb nb cs ⟨3, k, n⟩ ⟨n, d, s⟩ w (.returned (.tuple #[])) ((w.setCell ⟨tb, off + 2, none⟩ (.int .i64 n)).setCell ⟨tb, off, none⟩ (.int .i64 3)) := by
      refine ⟨rfl, blk_uset ((hT.put (off + 2) (.int .i64 n)).put (off) (.int .i64 3)) hsz ?_ ?_ ?_ ?_, ((hL.far (p := ⟨tb, off + 2, none⟩) (fun e => n1 e.symm) (.int .i64 n)).far (p := ⟨tb, off, none⟩) (fun e => n1 e.symm) (.int .i64 3)), ((hN.far (p := ⟨tb, off + 2, none⟩) (fun e => n2 e.symm) (.int .i64 n)).far (p := ⟨tb, off, none⟩) (fun e => n2 e.symm) (.int .i64 3)), (((Upd.refl _ _).put (.inl (by simp)) _).put (.inl (by simp)) _)⟩
      · first | (simp [show off < cs.size by omega]; done) | ((repeat rw [Array.getElem?_setIfInBounds_ne (by omega)]); exact h0)
      · first | (simp [show off + 1 < cs.size by omega]; done) | ((repeat rw [Array.getElem?_setIfInBounds_ne (by omega)]); exact h1)
      · first | (simp [show off + 2 < cs.size by omega]; done) | ((repeat rw [Array.getElem?_setIfInBounds_ne (by omega)]); exact h2)
      · intro j j0 j1 j2
        simp [Array.getElem?_setIfInBounds_ne, Ne.symm j0, Ne.symm j1, Ne.symm j2]
    have HF := Lib.hid hfin
    clear hfin hT hL hN h0 h1 h2
    go_enter Try.func43, Try.ntmps43
    go_wp2
    go_end0
    exact HF.out
  | 3, _ =>
    have hfin : RefPost tb off lb nb cs ⟨4, k, v⟩ ⟨wrap64 (v + 1), d, s⟩ w (.returned (.tuple #[])) ((w.setCell ⟨nb, 0, none⟩ (.int .i64 (wrap64 (v + 1)))).setCell ⟨tb, off, none⟩ (.int .i64 4)) := by
      refine ⟨rfl, blk_uset ((hT.far (p := ⟨nb, 0, none⟩) n2 (.int .i64 (wrap64 (v + 1)))).put (off) (.int .i64 4)) hsz ?_ ?_ ?_ ?_, ((hL.far (p := ⟨nb, 0, none⟩) n3 (.int .i64 (wrap64 (v + 1)))).far (p := ⟨tb, off, none⟩) (fun e => n1 e.symm) (.int .i64 4)), ((hN.put (0) (.int .i64 (wrap64 (v + 1)))).far (p := ⟨tb, off, none⟩) (fun e => n2 e.symm) (.int .i64 4)), (((Upd.refl _ _).put (.inl (by simp)) _).put (.inl (by simp)) _)⟩
      · first | (simp [show off < cs.size by omega]; done) | ((repeat rw [Array.getElem?_setIfInBounds_ne (by omega)]); exact h0)
      · first | (simp [show off + 1 < cs.size by omega]; done) | ((repeat rw [Array.getElem?_setIfInBounds_ne (by omega)]); exact h1)
      · first | (simp [show off + 2 < cs.size by omega]; done) | ((repeat rw [Array.getElem?_setIfInBounds_ne (by omega)]); exact h2)
      · intro j j0 j1 j2
        simp [Array.getElem?_setIfInBounds_ne, Ne.symm j0, Ne.symm j1, Ne.symm j2]
    have HF := Lib.hid hfin
    clear hfin hT hL hN h0 h1 h2
    go_enter Try.func43, Try.ntmps43
    go_wp2
    go_end0
    exact HF.out
  | 4, _ =>
    have hfin : RefPost tb off lb nb cs ⟨5, k, v⟩ ⟨n, d, wrap64 (k + 1)⟩ w (.returned (.tuple #[])) ((w.setCell ⟨lb, 1, none⟩ (.int .i64 (wrap64 (k + 1)))).setCell ⟨tb, off, none⟩ (.int .i64 5)) := by
      refine ⟨rfl, blk_uset ((hT.far (p := ⟨lb, 1, none⟩) n1 (.int .i64 (wrap64 (k + 1)))).put (off) (.int .i64 5)) hsz ?_ ?_ ?_ ?_, ((hL.put (1) (.int .i64 (wrap64 (k + 1)))).far (p := ⟨tb, off, none⟩) (fun e => n1 e.symm) (.int .i64 5)), ((hN.far (p := ⟨lb, 1, none⟩) (fun e => n3 e.symm) (.int .i64 (wrap64 (k + 1)))).far (p := ⟨tb, off, none⟩) (fun e => n2 e.symm) (.int .i64 5)), (((Upd.refl _ _).put (.inl (by simp)) _).put (.inl (by simp)) _)⟩
      · first | (simp [show off < cs.size by omega]; done) | ((repeat rw [Array.getElem?_setIfInBounds_ne (by omega)]); exact h0)
      · first | (simp [show off + 1 < cs.size by omega]; done) | ((repeat rw [Array.getElem?_setIfInBounds_ne (by omega)]); exact h1)
      · first | (simp [show off + 2 < cs.size by omega]; done) | ((repeat rw [Array.getElem?_setIfInBounds_ne (by omega)]); exact h2)
      · intro j j0 j1 j2
        simp [Array.getElem?_setIfInBounds_ne, Ne.symm j0, Ne.symm j1, Ne.symm j2]
    have HF := Lib.hid hfin
    clear hfin hT hL hN h0 h1 h2
    go_enter Try.func43, Try.ntmps43
    go_wp2
    go_end0
    exact HF.out
  | 5, _ =>
    have hfin : RefPost tb off lb nb cs ⟨5, k, v⟩ ⟨n, d, s⟩ w (.returned (.tuple #[])) w := by
      refine ⟨rfl, blk_uset hT hsz ?_ ?_ ?_ ?_, hL, hN, (Upd.refl _ _)⟩
      · first | (simp [show off < cs.size by omega]; done) | ((repeat rw [Array.getElem?_setIfInBounds_ne (by omega)]); exact h0)
      · first | (simp [show off + 1 < cs.size by omega]; done) | ((repeat rw [Array.getElem?_setIfInBounds_ne (by omega)]); exact h1)
      · first | (simp [show off + 2 < cs.size by omega]; done) | ((repeat rw [Array.getElem?_setIfInBounds_ne (by omega)]); exact h2)
      · intro j j0 j1 j2
        simp [Array.getElem?_setIfInBounds_ne, Ne.symm j0, Ne.symm j1, Ne.symm j2]
    have HF := Lib.hid hfin
    clear hfin hT hL hN h0 h1 h2
    go_enter Try.func43, Try.ntmps43
    go_wp2
    go_end0
    exact HF.out

/-! ### The chapter's threads as a row -/
def usList (us : List US) : List Value := us.flatMap fun u => [.int .i64 u.at_, .int .i64 u.ticket, .int .i64 u.saw]
def usCells (us : List US) : Array Value := (usList us).toArray
theorem usList_get : ∀ (us : List US) (i : Nat) (u : US), us[i]? = some u → (usList us)[3 * i]? = some (.int .i64 u.at_) ∧ (usList us)[3 * i + 1]? = some (.int .i64 u.ticket) ∧ (usList us)[3 * i + 2]? = some (.int .i64 u.saw)
  | [], i, u, h => by simp at h
  | v :: us, 0, u, h => by
    simp at h
    subst h
    simp [usList]
  | v :: us, i + 1, u, h => by
    have ih := usList_get us i u (by simpa using h)
    have e : 3 * (i + 1) = 3 * i + 3 := by omega
    rw [e]
    simpa [usList] using ih
theorem usCells_get {us : List US} {i : Nat} {u : US} (h : us[i]? = some u) : (usCells us)[3 * i]? = some (.int .i64 u.at_) ∧ (usCells us)[3 * i + 1]? = some (.int .i64 u.ticket) ∧ (usCells us)[3 * i + 2]? = some (.int .i64 u.saw) := by
  have := usList_get us i u h
  simpa [usCells] using this
theorem usList_set : ∀ (us : List US) (i : Nat) (u : US), i < us.length → (((usList us).set (3 * i) (.int .i64 u.at_)).set (3 * i + 1) (.int .i64 u.ticket)).set (3 * i + 2) (.int .i64 u.saw) = usList (us.set i u)
  | [], i, u, h => by simp at h
  | v :: us, 0, u, h => by simp [usList]
  | v :: us, i + 1, u, h => by
    have ih := usList_set us i u (by simpa using h)
    have e : 3 * (i + 1) = 3 * i + 3 := by omega
    rw [e]
    simp only [usList, List.flatMap_cons, List.cons_append, List.nil_append, List.set_cons_succ] at ih ⊢
    rw [ih]
theorem usCells_set (us : List US) (i : Nat) (u : US) (h : i < us.length) : uset (usCells us) (3 * i) u = usCells (us.set i u) := by
  apply Array.ext'
  simp only [uset, usCells, Array.toList_setIfInBounds]
  exact usList_set us i u h
theorem usList_zero : ∀ N, usList (List.replicate N ⟨0, 0, 0⟩) = List.replicate (N * 3) (.int .i64 0)
  | 0 => rfl
  | N + 1 => by
    have ih := usList_zero N
    rw [show (N + 1) * 3 = N * 3 + 1 + 1 + 1 by omega]
    simp only [List.replicate_succ, usList, List.flatMap_cons] at ih ⊢
    rw [ih]
    rfl
theorem made_zero (N : Nat) : madeCells #[.int .i64 0, .int .i64 0, .int .i64 0] (N * 3) = usCells (List.replicate N ⟨0, 0, 0⟩) := by
  apply Array.ext'
  simp only [usCells, usList_zero]
  apply List.ext_getElem?
  intro j
  by_cases hj : j < N * 3
  · have h3 : j % 3 = 0 ∨ j % 3 = 1 ∨ j % 3 = 2 := by omega
    rcases h3 with h | h | h <;> simp [madeCells, hj, h]
  · simp [madeCells, hj]

theorem info_thread05 : (Try.prog.info? 93).map (fun i => (i.zero, i.size, i.bytes)) = some (some (.agg #[.int .i64 0, .int .i64 0, .int .i64 0]), 3, 24) := by kernel_rfl
theorem under_threads05 : Try.prog.underlying 91 = some (.slice 93) := by kernel_rfl
theorem make_threads05 (N : Nat) (hN : N ≤ 16) (w : World) : (Instr.makeSlice 91 (.int .i64 (N : Int)) (.int .i64 (N : Int))).run Try.prog w = .ok (.slice (some ⟨w.heap.size, 0, none⟩) N N) (w.alloc (.cells (usCells (List.replicate N ⟨0, 0, 0⟩)) 93)) := by
  obtain ⟨i0, hi, hz0, hz1, hz2⟩ := info_parts info_thread05
  have h := run_make (P := Try.prog) w 91 93 i0 _ under_threads05 hi hz0 .i64 .i64 N N (by omega) (Int.le_refl _) (by rw [hz2]; omega) (by omega)
  rw [hz1, Int.toNat_natCast, show (Value.agg #[.int .i64 0, .int .i64 0, .int .i64 0]).cells = #[.int .i64 0, .int .i64 0, .int .i64 0] by rfl, made_zero] at h
  exact h

/-- The row of the trails' pointers grew by one, beside others. -/
theorem UThs.grew2 {B : Nat} {w : World} {m c pb : Nat} {O : List Nat} {K N : Nat} {ts : List Nat} {us : List US} {l : Ls} {A : Option Addr} {n cap n' cap' lo sz : Nat} {e : TypeId} {v' : Value} {xs' : List Value} {o : Obj} {w4 : World} (h : UThs B w m c pb (blockOf A ++ O) K N ts us l)
    (hg : (w.alloc o).grownBy w4 (Value.slice A n cap).ownBlock) (hat : v'.ownBlock = (Value.slice A n cap).ownBlock ∨ v'.ownBlock = some (w.alloc o).heap.size) (hown : w4.ownsRow lo e sz v' n' xs') {g : Nat} (hv : v' = .slice (some ⟨g, 0, none⟩) n' cap') :
    UThs B w4 m c pb (g :: O) K N ts us l := by
  subst hv
  have hu : Upd (blockOf A) w w4 := ((Upd.refl _ _).alloc o).grown hg (fun b hb => by
    cases A with
    | none => simp [Value.ownBlock] at hb
    | some a => simp [Value.ownBlock] at hb; exact .inl (by simp [blockOf, hb]))
  rcases hat with e | e
  · cases A with
    | none => simp [Value.ownBlock] at e
    | some a =>
      simp [Value.ownBlock] at e
      exact (h.upd hu (fun x hx => by simp [hx])).less (by simp [blockOf, e])
  · simp [Value.ownBlock] at e
    exact (h.more hu (fun x hx => by simp [hx]) (b := g) (by omega) (hown.lt g rfl).2).less (by simp; intro x hx; exact .inr (.inr hx))

set_option maxRecDepth 100000 in
set_option maxHeartbeats 4000000 in
theorem turns05 (th : Int) (a : Option Addr) (len cap : Nat) (zs : List Int) (w : World) (hth : (Lit.int .u8 th).wf = true) (ha : ArgInts .u8 w a len cap zs) :
    Calls Try.prog 13 #[.int .u8 th, .slice a len cap] w fun e w' => e = .returned (.bool true) ∧ Below w.heap.size w w' := by
  have HA := Lib.hid awake05
  have hcm := ha.hm
  have hcl := ha.le
  unfold maxLen at hcm
  rcases Nat.lt_or_ge 400 len with h400 | h400
  · go_enter Try.func13, Try.ntmps13
    go_wp2_with fail
    refine (HA.out _).mono ?_
    rintro e w1 ⟨rfl, hb1⟩
    go_wp2_with fail
    refine (HA.out _).mono ?_
    rintro e w2 ⟨rfl, hb2⟩
    go_wp2
    go_ret
    exact ⟨rfl, below_then hb1 hb2 (Nat.le_refl _)⟩
  · obtain ⟨i0, hi, hz0, hz1, hz2⟩ := info_parts info_trails
    obtain ⟨N, hN, hN1, hN16⟩ : ∃ N : Nat, wrap64 (1 + wrap64 (th.tmod 16)) = N ∧ 1 ≤ N ∧ N ≤ 16 := by
      have h0 := bounds_u8 hth
      refine ⟨1 + (th % 16).toNat, ?_, by omega, by omega⟩
      rw [Int.tmod_eq_emod_of_nonneg h0.1]
      generalize hx : th % 16 = x
      unfold wrap64
      omega
    have HW := Lib.hid hN
    have hmk := run_make_row' (P := Try.prog) 54 2 (.int .i64 0) 8 Try.underlying54 info_i64 rfl .i64 .i64 N (by omega) (by omega)
    have hmt := make_threads05 N hN16
    clear hth hN
    go_enter Try.func13, Try.ntmps13
    go_wp2_with fail
    refine (HA.out _).mono ?_
    rintro e w0 ⟨rfl, hb0⟩
    go_wp2_with fail
    rw [HW.out]
    refine (cell_new 3 _).mono ?_
    rintro e w1 ⟨rfl, hm, hb1, -⟩
    rw [show (⟨List.replicate (capn 3).toNat 0, 0⟩ : MemS) = ⟨[0, 0, 0], 0⟩ from rfl] at hm
    have hB0 := hb0.size
    have hb := below_then hb0 hb1 (Nat.le_refl _)
    generalize hx1 : w0.heap.size + 1 = m at *
    generalize hc : w0.heap.size = c at *
    have hbm : ∀ b ∈ [m, c], w.heap.size ≤ b := by simp; omega
    clear hx1 hc hb0 hb1
    have hB1 := hb.size
    go_upto_region 10 with fail
    have hL := (((Blk.new w1 90 #[.int .i64 0, .int .i64 0]).alloc (.cells #[.int .i64 0] 2)).alloc (.cells (usCells (List.replicate N ⟨0, 0, 0⟩)) 93)).alloc (.cells (madeCells #[.int .i64 0] N) 2)
    have hNn := ((Blk.new (w1.alloc (.cells #[.int .i64 0, .int .i64 0] 90)) 2 #[.int .i64 0]).alloc (.cells (usCells (List.replicate N ⟨0, 0, 0⟩)) 93)).alloc (.cells (madeCells #[.int .i64 0] N) 2)
    have hT := (Blk.new ((w1.alloc (.cells #[.int .i64 0, .int .i64 0] 90)).alloc (.cells #[.int .i64 0] 2)) 93 (usCells (List.replicate N ⟨0, 0, 0⟩))).alloc (.cells (madeCells #[.int .i64 0] N) 2)
    have hP := Blk.new (((w1.alloc (.cells #[.int .i64 0, .int .i64 0] 90)).alloc (.cells #[.int .i64 0] 2)).alloc (.cells (usCells (List.replicate N ⟨0, 0, 0⟩)) 93)) 2 (madeCells #[.int .i64 0] N)
    simp only [World.size_alloc] at hL hNn hT hP
    have hm2 := (((hm.alloc (.cells #[.int .i64 0, .int .i64 0] 90)).alloc (.cells #[.int .i64 0] 2)).alloc (.cells (usCells (List.replicate N ⟨0, 0, 0⟩)) 93)).alloc (.cells (madeCells #[.int .i64 0] N) 2)
    have hb2 : Below w.heap.size w ((((w1.alloc (.cells #[.int .i64 0, .int .i64 0] 90)).alloc (.cells #[.int .i64 0] 2)).alloc (.cells (usCells (List.replicate N ⟨0, 0, 0⟩)) 93)).alloc (.cells (madeCells #[.int .i64 0] N) 2)) :=
      (((hb.alloc hB1 _).alloc (by simp; omega) _).alloc (by simp; omega) _).alloc (by simp; omega) _
    have hmlt := hm.1.lt
    have hclt := hm.2.1.lt
    generalize ((((w1.alloc (.cells #[.int .i64 0, .int .i64 0] 90)).alloc (.cells #[.int .i64 0] 2)).alloc (.cells (usCells (List.replicate N ⟨0, 0, 0⟩)) 93)).alloc (.cells (madeCells #[.int .i64 0] N) 2)) = w2 at *
    have hpb := hP.lt
    have htb := hT.lt
    have hlb := hL.lt
    have hnb := hNn.lt
    have hU : UThs w.heap.size w2 m c (w1.heap.size + 1 + 1 + 1) (blockOf none ++ [w1.heap.size + 1 + 1, w1.heap.size, w1.heap.size + 1]) 0 N [] [] ⟨0, 0, 0⟩ := by
      refine ⟨[], _, 0, Ths.none hm2 hP ?_ ?_ ?_, by rw [nums_zeros, nums_size]; simp, rfl, rfl, by simp, by simp⟩
      · simp; omega
      · intro x hx
        simp [blockOf] at hx
        rcases hx with e | e | e <;> subst e <;> refine ⟨by omega, ?_⟩ <;> simp <;> omega
      · intro x hx
        simp only [List.mem_cons] at hx
        rcases hx with e | hx
        · omega
        · exact hbm x (by simpa using hx)
    generalize h3 : w1.heap.size + 1 + 1 + 1 = pb at *
    generalize h2 : w1.heap.size + 1 + 1 = tb at *
    generalize h1 : w1.heap.size + 1 = nb at *
    generalize w1.heap.size = lb at *
    have hge : ∀ x ∈ [tb, lb, nb], w.heap.size ≤ x := by simp; omega
    obtain ⟨S, hS⟩ : ∃ S, S = w2.heap.size := ⟨_, rfl⟩
    rw [← hS] at hpb htb hlb hnb
    have hSw := hb2.size
    rw [← hS] at hSw
    have HS := Lib.hid hS
    clear h1 h2 h3 hm hb hP hm2 hmlt hclt hS
    go_wp2_with fail
    go_loopw [9, 12] (fun v i wr => ∃ (k : Nat) (A : Option Addr) (cap : Nat) (ts : List Nat), k ≤ N ∧ i = .int .i64 k ∧ v = .slice A k cap ∧ wr.ownsRow S 30 1 (.slice A k cap) k (ts.map ptrOf) ∧ ts.length = k ∧
      UThs w.heap.size wr m c pb (blockOf A ++ [tb, lb, nb]) 0 N ts (List.replicate k ⟨0, 0, 0⟩) ⟨0, 0, 0⟩ ∧ Blk wr tb 93 (usCells (List.replicate N ⟨0, 0, 0⟩)) ∧ Blk wr lb 90 #[.int .i64 0, .int .i64 0] ∧ Blk wr nb 2 #[.int .i64 0] ∧ S ≤ wr.heap.size ∧ Below w.heap.size w wr) (fun _ i _ => N - (intOf i).toNat)
    case atStart => exact ⟨0, none, 0, [], Nat.zero_le _, rfl, rfl, World.ownsRow_nil _ _ _ _, rfl, hU, hT, hL, hNn, Nat.le_of_eq HS.out, hb2⟩
    case round =>
      clear hU hT hL hNn hb2 hmk hmt
      obtain ⟨k, A, cap, ts, hk, rfl, rfl, hown, hl, hU, hT, hL, hNn, hSr, hw⟩ := hrel
      by_cases hlt : k < N
      · obtain ⟨cnt, hmm⟩ := hU.mem
        go_wp2_with fail
        refine (t_new m c _ _ hmm).mono ?_
        rintro e w3 ⟨rfl, htm, hb3⟩
        have hU3 := hU.push hmm hb3 htm (Nat.le_refl _) (by omega) hw.size
        have hown3 : w3.ownsRow S 30 1 (.slice A k cap) k (ts.map ptrOf) := ownsRow_upd hown (Upd.of_below hb3 (F := [])) (by simp)
        have hw3 := below_then hw hb3 (Nat.le_refl _)
        have hB3 := hw3.size
        have hS3 := Nat.le_trans hSr hb3.size
        have hT3 := hT.below hb3 hT.lt
        have hL3 := hL.below hb3 hL.lt
        have hN3 := hNn.below hb3 hNn.lt
        rw [show List.replicate k (⟨0, 0, 0⟩ : US) ++ [⟨0, 0, 0⟩] = List.replicate (k + 1) ⟨0, 0, 0⟩ by rw [List.replicate_succ']] at hU3
        clear hmm htm hb3 hU hown hw hT hL hNn hSr
        generalize wr.heap.size = t at *
        have HU := Lib.hid hU3
        clear hU3
        go_wp2_with (at_builtin; refine wpList_append_own_at (P := Try.prog) _ rfl (.tmp 41) (.tmp 44) 52 rfl S 30 i0 (.pointer none) 1 8 under_trails hi hz0 hz1 hz2 rfl (by decide) _ _ _ rfl (hown3.alloc _) ⟨w3.heap.size, 0, none⟩ 1 1 [ptrOf t] rfl rfl ?c1 ?c2 ?c3 ?c4 ?c5 ?_)
        case c1 => exact cell_one_new _ _ _
        case c2 => intro u hu; simp at hu; subst hu; rfl
        case c3 => unfold maxLen; omega
        case c4 => omega
        case c5 => simp; omega
        intro v' w4 hown' hgrow _ hat'
        obtain ⟨g, cap', rfl⟩ := own_some hown'
        have hU4 := HU.out.grew2 hgrow (by simpa using hat') hown' rfl
        have hne : ∀ x, x < S → some x ≠ (Value.slice A k cap).ownBlock := by
          intro x hx e
          have := (hown3.lt _ e.symm).1
          omega
        have hT4 := (hT3.alloc (.cells #[ptrOf t] 30)).grown hgrow (hne _ htb)
        have hL4 := (hL3.alloc (.cells #[ptrOf t] 30)).grown hgrow (hne _ hlb)
        have hN4 := (hN3.alloc (.cells #[ptrOf t] 30)).grown hgrow (hne _ hnb)
        have hw4 : Below w.heap.size w w4 := (hw3.alloc hB3 _).grown hgrow (by simp; omega) (fun g hg => by have := (hown3.lt _ hg).1; omega)
        have hS4 : S ≤ w4.heap.size := by have := hgrow.size; simp at this; omega
        rw [show ts.map ptrOf ++ [ptrOf t] = (ts ++ [t]).map ptrOf by simp] at hown'
        clear HU hgrow hat' hown3 hw3 hT3 hL3 hN3 hne
        go_wp2
        go_roundw
        case rel => exact ⟨k + 1, some ⟨g, 0, none⟩, cap', ts ++ [t], by omega, by go_num, rfl, hown', by simp [hl], hU4, hT4, hL4, hN4, hS4, hw4⟩
        case measure => simp [intOf]; omega
      · obtain rfl : k = N := by omega
        obtain ⟨hrow', -⟩ := Rows'.ofOwn hown
        obtain ⟨g, hA, hrow⟩ : ∃ g, A = some ⟨g, 0, none⟩ ∧ Row wr 30 1 g k cap (ts.map ptrOf) := by
          rcases hrow' with ⟨_, h, _⟩ | ⟨g, cap', h, hr⟩
          · omega
          · injection h with h1 h2 h3
            subst h3
            exact ⟨g, h1, hr⟩
        subst hA
        rw [blockOf_some] at hU
        clear hrow' hown hlt hSr
        have hinv := UInv.first k
        have HAR := Lib.hid ha
        clear ha
        go_wp2_with fail
        go_loopw [13, 14] (fun v i wr => ∃ (q : Nat) (us : List US) (l : Ls), q ≤ len ∧ i = .int .i64 q ∧ v = .int .i64 l.s ∧ Row wr 30 1 g k cap (ts.map ptrOf) ∧ UThs w.heap.size wr m c pb ([g] ++ [tb, lb, nb]) q k ts us l ∧ UInv q us l ∧
          Blk wr tb 93 (usCells us) ∧ Blk wr lb 90 #[.int .i64 l.d, .int .i64 l.s] ∧ Blk wr nb 2 #[.int .i64 l.n] ∧ Below w.heap.size w wr) (fun _ i _ => len - (intOf i).toNat)
        case atStart => exact ⟨0, _, _, Nat.zero_le _, rfl, rfl, hrow, hU, hinv, hT, hL, hNn, hw⟩
        case round =>
          clear hrow hU hw hinv hT hL hNn
          obtain ⟨q, us, l, hq, rfl, rfl, hrow, hU, hinv, hT, hL, hNn, hw⟩ := hrel
          by_cases hlt : q < len
          · obtain ⟨zb, zo, rfl, -, hzc⟩ := (HAR.out.below hw (Nat.le_refl _)).at_ hlt
            obtain ⟨zn, hzn, hz255⟩ : ∃ zn : Nat, zs.getD q 0 = zn ∧ zn ≤ 255 := by
              have hl := HAR.out.hl
              have := bounds_u8 (HAR.out.wf (zs.getD q 0) (by rw [List.getD_eq_getElem?_getD, List.getElem?_eq_getElem (by omega)]; simp))
              exact ⟨(zs.getD q 0).toNat, by omega, by omega⟩
            rw [hzn] at hzc
            obtain ⟨p, hp⟩ : ∃ p, zn % k = p := ⟨_, rfl⟩
            have hpk : p < k := by rw [← hp]; exact Nat.mod_lt _ (by omega)
            have HIX := Lib.hid (show (wrap64 (zn : Int)).tmod (k : Int) = (p : Nat) by rw [wrap_small _ (by omega) (by omega), Int.tmod_eq_emod_of_nonneg (by omega), ← hp]; rfl)
            clear hzn hp hz255
            have hlen := hU.len
            obtain ⟨t, ht⟩ : ∃ t, ts[p]? = some t := ⟨_, List.getElem?_eq_getElem (by omega)⟩
            obtain ⟨u, hu⟩ : ∃ u, us[p]? = some u := ⟨_, List.getElem?_eq_getElem (by omega)⟩
            have hcell := hrow.cell (j := p) (u := ptrOf t) (by rw [List.getElem?_map, ht]; rfl)
            obtain ⟨s, F, μ, htm, hov⟩ := hU.over ht hu
            have hne : (k : Int) ≠ 0 := by omega
            have hpi : (p : Int) < k := by omega
            have hpi0 : (0 : Int) ≤ p := by omega
            have HT := Lib.hid hT
            have HL := Lib.hid hL
            have HN := Lib.hid hNn
            clear hT hL hNn
            go_upto_region 19 with fail
            rw [HIX.out]
            clear hzc
            go_wp2_with fail
            refine (t_over m c t μ s F _ htm).mono ?_
            rw [hov]
            rintro e w' ⟨rfl, rfl⟩
            clear htm hov
            go_upto_region 20 with fail
            have hU1 := hU.upd (Upd.drew (Upd.refl [] wr)) (by simp)
            have hw1 : Below w.heap.size w wr.drew := ⟨hw.os, hw.tape, hw.output, hw.size, hw.block⟩
            have hrow1 := hrow.drew
            have hT1 := HT.out.drew
            have hL1 := HL.out.drew
            have hN1 := HN.out.drew
            go_still_tail 10, (by kernel_rfl)
            change wpList _ _ _ _ _ wr.drew
            clear hcell hrow hU hw HT HL HN
            generalize wr.drew = w5 at *
            have HT := Lib.hid hT1
            have HL := Lib.hid hL1
            have HN := Lib.hid hN1
            clear hT1 hL1 hN1
            have h5u : u.at_ ≤ 5 := by obtain ⟨_, _, _, _, _, _, _, _, h5⟩ := hU1; exact h5 u (List.mem_of_getElem? hu)
            have hstep := hinv.step hu h5u (by omega)
            have hat' := step_at u l h5u
            obtain ⟨c0, c1, c2⟩ := usCells_get hu
            rw [Nat.mul_comm] at c0 c1 c2
            have hset := fun u' => usCells_set us p u' (by omega)
            rw [Nat.mul_comm 3 p] at hset
            have HSET := Lib.hid hset
            clear hset
            have hpl : p < us.length := by omega
            have hmono : u.at_ = 5 → (u.step l).1.at_ = 5 := by
              intro h
              obtain ⟨a, kk, vv⟩ := u
              simp only at h
              subst h
              rfl
            go_wp2_with fail
            refine (hU1.step ht hu (by omega) hw1.size q).mono ?_
            have hrf := fun w6 (h1 : Blk w6 tb 93 (usCells us)) (h2 : Blk w6 lb 90 #[.int .i64 l.d, .int .i64 l.s]) (h3 : Blk w6 nb 2 #[.int .i64 l.n]) => ref05_step tb (p * 3) lb nb (usCells us) u l w6 h1 c0 c1 c2 h2 h3 h5u
            generalize hsu : u.step l = q2 at *
            obtain ⟨u', l'⟩ := q2
            simp only at hstep hat' hmono
            obtain ⟨hinv', hs'⟩ := hstep
            have HRF := Lib.hid hrf
            have HS2 := Lib.hid hs'
            have HINV := Lib.hid hinv'
            clear hrf hs' hinv' c0 c1 c2 hsu
            rintro e w6 ⟨rfl, hU6, hO6, hb6⟩
            have hw6 : Below w.heap.size w w6 := hw1.trans hb6
            have hT6 : Blk w6 tb 93 (usCells us) := (hO6 tb (by simp)).trans HT.out
            have hL6 : Blk w6 lb 90 #[.int .i64 l.d, .int .i64 l.s] := (hO6 lb (by simp)).trans HL.out
            have hN6 : Blk w6 nb 2 #[.int .i64 l.n] := (hO6 nb (by simp)).trans HN.out
            have hrow6 : Row w6 30 1 g k cap (ts.map ptrOf) := by
              obtain ⟨cur, hc, hr⟩ := hrow1
              exact ⟨cur, (hO6 g (by simp)).trans hc, hr⟩
            clear hU1 hw1 hrow1 hO6 hb6 HT HL HN
            simp only at hU6
            go_wp2_with fail
            refine (HRF.out _ hT6 hL6 hN6).mono ?_
            rintro e w7 ⟨rfl, hT7, hL7, hN7, hu7⟩
            rw [HSET.out] at hT7
            have hU7 := hU6.upd hu7 (by simp)
            have hg7 : g ∉ [tb, lb, nb] := by
              obtain ⟨cur, hc, -⟩ := hrow6
              have e1 := hc.ne_ hT6 (by decide)
              have e2 := hc.ne_ hL6 (by decide)
              have e3 := hc.ne_ hN6 (by decide)
              simp
              exact ⟨e1, e2, e3⟩
            have hrow7 := hrow6.upd hu7 hg7
            have hw7 := below_upd hw6 hu7 (Nat.le_refl _) hge
            have hu' : (us.set p u')[p]? = some u' := List.getElem?_set_self hpl
            clear hT6 hL6 hN6 hU6 hu7 hrow6 hw6
            have HSP : Hid ((u.at_ = 5 ∧ u'.at_ = 5) ∨ (u.at_ ≠ 5 ∧ u'.at_ = 5) ∨ (u.at_ ≠ 5 ∧ u'.at_ ≠ 5)) := Lib.hid (by omega)
            obtain ⟨cnt, hmm⟩ := hU7.mem
            have HT7 := Lib.hid hT7
            have HL7 := Lib.hid hL7
            have HN7 := Lib.hid hN7
            clear hT7 hL7 hN7
            rcases HSP.out with ⟨h1, h2⟩ | ⟨h1, h2⟩ | ⟨h1, h2⟩
            · have q1 : (u.at_ == 5) = true := by simp [h1]
              have q2 : (u'.at_ == 5) = true := by simp [h2]
              have hov : l'.s = l.s := by rw [HS2.out]; simp [h1, h2]
              have HOV := Lib.hid hov
              have H2 := Lib.hid h2
              clear h1 h2 hov HSP
              rw [q1, q2]
              clear q1 q2
              go_wp2_with fail
              refine (cell_look_as m c _ 0 3 [l'.n, l'.d, l'.s] 3 (by simp [MemS.look]) rfl _ hmm).mono ?_
              rintro e w8 ⟨gg, cc, rfl, -, hrow8, hb8⟩
              have hU8 := hU7.upd (Upd.of_below hb8 (F := [])) (by simp)
              have hT8 := HT7.out.below hb8 HT7.out.lt
              have hL8 := HL7.out.below hb8 HL7.out.lt
              have hN8 := HN7.out.below hb8 HN7.out.lt
              have hrt8 := hrow7.upd (Upd.of_below hb8 (F := [])) (by simp)
              have hw8 := below_then hw7 hb8 (Nat.le_refl _)
              have d0 := hrow8.cell (j := 0) (u := .int .i64 l'.n) rfl
              have d1 := hrow8.cell (j := 1) (u := .int .i64 l'.d) rfl
              have d2 := hrow8.cell (j := 2) (u := .int .i64 l'.s) rfl
              obtain ⟨e0, e1, -⟩ := usCells_get hu'
              rw [Nat.mul_comm] at e0 e1
              have c0 := hT8.at_ e0
              have c1 := hT8.at_ e1
              have b0 := hL8.at_ (i := 0) rfl
              have b1 := hL8.at_ (i := 1) rfl
              have a0 := hN8.at_ (i := 0) rfl
              simp only [List.getElem_toArray, List.getElem_cons_zero, List.getElem_cons_succ] at b0 b1 a0
              have hgot := hU8.got ht hu' H2.out
              have hfr := hU8.free p
              have q1 : ((u'.at_ : Int) == 5) = true := by have := H2.out; simp; omega
              have q3 : (l'.n != l'.n) = false := by simp
              have q4 : (l'.d != l'.d) = false := by simp
              have q5 : (l'.s != l'.s) = false := by simp
              have q6 : (u'.ticket != u'.ticket) = false := by simp
              have hlow := HINV.out.low
              have q7 : ¬ l'.n < l.s := by have := HOV.out; omega
              have HT8 := Lib.hid hT8
              have HL8 := Lib.hid hL8
              have HN8 := Lib.hid hN8
              clear hU7 hrow7 hw7 hrow8 hb8 e0 e1 hmm hT8 hL8 hN8 hlow
              go_upto_region 25 with fail
              go_quiet (fail)
              have hU9 := hU8.upd (Upd.drewN (Upd.refl [] w8) nq) (by simp)
              have hw9 : Below w.heap.size w (w8.drewN nq) := ⟨hw8.os, hw8.tape, hw8.output, hw8.size, hw8.block⟩
              clear d0 d1 d2 c0 c1 b0 b1 a0
              go_wp2
              go_roundw
              case rel => exact ⟨q + 1, _, l', by omega, by go_num, by rw [HOV.out], hrt8.drewN nq, hU9, HINV.out, HT8.out.drewN nq, HL8.out.drewN nq, HN8.out.drewN nq, hw9⟩
              case measure => simp [intOf]; omega
            · have q1 : (u.at_ == 5) = false := by simp [h1]
              have q2 : (u'.at_ == 5) = true := by simp [h2]
              have hov : l'.s = wrap64 (l.s + 1) := by
                have hd := hinv.d
                have hs := hinv.s
                rw [HS2.out, wrap_small _ (by omega) (by omega)]
                simp [h1, h2]
              have HOV := Lib.hid hov
              have H2 := Lib.hid h2
              clear h1 h2 hov HSP
              rw [q1, q2]
              clear q1 q2
              go_wp2_with fail
              refine (cell_look_as m c _ 0 3 [l'.n, l'.d, l'.s] 3 (by simp [MemS.look]) rfl _ hmm).mono ?_
              rintro e w8 ⟨gg, cc, rfl, -, hrow8, hb8⟩
              have hU8 := hU7.upd (Upd.of_below hb8 (F := [])) (by simp)
              have hT8 := HT7.out.below hb8 HT7.out.lt
              have hL8 := HL7.out.below hb8 HL7.out.lt
              have hN8 := HN7.out.below hb8 HN7.out.lt
              have hrt8 := hrow7.upd (Upd.of_below hb8 (F := [])) (by simp)
              have hw8 := below_then hw7 hb8 (Nat.le_refl _)
              have d0 := hrow8.cell (j := 0) (u := .int .i64 l'.n) rfl
              have d1 := hrow8.cell (j := 1) (u := .int .i64 l'.d) rfl
              have d2 := hrow8.cell (j := 2) (u := .int .i64 l'.s) rfl
              obtain ⟨e0, e1, -⟩ := usCells_get hu'
              rw [Nat.mul_comm] at e0 e1
              have c0 := hT8.at_ e0
              have c1 := hT8.at_ e1
              have b0 := hL8.at_ (i := 0) rfl
              have b1 := hL8.at_ (i := 1) rfl
              have a0 := hN8.at_ (i := 0) rfl
              simp only [List.getElem_toArray, List.getElem_cons_zero, List.getElem_cons_succ] at b0 b1 a0
              have hgot := hU8.got ht hu' H2.out
              have hfr := hU8.free p
              have q1 : ((u'.at_ : Int) == 5) = true := by have := H2.out; simp; omega
              have q3 : (l'.n != l'.n) = false := by simp
              have q4 : (l'.d != l'.d) = false := by simp
              have q5 : (l'.s != l'.s) = false := by simp
              have q6 : (u'.ticket != u'.ticket) = false := by simp
              have hlow := HINV.out.low
              have q7 : ¬ l'.n < wrap64 (l.s + 1) := by have := HOV.out; omega
              have HT8 := Lib.hid hT8
              have HL8 := Lib.hid hL8
              have HN8 := Lib.hid hN8
              clear hU7 hrow7 hw7 hrow8 hb8 e0 e1 hmm hT8 hL8 hN8 hlow
              go_upto_region 25 with fail
              go_quiet (fail)
              have hU9 := hU8.upd (Upd.drewN (Upd.refl [] w8) nq) (by simp)
              have hw9 : Below w.heap.size w (w8.drewN nq) := ⟨hw8.os, hw8.tape, hw8.output, hw8.size, hw8.block⟩
              clear d0 d1 d2 c0 c1 b0 b1 a0
              go_wp2
              go_roundw
              case rel => exact ⟨q + 1, _, l', by omega, by go_num, by rw [HOV.out], hrt8.drewN nq, hU9, HINV.out, HT8.out.drewN nq, HL8.out.drewN nq, HN8.out.drewN nq, hw9⟩
              case measure => simp [intOf]; omega
            · have q1 : (u.at_ == 5) = false := by simp [h1]
              have q2 : (u'.at_ == 5) = false := by simp [h2]
              have hov : l'.s = l.s := by rw [HS2.out]; simp [h1, h2]
              have HOV := Lib.hid hov
              have H2 := Lib.hid h2
              clear h1 h2 hov HSP
              rw [q1, q2]
              clear q1 q2
              go_wp2_with fail
              refine (cell_look_as m c _ 0 3 [l'.n, l'.d, l'.s] 3 (by simp [MemS.look]) rfl _ hmm).mono ?_
              rintro e w8 ⟨gg, cc, rfl, -, hrow8, hb8⟩
              have hU8 := hU7.upd (Upd.of_below hb8 (F := [])) (by simp)
              have hT8 := HT7.out.below hb8 HT7.out.lt
              have hL8 := HL7.out.below hb8 HL7.out.lt
              have hN8 := HN7.out.below hb8 HN7.out.lt
              have hrt8 := hrow7.upd (Upd.of_below hb8 (F := [])) (by simp)
              have hw8 := below_then hw7 hb8 (Nat.le_refl _)
              have d0 := hrow8.cell (j := 0) (u := .int .i64 l'.n) rfl
              have d1 := hrow8.cell (j := 1) (u := .int .i64 l'.d) rfl
              have d2 := hrow8.cell (j := 2) (u := .int .i64 l'.s) rfl
              obtain ⟨e0, e1, -⟩ := usCells_get hu'
              rw [Nat.mul_comm] at e0 e1
              have c0 := hT8.at_ e0
              have c1 := hT8.at_ e1
              have b0 := hL8.at_ (i := 0) rfl
              have b1 := hL8.at_ (i := 1) rfl
              have a0 := hN8.at_ (i := 0) rfl
              simp only [List.getElem_toArray, List.getElem_cons_zero, List.getElem_cons_succ] at b0 b1 a0
              have q1 : ((u'.at_ : Int) == 5) = false := by have := H2.out; simp; omega
              have q3 : (l'.n != l'.n) = false := by simp
              have q4 : (l'.d != l'.d) = false := by simp
              have q5 : (l'.s != l'.s) = false := by simp
              have q6 : (u'.ticket != u'.ticket) = false := by simp
              have hlow := HINV.out.low
              have q7 : ¬ l'.n < l.s := by have := HOV.out; omega
              have HT8 := Lib.hid hT8
              have HL8 := Lib.hid hL8
              have HN8 := Lib.hid hN8
              clear hU7 hrow7 hw7 hrow8 hb8 e0 e1 hmm hT8 hL8 hN8 hlow
              go_upto_region 25 with fail
              go_quiet (fail)
              have hU9 := hU8.upd (Upd.drewN (Upd.refl [] w8) nq) (by simp)
              have hw9 : Below w.heap.size w (w8.drewN nq) := ⟨hw8.os, hw8.tape, hw8.output, hw8.size, hw8.block⟩
              clear d0 d1 d2 c0 c1 b0 b1 a0
              go_wp2
              go_roundw
              case rel => exact ⟨q + 1, _, l', by omega, by go_num, by rw [HOV.out], hrt8.drewN nq, hU9, HINV.out, HT8.out.drewN nq, HL8.out.drewN nq, HN8.out.drewN nq, hw9⟩
              case measure => simp [intOf]; omega
          · clear hU hrow hT hL hNn hinv
            go_wp2
            go_ret
            exact ⟨rfl, hw⟩
end Go.Proofs.Ytcphidmfdakbeaa
