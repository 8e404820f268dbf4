/- Layer 19, plainly: Give, Retire, Reclaim, the epoch. -/
import Derived.Test.YtldccemgfjmcdaaEv19
namespace Go.Proofs.Ytldccemgfjmcdaa
open Go.RowKit
set_option linter.unusedSimpArgs false
set_option linter.unusedVariables false

/-- A handle of a live slot. -/
def LS.has (L : LS) (s : Nat) (h : Int) : Prop := 1 ≤ s ∧ s ≤ L.gen.length ∧ L.live.getD (s - 1) false = true ∧ h = L.gen.getD (s - 1) 0 * 65536 + s
section
variable {N : Nat} {f : Nat → Int} {α : ArS} {L : LS}
theorem Rel.right (h : Rel N f α L) (hs : Small L) (hN : N ≤ 1000) {s : Nat} {hd : Int} (hh : L.has s hd) : slotOf hd = s ∧ α.right hd = true ∧ (hd % 65536).toNat = s := by
  obtain ⟨h1, h2, h3, h4⟩ := hh
  have hg := h.gl
  have hb := getD_small (i := s - 1) hs.1
  have hsl : slotOf hd = s := by unfold slotOf; rw [if_neg (by omega)]; omega
  refine ⟨hsl, ?_, by omega⟩
  unfold ArS.right ArS.handle
  rw [hsl, h.at_ h1 (by omega), h.has h1 (by omega)]
  simp only [h3, Bool.and_true, Bool.true_and, beq_iff_eq]
  unfold hand wrap64
  omega
theorem Rel.give (h : Rel N f α L) (hs : Small L) (hN : N ≤ 1000) {s : Nat} {hd : Int} (hh : L.has s hd) : ∃ f' α', Ev (24 + 30 * N) f α (giveR hd) () 3 f' α' ∧ Rel N f' α' (L.give hd) := by
  obtain ⟨hsl, hr, hm⟩ := h.right hs hN hh
  obtain ⟨h1, h2, h3, h4⟩ := hh
  have hg := h.gl
  have hl := h.ll
  have s2 : s ≤ N := by omega
  have hc0 : α.cell hd 0 = (cl N s 0 : Nat) := h.cell (wd := 0) h1 s2 (by omega) hsl
  have l0 := cl_lt (N := N) h1 s2 (show 0 < 28 by omega)
  have hdi : α.died hd = { α with slots := L.gen.zip (L.live.set (s - 1) false) } := by
    unfold ArS.died
    rw [if_pos hr, hsl, h.at_ h1 s2]
    simp only [ArS.put]
    rw [h.slots, show ((s : Int) - 1).toNat = s - 1 by omega, zip_set]
    congr 2
    rw [List.getD_eq_getElem?_getD, List.getElem?_eq_getElem (show s - 1 < L.gen.length by omega)]
    simp
  have hns : s ∉ L.free := fun hin => by
    have := (h.fr s hin).2.2
    rw [List.getD_eq_getElem?_getD, List.getElem?_eq_getElem (show s - 1 < L.live.length by omega)] at this h3
    simp at this h3
    rw [this] at h3
    cases h3
  refine ⟨upd1 (upd1 f (cl N s 0) (f 21)) 21 s, α.died hd, ?_, ?_⟩
  · unfold giveR
    have e3 : Ev (24 + 30 * N) (upd1 f (cl N s 0) (f 21)) α ((stTellR 21 (slotOf hd) fun α => α.died hd).bind fun _ => Res.ret ()) () 1 (upd1 (upd1 f (cl N s 0) (f 21)) 21 s) (α.died hd) := by
      rw [hsl]
      exact (Ev.stTell (i := 21) (show 21 < 24 + 30 * N by omega) (s : Int) fun α => α.died hd).bind (k := fun _ => Res.ret ()) (Ev.ret ())
    have e2 := (Ev.cst (f := f) hc0 l0.1 (f 21)).bind (k := fun _ => (stTellR 21 (slotOf hd) fun α => α.died hd).bind fun _ => Res.ret ()) e3
    exact (Ev.ld (f := f) (α := α) (i := 21) (len := 24 + 30 * N) (show 21 < 24 + 30 * N by omega)).bind (k := fun v => (cstR hd 0 v).bind fun _ => (stTellR 21 (slotOf hd) fun α => α.died hd).bind fun _ => Res.ret ()) e2
  · have eg : L.give hd = { L with free := s :: L.free, live := L.live.set (s - 1) false } := by unfold LS.give; rw [hm]
    rw [eg]
    have n21 : ∀ t wd, cl N t wd ≠ 21 := fun t wd => by unfold cl; omega
    have low : ∀ k, k < 24 + 2 * N → k ≠ 21 → upd1 (upd1 f (cl N s 0) (f 21)) 21 (s : Int) k = f k := fun k hk hn => by rw [upd1_ne hn, upd1_ne (by omega)]
    refine ⟨hg, by simpa using hl, by rw [hdi]; exact h.first, by rw [hdi], by rw [hdi]; exact h.clean, ?_, ?_, ?_, List.nodup_cons.2 ⟨hns, h.nodup⟩, ?_, ?_, ?_, ?_, h.po, h.o0, h.rl, ?_⟩
    · rw [upd1_eq]; rfl
    · intro i u hu
      cases i with
      | zero =>
        simp only [List.getElem?_cons_zero, Option.some.injEq] at hu
        subst hu
        rw [upd1_ne (n21 _ _), upd1_eq, h.head]
        cases L.free <;> rfl
      | succ i =>
        simp only [List.getElem?_cons_succ] at hu
        have hu2 := List.mem_of_getElem? hu
        have hus : u ≠ s := fun e => hns (e ▸ hu2)
        rw [upd1_ne (n21 _ _), upd1_ne (cl_ne (h.fr u hu2).1 h1 (by omega) (by omega) (.inl hus)), h.chain i u hu]
        rfl
    · intro u hu
      rcases List.mem_cons.1 hu with rfl | hu
      · refine ⟨h1, s2, ?_⟩
        rw [List.getD_eq_getElem?_getD, List.getElem?_set_self (by omega)]
        rfl
      · obtain ⟨u1, u2, u3⟩ := h.fr u hu
        have hus : u ≠ s := fun e => hns (e ▸ hu)
        refine ⟨u1, u2, ?_⟩
        simp only [List.getD_eq_getElem?_getD] at u3 ⊢
        rw [List.getElem?_set_ne (by omega)]
        exact u3
    · intro i hi
      rw [upd1_ne (n21 _ _), upd1_ne (cl_ne (by omega) h1 (by omega) (by omega) (.inr (by omega))), h.gens i hi]
    · rw [low 4 (by omega) (by omega)]; exact h.ep
    · rw [low 22 (by omega) (by omega)]; exact h.o
    · rw [low 23 (by omega) (by omega)]; exact h.p
    · intro j e he
      have := Int.emod_lt_of_pos (L.out + j) (show (0 : Int) < N by omega)
      have := Int.emod_nonneg (L.out + j) (show (N : Int) ≠ 0 by omega)
      obtain ⟨r1, r2⟩ := h.rg j e he
      rw [low (24 + 2 * ((L.out + j) % N).toNat) (by omega) (by omega), low (25 + 2 * ((L.out + j) % N).toNat) (by omega) (by omega)]
      exact ⟨r1, r2⟩
def LS.retire (L : LS) (h tag : Int) : LS := { L with ring := L.ring ++ [(h, tag)], put := L.put + 1 }
theorem Rel.retire (h : Rel N f α L) (hs : Small L) (h1N : 1 ≤ N) (hN : N ≤ 1000) (hd tag : Int) (hr : L.ring.length < N) : ∃ f', Ev (24 + 30 * N) f α (retireR hd tag N) () 4 f' α ∧ Rel N f' α (L.retire hd tag) := by
  have hp := h.p
  have hpo := h.po
  have ho0 := h.o0
  have b1 := Int.emod_lt_of_pos (L.out + L.ring.length) (show (0 : Int) < N by omega)
  have b2 := Int.emod_nonneg (L.out + L.ring.length) (show (N : Int) ≠ 0 by omega)
  obtain ⟨q, hq⟩ : ∃ q, ((L.out + L.ring.length) % N).toNat = q := ⟨_, rfl⟩
  have ha : ringAt N (f 23) = ((24 + 2 * q : Nat) : Int) := by unfold ringAt; rw [hp, hpo]; omega
  have ha1 : ringAt N (f 23) + 1 = ((25 + 2 * q : Nat) : Int) := by rw [ha]; omega
  have hw : wrap64 (f 23 + 1) = L.put + 1 := by rw [hp]; have := hs.2.1; unfold wrap64; omega
  have low : ∀ k, k ≠ 23 → k ≠ 24 + 2 * q → k ≠ 25 + 2 * q → upd1 (upd1 (upd1 f (24 + 2 * q) hd) (25 + 2 * q) tag) 23 (L.put + 1) k = f k := fun k a b c => by rw [upd1_ne a, upd1_ne c, upd1_ne b]
  have ncl : ∀ t wd, cl N t wd ≠ 23 ∧ cl N t wd ≠ 24 + 2 * q ∧ cl N t wd ≠ 25 + 2 * q := fun t wd => by unfold cl; omega
  refine ⟨upd1 (upd1 (upd1 f (24 + 2 * q) hd) (25 + 2 * q) tag) 23 (L.put + 1), ?_, ?_⟩
  · unfold retireR
    have e4 := (Ev.st (f := upd1 (upd1 f (24 + 2 * q) hd) (25 + 2 * q) tag) (α := α) (len := 24 + 30 * N) (i := 23) (show 23 < 24 + 30 * N by omega) (wrap64 (f 23 + 1))).bind (k := fun _ => Res.ret ()) (Ev.ret ())
    have e3 := (Ev.st (f := upd1 f (24 + 2 * q) hd) (α := α) (len := 24 + 30 * N) (i := 25 + 2 * q) (by omega) tag).bind (k := fun _ => (stR 23 (wrap64 (f 23 + 1))).bind fun _ => Res.ret ()) e4
    rw [← ha1] at e3
    have e2 := (Ev.st (f := f) (α := α) (len := 24 + 30 * N) (i := 24 + 2 * q) (by omega) hd).bind (k := fun _ => (stR (ringAt N (f 23) + 1) tag).bind fun _ => (stR 23 (wrap64 (f 23 + 1))).bind fun _ => Res.ret ()) e3
    rw [← ha] at e2
    have e1 := (Ev.ld (f := f) (α := α) (i := 23) (len := 24 + 30 * N) (show 23 < 24 + 30 * N by omega)).bind (k := fun tail => (stR (ringAt N tail) hd).bind fun _ => (stR (ringAt N tail + 1) tag).bind fun _ => (stR 23 (wrap64 (tail + 1))).bind fun _ => Res.ret ()) e2
    rw [hw] at e1
    exact e1
  · refine ⟨h.gl, h.ll, h.first, h.slots, h.clean, ?_, ?_, h.fr, h.nodup, ?_, ?_, ?_, ?_, ?_, h.o0, ?_, ?_⟩
    · rw [low 21 (by omega) (by omega) (by omega)]; exact h.head
    · intro i u hu
      obtain ⟨a, b, c⟩ := ncl u 0
      rw [low _ a b c]
      exact h.chain i u hu
    · intro i hi
      obtain ⟨a, b, c⟩ := ncl (i + 1) 27
      rw [low _ a b c]
      exact h.gens i hi
    · rw [low 4 (by omega) (by omega) (by omega)]; exact h.ep
    · rw [low 22 (by omega) (by omega) (by omega)]; exact h.o
    · rw [upd1_eq]; rfl
    · simp only [LS.retire, List.length_append, List.length_singleton]; omega
    · simp only [LS.retire, List.length_append, List.length_singleton]; omega
    · intro j e he
      simp only [LS.retire] at he ⊢
      rcases Nat.lt_or_ge j L.ring.length with hj | hj
      · rw [List.getElem?_append_left hj] at he
        obtain ⟨r1, r2⟩ := h.rg j e he
        have c1 := Int.emod_lt_of_pos (L.out + j) (show (0 : Int) < N by omega)
        have c2 := Int.emod_nonneg (L.out + j) (show (N : Int) ≠ 0 by omega)
        have hne : ((L.out + j) % N).toNat ≠ q := by
          intro e
          have e1 : (L.out + j) % N = (L.out + L.ring.length) % N := by omega
          have e2 : ((L.out + L.ring.length) - (L.out + j)) % (N : Int) = 0 := Int.emod_eq_emod_iff_emod_sub_eq_zero.1 e1.symm
          rw [show (L.out + L.ring.length) - (L.out + j) = ((L.ring.length - j : Nat) : Int) by omega, Int.emod_eq_of_lt (by omega) (by omega)] at e2
          omega
        rw [low _ (by omega) (by omega) (by omega), low _ (by omega) (by omega) (by omega)]
        exact ⟨r1, r2⟩
      · rw [List.getElem?_append_right hj] at he
        have hj0 : j = L.ring.length := by
          by_cases hz : j - L.ring.length = 0
          · omega
          · rw [List.getElem?_eq_none (by simp; omega)] at he; cases he
        subst hj0
        rw [Nat.sub_self] at he
        simp only [List.getElem?_cons_zero, Option.some.injEq] at he
        subst he
        rw [hq]
        constructor
        · rw [upd1_ne (by omega), upd1_ne (by omega), upd1_eq]
        · rw [upd1_ne (by omega), upd1_eq]
theorem Rel.epoch (h : Rel N f α L) (v : Int) : ∃ f', Ev (24 + 30 * N) f α (stR 4 v) () 1 f' α ∧ Rel N f' α { L with epoch := v } := by
  have low : ∀ k, k ≠ 4 → upd1 f 4 v k = f k := fun k a => upd1_ne a
  have ncl : ∀ t wd, cl N t wd ≠ 4 := fun t wd => by unfold cl; omega
  refine ⟨upd1 f 4 v, Ev.st (i := 4) (show 4 < 24 + 30 * N by omega) v, h.gl, h.ll, h.first, h.slots, h.clean, ?_, ?_, h.fr, h.nodup, ?_, upd1_eq, ?_, ?_, h.po, h.o0, h.rl, ?_⟩
  · rw [low 21 (by omega)]; exact h.head
  · intro i u hu; rw [low _ (ncl _ _)]; exact h.chain i u hu
  · intro i hi; rw [low _ (ncl _ _)]; exact h.gens i hi
  · rw [low 22 (by omega)]; exact h.o
  · rw [low 23 (by omega)]; exact h.p
  · intro j e he
    rw [low _ (by omega), low _ (by omega)]
    exact h.rg j e he
end
end Go.Proofs.Ytldccemgfjmcdaa
