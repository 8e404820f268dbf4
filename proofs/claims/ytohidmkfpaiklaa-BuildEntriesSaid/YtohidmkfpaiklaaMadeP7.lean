/- Plainly: the list of a fine space is right; so is the head of a right list. -/
import Derived.Test.YtohidmkfpaiklaaListR7
namespace Go.Proofs.Ytohidmkfpaiklaa
open Go.RowKit
set_option linter.unusedSimpArgs false
set_option linter.unusedVariables false

def AttrV.Fine (x : AttrV) : Prop := 0 ≤ x.prot ∧ x.prot ≤ 7 ∧ 0 ≤ x.back ∧ x.back ≤ 9 ∧ x.off % 4096 = 0 ∧ 0 ≤ x.off ∧ (x.back = 0 → x.off = 0) ∧ (x.back ≠ 0 → x.off ≤ 1099511627776 - 4096)
def SpcFine (s : Spc) : Prop := ∀ p x, s p = some x → x.Fine
theorem SpcFine.ok {s : Spc} (h : SpcFine s) : SpcOk s := fun p x hx => by
  obtain ⟨-, -, -, -, -, h0, h1, h2⟩ := h p x hx
  refine ⟨h0, ?_⟩
  by_cases hb : x.back = 0
  · rw [h1 hb]; omega
  · have := h2 hb; omega
theorem at_fine {a : AreaV} (ha : a.formedB = true) {p : Int} (h0 : a.start / 4096 ≤ p) (h1 : p < a.stop / 4096) : (a.at_ p).Fine := by
  have fa := a.formed_iff.1 ha
  obtain ⟨g1, g2, g3, g4, g5, g6, g7, g8, g9, g10, g11, g12, g13⟩ := fa
  unfold AttrV.Fine AreaV.at_
  simp only
  by_cases hb : 0 < a.back
  · have := g13 (by omega)
    rw [if_pos hb]
    omega
  · rw [if_neg hb]
    omega
theorem mkArea_formed {x : AttrV} {p : Nat} (hx : x.Fine) (h0 : 16 ≤ p) (h1 : p < 512) : (mkArea p x).formedB = true := by
  rw [AreaV.formed_iff]
  unfold AttrV.Fine at hx
  unfold mkArea
  simp only
  obtain ⟨g1, g2, g3, g4, g5, g6, g7, g8⟩ := hx
  refine ⟨by omega, by omega, by omega, by omega, by omega, g1, g2, g3, g4, g7, g5, g6, fun h => by have := g8 h; omega⟩
theorem mkArea_at (x : AttrV) (hx : x.Fine) (p : Nat) : (mkArea p x).at_ ((mkArea p x).stop / 4096 - 1) = x := by
  unfold AttrV.Fine at hx
  obtain ⟨x0, x1, x2, x3⟩ := x
  simp only at hx
  unfold mkArea AreaV.at_
  simp only [AttrV.mk.injEq, true_and]
  split
  · omega
  · omega
/-- What holds of the list so far. -/
structure ListInv (s : Spc) (p : Nat) (out : List AreaV) : Prop where
  right : ∀ i, i < out.length → okAt out i = true
  last : 0 < out.length → (lastOf out).stop ≤ 4096 * p ∧ (lastOf out).formedB = true ∧ ∃ q : Nat, (lastOf out).stop = 4096 * ((q : Int) + 1) ∧ s q = some ((lastOf out).at_ q)
theorem okAt_congr {l l' : List AreaV} {i : Nat} (h : ∀ j, j ≤ i → l.getD j .zero = l'.getD j .zero) : okAt l i = okAt l' i := by
  unfold okAt
  rw [h i (Nat.le_refl _), h (i - 1) (Nat.sub_le _ _)]
theorem okAt_formed {l : List AreaV} {i : Nat} (h : okAt l i = true) : (l.getD i .zero).formedB = true := by
  unfold okAt at h
  rw [Bool.and_eq_true] at h
  exact h.1
theorem goes_longer {a b : AreaV} (hb : b.formedB = true) {n : Int} (hb' : AreaV.formedB { b with stop := n } = true) : a.goes { b with stop := n } = a.goes b := by
  unfold AreaV.goes
  rw [hb, hb']
theorem last_getD {l : List AreaV} (a : AreaV) : lastOf (l ++ [a]) = a := by
  unfold lastOf
  rw [List.length_append, List.length_singleton, Nat.add_sub_cancel, List.getD_eq_getElem?_getD, List.getElem?_append_right (Nat.le_refl _), Nat.sub_self]
  rfl
theorem last_set {l : List AreaV} (h : 0 < l.length) (a : AreaV) : lastOf (l.set (l.length - 1) a) = a := by
  unfold lastOf
  rw [List.length_set, List.getD_eq_getElem?_getD, List.getElem?_set_self (by omega)]
  rfl
theorem stepL_inv {s : Spc} {p : Nat} {out : List AreaV} (h : ListInv s p out) (hs : SpcFine s) (h0 : 16 ≤ p) (h1 : p < 512) : ListInv s (p + 1) (stepL s out p) := by
  unfold stepL
  cases hsp : s p with
  | none =>
    simp only
    refine ⟨h.right, fun hn => ?_⟩
    obtain ⟨g1, g2, g3⟩ := h.last hn
    exact ⟨by omega, g2, g3⟩
  | some x =>
    simp only
    have hx := hs p x hsp
    cases hj : joinsL s out p x with
    | true =>
      rw [if_pos rfl]
      unfold joinsL at hj
      simp only [Bool.and_eq_true, decide_eq_true_eq, beq_iff_eq] at hj
      obtain ⟨hn, hstop, hnext⟩ := hj
      obtain ⟨g1, g2, q, g3, g4⟩ := h.last hn
      have hqp : q = p - 1 := by omega
      subst hqp
      have hprev : prevA s p = (lastOf out).at_ ((p - 1 : Nat) : Int) := by unfold prevA; rw [g4]; rfl
      rw [hprev] at hnext
      have hst : (lastOf out).start / 4096 ≤ (p : Int) - 1 := by
        have := (lastOf out).formed_iff.1 g2
        omega
      have hat : AreaV.at_ { lastOf out with stop := 4096 * ((p : Int) + 1) } p = x := by
        rw [← hnext]
        unfold AttrV.next AreaV.at_
        simp only [AttrV.mk.injEq, true_and]
        by_cases hb : 0 < (lastOf out).back
        · rw [if_pos hb, if_pos hb, if_pos hb]; omega
        · rw [if_neg hb, if_neg hb, if_neg hb]
      have hf : AreaV.formedB { lastOf out with stop := 4096 * ((p : Int) + 1) } = true := by
        have := (lastOf out).formed_iff.1 g2
        rw [AreaV.formed_iff]
        obtain ⟨k1, k2, k3, k4, k5, k6, k7, k8, k9, k10, k11, k12, k13⟩ := this
        simp only
        refine ⟨k1, by omega, k3, by omega, by omega, k6, k7, k8, k9, k10, k11, k12, fun hb => ?_⟩
        unfold AttrV.Fine at hx
        rw [← hat] at hx
        unfold AreaV.at_ at hx
        simp only at hx
        rw [if_pos (by omega)] at hx
        have := hx.2.2.2.2.2.2.2 hb
        omega
      refine ⟨fun i hi => ?_, fun hn' => ?_⟩
      · rw [List.length_set] at hi
        rcases Nat.lt_or_ge i (out.length - 1) with hlt | hge
        · rw [okAt_congr (l' := out) (fun j hj => by rw [List.getD_eq_getElem?_getD, List.getElem?_set_ne (by omega), ← List.getD_eq_getElem?_getD])]
          exact h.right i (by omega)
        · obtain rfl : i = out.length - 1 := by omega
          have ho := h.right (out.length - 1) (by omega)
          have e1 : (out.set (out.length - 1) { lastOf out with stop := 4096 * ((p : Int) + 1) }).getD (out.length - 1) .zero = { lastOf out with stop := 4096 * ((p : Int) + 1) } := by
            rw [List.getD_eq_getElem?_getD, List.getElem?_set_self (by omega)]; rfl
          unfold okAt at ho ⊢
          rw [e1, hf]
          rw [show out.getD (out.length - 1) .zero = lastOf out from rfl] at ho
          by_cases h00 : out.length - 1 = 0
          · rw [h00]; rfl
          · have e2 : (out.set (out.length - 1) { lastOf out with stop := 4096 * ((p : Int) + 1) }).getD (out.length - 1 - 1) .zero = out.getD (out.length - 1 - 1) .zero := by
              rw [List.getD_eq_getElem?_getD, List.getElem?_set_ne (by omega), ← List.getD_eq_getElem?_getD]
            rw [e2, goes_longer g2 hf]
            rw [g2] at ho
            exact ho
      · rw [last_set hn]
        exact ⟨by simp only; omega, hf, p, rfl, by rw [hsp, hat]⟩
    | false =>
      rw [if_neg (by simp)]
      have hf := mkArea_formed hx h0 h1
      refine ⟨fun i hi => ?_, fun _ => ?_⟩
      · rw [List.length_append, List.length_singleton] at hi
        rcases Nat.lt_or_ge i out.length with hlt | hge
        · rw [okAt_congr (l' := out) (fun j hj => by rw [List.getD_eq_getElem?_getD, List.getElem?_append_left (by omega), ← List.getD_eq_getElem?_getD])]
          exact h.right i hlt
        · obtain rfl : i = out.length := by omega
          have e1 : (out ++ [mkArea p x]).getD out.length .zero = mkArea p x := by
            rw [List.getD_eq_getElem?_getD, List.getElem?_append_right (Nat.le_refl _), Nat.sub_self]; rfl
          unfold okAt
          rw [e1, hf]
          by_cases h00 : out.length = 0
          · rw [h00]; rfl
          · obtain ⟨g1, g2, q, g3, g4⟩ := h.last (by omega)
            have e2 : (out ++ [mkArea p x]).getD (out.length - 1) .zero = lastOf out := by
              rw [List.getD_eq_getElem?_getD, List.getElem?_append_left (by omega), ← List.getD_eq_getElem?_getD]; rfl
            rw [e2]
            have n1 : decide ((mkArea p x).start < (lastOf out).stop) = false := by rw [decide_eq_false_iff_not]; unfold mkArea; simp only; omega
            have n2 : (lastOf out).goes (mkArea p x) = false := by
              by_cases hm : (lastOf out).stop = (mkArea p x).start
              · rw [← goes_iff g2 hf hm]
                have hsp2 : (lastOf out).stop = 4096 * (p : Int) := hm
                have hqp : q = p - 1 := by omega
                subst hqp
                have hprev : prevA s p = (lastOf out).at_ ((p - 1 : Nat) : Int) := by unfold prevA; rw [g4]; rfl
                have hst : (lastOf out).stop / 4096 - 1 = ((p - 1 : Nat) : Int) := by omega
                have hax : (mkArea p x).at_ ((mkArea p x).start / 4096) = x := by
                  rw [show (mkArea p x).start / 4096 = (mkArea p x).stop / 4096 - 1 by unfold mkArea; simp only; omega]
                  exact mkArea_at x hx p
                rw [hst, ← hprev, hax, decide_eq_false_iff_not]
                intro hnx
                unfold joinsL at hj
                rw [hsp2, hnx, decide_eq_true (show 0 < out.length by omega)] at hj
                simp at hj
              · unfold AreaV.goes
                rw [show ((lastOf out).stop == (mkArea p x).start) = false by rw [beq_eq_false_iff_ne]; exact hm]
                simp
            rw [n1, n2]
            simp
      · rw [last_getD]
        refine ⟨by unfold mkArea; simp only; omega, hf, p, rfl, ?_⟩
        rw [hsp]
        have := mkArea_at x hx p
        rw [show (mkArea p x).stop / 4096 - 1 = (p : Int) by unfold mkArea; simp only; omega] at this
        rw [this]
theorem listTo_inv {s : Spc} (hs : SpcFine s) : ∀ p, p ≤ 512 → ListInv s p (listTo s p)
  | 0, _ => ⟨by simp [listTo], by simp [listTo]⟩
  | p + 1, h => by
    rcases Nat.lt_or_ge p 16 with h16 | h16
    · rw [listTo, if_pos h16]
      exact ⟨by simp, by simp⟩
    · rw [listTo_next s h16]
      exact stepL_inv (listTo_inv hs p (by omega)) hs h16 (by omega)
theorem listR_right {s : Spc} (hs : SpcFine s) : rightB (listR s) = true := rightB_all rfl (listTo_inv hs 512 (Nat.le_refl _)).right
theorem right_each {l : List AreaV} (h : rightB l = true) : ∀ i, i < l.length → okAt l i = true := by
  unfold rightB at h
  rw [List.all_eq_true] at h
  exact fun i hi => h i (by simpa using hi)
theorem right_take {l : List AreaV} (h : rightB l = true) (n : Nat) : rightB (l.take n) = true := by
  refine rightB_all rfl fun i hi => ?_
  rw [List.length_take] at hi
  rw [okAt_congr (l' := l) (fun j hj => by rw [List.getD_eq_getElem?_getD, List.getElem?_take_of_lt (by omega), ← List.getD_eq_getElem?_getD])]
  exact right_each h i (by omega)
theorem right_formed {l : List AreaV} (h : rightB l = true) : ∀ a ∈ l, a.formedB = true := by
  intro a ha
  obtain ⟨i, hi, rfl⟩ := List.getElem_of_mem ha
  have := okAt_formed (right_each h i hi)
  rwa [List.getD_eq_getElem?_getD, List.getElem?_eq_getElem hi] at this
theorem formed_ok {a : AreaV} (h : a.formedB = true) : a.Ok := by
  have := a.formed_iff.1 h
  obtain ⟨k1, k2, k3, k4, k5, k6, k7, k8, k9, k10, k11, k12, k13⟩ := this
  have hw : ∀ x : Int, -9223372036854775808 ≤ x → x ≤ 9223372036854775807 → (Lit.int .i64 x).wf = true := fun x h0 h1 => wf_of_bounds ⟨h0, h1⟩
  refine ⟨hw _ (by omega) (by omega), hw _ (by omega) (by omega), hw _ (by omega) (by omega), hw _ (by omega) (by omega), hw _ (by omega) ?_⟩
  by_cases hb : a.back = 0
  · rw [k10 hb]; omega
  · have := k13 hb; omega
end Go.Proofs.Ytohidmkfpaiklaa
