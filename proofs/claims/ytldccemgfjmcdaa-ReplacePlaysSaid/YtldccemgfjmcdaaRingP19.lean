/- ReplaceRing, plainly: a round. -/
import Derived.Test.YtldccemgfjmcdaaLive19
namespace Go.Proofs.Ytldccemgfjmcdaa
open Go.RowKit
set_option linter.unusedSimpArgs false
set_option linter.unusedVariables false

def LS.count (L : LS) : Nat := (L.live.filter id).length
theorem liveN_zip : ∀ (g : List Int) (l : List Bool), g.length = l.length → liveN (g.zip l) = (l.filter id).length
  | [], [], _ => rfl
  | _ :: g, x :: l, h => by
    have := liveN_zip g l (by simpa using h)
    unfold liveN at this ⊢
    cases x <;> simp_all
  | [], _ :: _, h => by simp at h
  | _ :: _, [], h => by simp at h
structure RI (L : LS) (e B : Int) : Prop where
  ring : L.ring = []
  free : L.free ≠ []
  epoch : L.epoch = e
  ok : L.Ok []
  sm : L.Sm B
  one : L.count = 1
theorem ri_new (N : Nat) (h : 2 ≤ N) : RI (LS.new N) 0 1 := by
  refine ⟨rfl, ?_, rfl, ok_new N, sm_new N, ?_⟩
  · simp only [LS.new]
    obtain ⟨q, hq⟩ : ∃ q, N - 1 = q + 1 := ⟨N - 2, by omega⟩
    rw [hq, List.range_succ_eq_map]
    simp
  · unfold LS.count LS.new
    simp [List.filter_replicate]
/-- Behind a round. -/
def LS.round (L : LS) (e : Int) : LS := ({ L.take.2.retire L.take.1 e with epoch := e + 2 } : LS).pop (L.take.1, e) []
section
variable {N : Nat} {f : Nat → Int} {α : ArS} {L : LS} {e B : Int}
theorem ring_early (h : RI L e B) : LS.reclaimGo 9 0 (L.take.2.retire L.take.1 e) = (0, L.take.2.retire L.take.1 e) := by
  have e1 : (L.take.2.retire L.take.1 e).ring = [(L.take.1, e)] := by
    have := h.ring
    unfold LS.retire LS.take
    split <;> simp [this]
  have e2 : (L.take.2.retire L.take.1 e).epoch = e := by
    have := h.epoch
    unfold LS.retire LS.take
    split <;> simp [this]
  unfold LS.reclaimGo
  rw [e1]
  simp only
  rw [e2, if_neg (by omega)]
theorem ring_late (h : RI L e B) : LS.reclaimGo 9 0 { L.take.2.retire L.take.1 e with epoch := e + 2 } = (1, L.round e) := by
  have e1 : ({ L.take.2.retire L.take.1 e with epoch := e + 2 } : LS).ring = [(L.take.1, e)] := by
    have := h.ring
    unfold LS.retire LS.take
    split <;> simp [this]
  unfold LS.reclaimGo
  rw [e1]
  simp only
  rw [if_pos (by omega)]
  unfold LS.reclaimGo
  rfl
theorem filter_set_same : ∀ (l : List Bool) (i : Nat), l.getD i true = false → (((l.set i true).set i false).filter id).length = (l.filter id).length
  | [], i, _ => by simp
  | x :: l, 0, h => by simp at h; subst h; rfl
  | x :: l, i + 1, h => by
    have := filter_set_same l i (by simpa using h)
    simp only [List.set_cons_succ]
    cases x <;> simp_all
theorem LS.Ok.epoch {had : List Int} (o : L.Ok had) (v : Int) : ({ L with epoch := v } : LS).Ok had := ⟨o.nd, o.has, o.root⟩
theorem ring_round (hr : Rel N f α L) (h : RI L e B) (hB : B < 1000000) (hN : N ≤ 1000) (he : 0 ≤ e) (he2 : e < 1000000) :
    L.take.1 ≠ 0 ∧ L.take.2.Ok [L.take.1] ∧ L.take.2.ring.length < N ∧ (∃ s, L.take.2.has s L.take.1 ∧ (L.round e).live.getD (s - 1) true = false) ∧ RI (L.round e) (e + 2) (B + 4 + e) := by
  cases hf : L.free with
  | nil => exact absurd hf h.free
  | cons s l =>
    obtain ⟨h0, ho⟩ := LS.Ok.take h.ok hr (h.sm.small (by omega)) hN hf
    obtain ⟨s1, s2, slv⟩ := hr.fr s (by rw [hf]; simp)
    have hb := getD_small (i := s - 1) (h.sm.small (by omega)).1
    have hl := hr.ll
    have et : L.take = (L.gen.getD (s - 1) 0 * 65536 + 65536 + s, { L with free := l, gen := L.gen.set (s - 1) (L.gen.getD (s - 1) 0 + 1), live := L.live.set (s - 1) true }) := by unfold LS.take; rw [hf]
    have hm : (L.take.1 % 65536).toNat = s := by rw [et]; simp only; omega
    have hlr : (L.round e).live = (L.live.set (s - 1) true).set (s - 1) false := by
      unfold LS.round LS.pop LS.give LS.retire
      simp only
      rw [hm, et]
    have hfr : (L.round e).free = s :: l := by
      unfold LS.round LS.pop LS.give LS.retire
      simp only
      rw [hm, et]
    obtain ⟨n1, f1, α1, -, -, hr1⟩ := hr.take (h.sm.small (by omega)) hN
    have hs1 := h.sm.take
    have hri : L.take.2.ring = [] := by rw [et]; exact h.ring
    obtain ⟨f2, -, hr2⟩ := hr1.retire (hs1.small (by omega)) (by omega) hN L.take.1 e (by rw [hri]; simp; omega)
    have ho2 : (L.take.2.retire L.take.1 e).Ok [] := LS.Ok.retire ho e
    have hs2 : ({ L.take.2.retire L.take.1 e with epoch := e + 2 } : LS).Sm (B + 4 + e) := by
      have := hs1.retire L.take.1 e
      exact ⟨fun g hg => by have := this.1 g hg; omega, by have := this.2.1; simp only; omega, by simp only; omega, by simp only; have := h.epoch; have := h.sm.2.2.2; have := h.sm.2.2.1; omega⟩
    obtain ⟨f3, -, hr3⟩ := hr2.epoch (e + 2)
    have hrg : ({ L.take.2.retire L.take.1 e with epoch := e + 2 } : LS).ring = (L.take.1, e) :: [] := by simp only [LS.retire]; rw [hri]; rfl
    have ho3 := (ho2.epoch (e + 2)).pop hrg
    have ho4 := LS.Ok.give ho3 (hr3.out (by omega) hrg) (hs2.small (by omega)) hN
    refine ⟨h0, ho, by rw [hri]; simp; omega, ⟨s, ?_, ?_⟩, ?_, ?_, ?_, ho4, hs2, ?_⟩
    · rw [et]
      have hg := hr.gl
      refine ⟨s1, by simp; omega, ?_, ?_⟩
      · simp only
        rw [getD_set_eq (by omega)]
      · simp only
        rw [getD_set_eq (by omega)]
        omega
    · rw [hlr, getD_set_eq (by simp; omega)]
    · rfl
    · rw [hfr]; simp
    · rfl
    · unfold LS.count
      rw [hlr, filter_set_same _ _ slv]
      exact h.one
end
section
variable {w : World} {lb m c a b N : Nat} {L : LS}
theorem LandOf.wrong (h : LandOf w lb m c a b N L) (hs : Small L) (hN : N ≤ 1000) {s : Nat} {hd g : Int} (h1 : 1 ≤ s) (h2 : s ≤ N) (h3 : hd = g * 65536 + s) (hg : 0 ≤ g ∧ g < 100000000000) (hlv : L.live.getD (s - 1) true = false) :
    Calls Try.prog 40 #[.pointer (some ⟨a, 0, none⟩), .int .i64 hd] w fun e w' => e = .returned (.bool false) ∧ w = w' := by
  obtain ⟨σ, f, α, p1, p2, p3⟩ := h.land
  have e : σ.ar = α := p2.2
  have hl := p3.ll
  have hsl : slotOf hd = s := by unfold slotOf; rw [if_neg (by omega)]; omega
  have hr : α.right hd = false := by
    unfold ArS.right
    rw [hsl, p3.at_ h1 h2]
    have : L.live.getD (s - 1) false = false := by
      rw [List.getD_eq_getElem?_getD, List.getElem?_eq_getElem (show s - 1 < L.live.length by omega)] at hlv ⊢
      simpa using hlv
    rw [this]
    simp
  refine (arena_right a b σ.ar hd w p1.ar (by omega)).mono ?_
  rintro e' w' ⟨rfl, h5⟩
  rw [e, hr]
  exact ⟨rfl, h5⟩
theorem LandOf.double (h : LandOf w lb m c a b N L) : Calls Try.prog 41 #[.pointer (some ⟨a, 0, none⟩)] w fun e w' => e = .returned (.bool false) ∧ w = w' := by
  obtain ⟨σ, f, α, p1, p2, p3⟩ := h.land
  have e : σ.ar = α := p2.2
  refine (arena_double a b σ.ar w p1.ar).mono ?_
  rintro e' w' ⟨rfl, h5⟩
  rw [e, p3.clean.2]
  exact ⟨rfl, h5⟩
theorem LandOf.live (h : LandOf w lb m c a b N L) : Calls Try.prog 42 #[.pointer (some ⟨a, 0, none⟩)] w fun e w' => (∃ A c, e = .returned (.slice A L.count c)) ∧ Below w.heap.size w w' := by
  obtain ⟨σ, f, α, p1, p2, p3⟩ := h.land
  have e : σ.ar = α := p2.2
  refine (arena_live a b σ.ar w p1.ar).mono ?_
  rintro e' w' ⟨⟨A, c', rfl⟩, h5⟩
  rw [e, p3.slots, liveN_zip _ _ (by rw [p3.gl, p3.ll])]
  exact ⟨⟨A, c', rfl⟩, h5⟩
end
theorem LandOf.lens {w : World} {lb m c a b N : Nat} {L : LS} (h : LandOf w lb m c a b N L) : L.gen.length = N := by obtain ⟨_, _, _, _, _, h3⟩ := h.land; exact h3.gl
theorem quiet_own19 {P : Program} {f : FuncId} {args : Array Value} {w : World} {n : Nat} {v : Value}
    (h : Calls P f args (w.drewN n) fun e w' => e = .returned v ∧ w.drewN n = w') : Calls P f args (w.drewN n) fun e w'' => e = .returned v ∧ ∃ m, w'' = w.drewN m :=
  h.mono fun _ _ ⟨he, hm⟩ => ⟨he, n, hm.symm⟩
theorem MemIs.look {μ : MemS} {len : Nat} {f : Nat → Int} (h : MemIs μ len f) {i n : Nat} (hi : i + n ≤ len) : (μ.look (i : Int) (n : Int)).length = n ∧ ∀ k, k < n → (μ.look (i : Int) (n : Int)).getD k 0 = f (i + k) := by
  have hl := h.1
  refine ⟨by simp [MemS.look]; omega, fun k hk => ?_⟩
  rw [← h.2 (i + k) (by omega)]
  simp only [MemS.look, Int.toNat_natCast, List.getD_eq_getElem?_getD]
  rw [List.getElem?_take_of_lt hk, List.getElem?_drop]
end Go.Proofs.Ytldccemgfjmcdaa
