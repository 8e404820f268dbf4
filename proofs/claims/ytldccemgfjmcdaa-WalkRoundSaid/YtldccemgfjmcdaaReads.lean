/- What reading tasks tell, plainly: of the words that stand in slots. -/
import Derived.Test.YtldccemgfjmcdaaSlots16
namespace Go.Proofs.Ytldccemgfjmcdaa
open Go.RowKit
set_option linter.unusedSimpArgs false
set_option linter.unusedVariables false

/-- The same words in the same slots. -/
structure Same (σ σ' : LandS) : Prop where
  cells : σ'.mu.cells = σ.mu.cells
  first : σ'.ar.first = σ.ar.first
  slots : σ'.ar.slots = σ.ar.slots
theorem Same.refl (σ : LandS) : Same σ σ := ⟨rfl, rfl, rfl⟩
theorem Same.trans {σ σ1 σ2 : LandS} (h : Same σ σ1) (k : Same σ1 σ2) : Same σ σ2 := ⟨k.cells.trans h.cells, k.first.trans h.first, k.slots.trans h.slots⟩
def LandS.word (σ : LandS) (hd word : Int) : Int := (σ.mu.load (σ.ar.cell hd word)).1
def LandS.there (σ : LandS) (hd word : Int) : Bool := σ.mu.has (σ.ar.cell hd word)
section
variable {σ σ' : LandS} {hd wd : Int}
theorem Same.cell (h : Same σ σ') : σ'.ar.cell hd wd = σ.ar.cell hd wd := by unfold ArS.cell ArS.has; rw [h.first, h.slots]
theorem Same.there (h : Same σ σ') : σ'.there hd wd = σ.there hd wd := by unfold LandS.there MemS.has; rw [h.cell, h.cells]
theorem Same.word (h : Same σ σ') : σ'.word hd wd = σ.word hd wd := by
  have e := h.there (hd := hd) (wd := wd)
  unfold LandS.there at e
  unfold LandS.word MemS.load
  rw [e]
  rw [h.cell]
  split
  · unfold MemS.get; rw [h.cells]
  · rfl
theorem Same.right (h : Same σ σ') : σ'.ar.right hd = σ.ar.right hd := by unfold ArS.right ArS.handle ArS.has ArS.at_; rw [h.slots]
end
/-- A task that only reads: it answers v, by n accesses, of c cells that are there; st: a handle was touched that isn't right. -/
def Tells {β : Type} (σ : LandS) (r : Res LandS β) (v : β) (n c : Nat) (st : Bool) : Prop :=
  ∀ σ1, Same σ σ1 → 0 ≤ σ1.mu.count → σ1.mu.count + c ≤ 4611686018427387904 → ∃ σ2, r.eval σ1 = (v, σ2, n) ∧ Same σ σ2 ∧ σ2.mu.count = σ1.mu.count + c ∧ σ2.ar.stale = (σ1.ar.stale || st) ∧ σ2.ar.double = σ1.ar.double
theorem Tells.ret {β : Type} (σ : LandS) (v : β) : Tells σ (.ret v) v 0 0 false := fun σ1 h _ _ => ⟨σ1, rfl, h, by simp, by simp, rfl⟩
theorem Tells.bind {β γ : Type} {σ : LandS} {r : Res LandS β} {f : β → Res LandS γ} {v : β} {u : γ} {n c n' c' : Nat} {st st' : Bool} (h : Tells σ r v n c st) (k : Tells σ (f v) u n' c' st') : Tells σ (r.bind f) u (n + n') (c + c') (st || st') := by
  intro σ1 h1 h0 hc
  obtain ⟨σ2, e, h2, hc2, hs2, hd2⟩ := h σ1 h1 h0 (by omega)
  obtain ⟨σ3, e3, h3, hc3, hs3, hd3⟩ := k σ2 h2 (by omega) (by omega)
  refine ⟨σ3, ?_, h3, by omega, by rw [hs3, hs2, Bool.or_assoc], hd3.trans hd2⟩
  rw [Res.bind_eval, e, e3]
theorem Tells.eq {β : Type} {σ : LandS} {r : Res LandS β} {v v' : β} {n c n' c' : Nat} {st st' : Bool} (h : Tells σ r v n c st) (e1 : v = v') (e2 : n = n') (e3 : c = c') (e4 : st = st') : Tells σ r v' n' c' st' := e1 ▸ e2 ▸ e3 ▸ e4 ▸ h
theorem Tells.read (σ : LandS) (hd word : Int) : Tells σ (readR hd word) (σ.word hd word) 1 (bif σ.there hd word then 1 else 0) (!σ.ar.right hd) := by
  intro σ1 h1 h0 hc
  refine ⟨⟨(σ1.mu.load (σ1.ar.cell hd word)).2.2, σ1.ar.touch hd⟩, ?_, ?_, ?_, ?_, ?_⟩
  · simp only [readR, Res.eval, dRead]
    rw [← h1.word]
    rfl
  · refine h1.trans ⟨?_, ?_, ?_⟩
    · unfold MemS.load; split <;> rfl
    · unfold ArS.touch; split <;> rfl
    · unfold ArS.touch; split <;> rfl
  · have e := h1.there (hd := hd) (wd := word)
    rw [← e] at hc ⊢
    unfold LandS.there at e hc ⊢
    unfold MemS.load
    cases hh : σ1.mu.has (σ1.ar.cell hd word) with
    | true =>
      rw [hh] at hc
      simp only [cond_true] at hc ⊢
      simp only [MemS.tick, if_true]
      unfold wrap64
      omega
    | false => simp
  · rw [← h1.right]
    unfold ArS.touch
    cases hr : σ1.ar.right hd <;> simp
  · unfold ArS.touch; split <;> rfl

/-! ### A node, an area, of a slot's words -/
/-- A slot whose words all are there. -/
def HasSlot (σ : LandS) (hd : Int) (x : List Int) : Prop := x.length = 28 ∧ (∀ k : Nat, k < 28 → σ.there hd (k : Int) = true ∧ σ.word hd (k : Int) = x.getD k 0)
theorem HasSlot.read {σ : LandS} {hd : Int} {x : List Int} (h : HasSlot σ hd x) {k : Nat} (hk : k < 28) : Tells σ (readR hd (k : Int)) (x.getD k 0) 1 1 (!σ.ar.right hd) :=
  (Tells.read σ hd k).eq (h.2 k hk).2 rfl (by rw [(h.2 k hk).1]; rfl) rfl
def lookGo (x : List Int) (addr : Int) (inner : Bool) (i : Nat) : Nat → Int × Bool × Bool × Nat
  | 0 => (0, false, false, 0)
  | k + 1 => if x.getD (2 + i) 0 ≤ addr then ((lookGo x addr inner (i + 1) k).1, (lookGo x addr inner (i + 1) k).2.1, (lookGo x addr inner (i + 1) k).2.2.1, (lookGo x addr inner (i + 1) k).2.2.2 + 1) else (x.getD (10 + i) 0, inner, true, 2)
/-- The entry of an address: its handle, whether the node is an inner one, whether there is one, how many accesses. -/
def lookP (x : List Int) (addr : Int) : Int × Bool × Bool × Nat :=
  let b := headOf (x.getD 0 0)
  ((lookGo x addr b.1 0 b.2).1, (lookGo x addr b.1 0 b.2).2.1, (lookGo x addr b.1 0 b.2).2.2.1, (lookGo x addr b.1 0 b.2).2.2.2 + 1)
theorem or_same (b : Bool) : (b || b) = b := by cases b <;> rfl
theorem Tells.lookFrom {σ : LandS} {hd : Int} {x : List Int} (h : HasSlot σ hd x) (addr : Int) (inner : Bool) : ∀ k i, i + k ≤ 8 → ∃ st, (st = false ∨ st = !σ.ar.right hd) ∧
    Tells σ (lookFrom hd addr inner i k) ((lookGo x addr inner i k).1, (lookGo x addr inner i k).2.1, (lookGo x addr inner i k).2.2.1) (lookGo x addr inner i k).2.2.2 (lookGo x addr inner i k).2.2.2 st
  | 0, i, _ => ⟨false, .inl rfl, Tells.ret σ _⟩
  | k + 1, i, hk => by
    have h1 := h.read (k := 2 + i) (by omega)
    rw [show ((2 + i : Nat) : Int) = 2 + (i : Int) by omega] at h1
    by_cases hle : x.getD (2 + i) 0 ≤ addr
    · obtain ⟨st, hst, h2⟩ := Tells.lookFrom h addr inner k (i + 1) (by omega)
      refine ⟨(!σ.ar.right hd) || st, .inr (by rcases hst with rfl | rfl <;> simp), ?_⟩
      refine (h1.bind (f := fun e => if e ≤ addr then Go.Proofs.Ytldccemgfjmcdaa.lookFrom hd addr inner (i + 1) k else _) (by rw [if_pos hle]; exact h2)).eq ?_ ?_ ?_ rfl
      · simp only [lookGo]; rw [if_pos hle]
      · simp only [lookGo]; rw [if_pos hle]; simp only; omega
      · simp only [lookGo]; rw [if_pos hle]; simp only; omega
    · have h3 := h.read (k := 10 + i) (by omega)
      rw [show ((10 + i : Nat) : Int) = 10 + (i : Int) by omega] at h3
      refine ⟨(!σ.ar.right hd) || ((!σ.ar.right hd) || false), .inr (by simp), ?_⟩
      refine (h1.bind (f := fun e => if e ≤ addr then _ else (readR hd (10 + (i : Int))).bind fun v => .ret (v, inner, true)) (by rw [if_neg hle]; exact h3.bind (Tells.ret σ _))).eq ?_ ?_ ?_ rfl
      · simp only [lookGo]; rw [if_neg hle]
      · simp only [lookGo]; rw [if_neg hle]
      · simp only [lookGo]; rw [if_neg hle]
theorem Tells.look {σ : LandS} {hd : Int} {x : List Int} (h : HasSlot σ hd x) (addr : Int) : ∃ st, (st = false ∨ st = !σ.ar.right hd) ∧ Tells σ (lookR hd addr) ((lookP x addr).1, (lookP x addr).2.1, (lookP x addr).2.2.1) (lookP x addr).2.2.2 (lookP x addr).2.2.2 st := by
  have h0 := h.read (k := 0) (by omega)
  obtain ⟨st, hst, h2⟩ := Tells.lookFrom h addr (headOf (x.getD 0 0)).1 (headOf (x.getD 0 0)).2 0 (by have := headOf_le (x.getD 0 0); omega)
  refine ⟨((!σ.ar.right hd) || false) || st, .inr (by rcases hst with rfl | rfl <;> simp), ?_⟩
  exact ((h0.bind (f := fun v => Res.ret (headOf v)) (Tells.ret σ _)).bind h2).eq rfl (by simp only [lookP]; omega) (by simp only [lookP]; omega) rfl
theorem lookGo_le (x : List Int) (addr : Int) (inner : Bool) : ∀ k i, (lookGo x addr inner i k).2.2.2 ≤ k + 1
  | 0, _ => by simp [lookGo]
  | k + 1, i => by
    have := lookGo_le x addr inner k (i + 1)
    simp only [lookGo]
    split <;> simp only <;> omega
theorem lookP_le (x : List Int) (addr : Int) : (lookP x addr).2.2.2 ≤ 10 := by
  have h1 := headOf_le (x.getD 0 0)
  have h2 := lookGo_le x addr (headOf (x.getD 0 0)).1 (headOf (x.getD 0 0)).2 0
  simp only [lookP]
  omega

theorem Tells.words {σ : LandS} {hd : Int} {x : List Int} (h : HasSlot σ hd x) : ∀ k i acc, i + k ≤ 28 → ∃ st, (st = false ∨ st = !σ.ar.right hd) ∧ Tells σ (wordsR hd i k acc) (acc ++ (x.drop i).take k) k k st
  | 0, i, acc, _ => ⟨false, .inl rfl, (Tells.ret σ acc).eq (by simp) rfl rfl rfl⟩
  | k + 1, i, acc, hk => by
    have h1 := h.read (k := i) (by omega)
    obtain ⟨st, hst, h2⟩ := Tells.words h k (i + 1) (acc ++ [x.getD i 0]) (by omega)
    refine ⟨(!σ.ar.right hd) || st, .inr (by rcases hst with rfl | rfl <;> simp), (h1.bind h2).eq ?_ (by omega) (by omega) rfl⟩
    have hl : i < x.length := by have := h.1; omega
    rw [List.append_assoc, List.drop_eq_getElem_cons hl, List.take_succ_cons]
    simp [List.getD, hl]
theorem Tells.area {σ : LandS} {hd : Int} {x : List Int} (h : HasSlot σ hd x) : ∃ st, (st = false ∨ st = !σ.ar.right hd) ∧ Tells σ (areaR hd) (areaAns (x.take 8)) 8 8 st := by
  obtain ⟨st, hst, h2⟩ := Tells.words h 8 0 [] (by omega)
  refine ⟨st || false, by rcases hst with rfl | rfl <;> simp, ?_⟩
  exact (h2.bind (f := fun ws => Res.ret (areaAns ws)) (Tells.ret σ _)).eq (by simp) rfl rfl rfl
/-- A node, of a slot's words, and how many accesses. -/
def nodeP (x : List Int) : Option NodeV × Nat :=
  let b := headOf (x.getD 0 0)
  if b.2 = 0 then (none, 1) else (nodeAns b.1 (x.getD 1 0) ((x.drop 2).take b.2, (x.drop 10).take b.2, (x.drop 18).take b.2), 2 + 3 * b.2)
theorem Tells.entries {σ : LandS} {hd : Int} {x : List Int} (h : HasSlot σ hd x) : ∀ k i es hs gs, i + k ≤ 8 → ∃ st, (st = false ∨ st = !σ.ar.right hd) ∧
    Tells σ (entriesR hd i k es hs gs) (es ++ (x.drop (2 + i)).take k, hs ++ (x.drop (10 + i)).take k, gs ++ (x.drop (18 + i)).take k) (3 * k) (3 * k) st
  | 0, i, es, hs, gs, _ => ⟨false, .inl rfl, (Tells.ret σ _).eq (by simp) rfl rfl rfl⟩
  | k + 1, i, es, hs, gs, hk => by
    have hx := h.1
    have h1 := h.read (k := 2 + i) (by omega)
    have h2 := h.read (k := 10 + i) (by omega)
    have h3 := h.read (k := 18 + i) (by omega)
    rw [show ((2 + i : Nat) : Int) = 2 + (i : Int) by omega] at h1
    rw [show ((10 + i : Nat) : Int) = 10 + (i : Int) by omega] at h2
    rw [show ((18 + i : Nat) : Int) = 18 + (i : Int) by omega] at h3
    obtain ⟨st, hst, h4⟩ := Tells.entries h k (i + 1) (es ++ [x.getD (2 + i) 0]) (hs ++ [x.getD (10 + i) 0]) (gs ++ [x.getD (18 + i) 0]) (by omega)
    refine ⟨(!σ.ar.right hd) || ((!σ.ar.right hd) || ((!σ.ar.right hd) || st)), .inr (by rcases hst with rfl | rfl <;> simp), (h1.bind (h2.bind (h3.bind h4))).eq ?_ (by omega) (by omega) rfl⟩
    have e : ∀ (l : List Int) (j : Nat), j < x.length → l ++ [x.getD j 0] ++ (x.drop (j + 1)).take k = l ++ (x.drop j).take (k + 1) := by
      intro l j hj
      rw [List.append_assoc, List.drop_eq_getElem_cons hj, List.take_succ_cons]
      simp [List.getD, hj]
    rw [← e es (2 + i) (by omega), ← e hs (10 + i) (by omega), ← e gs (18 + i) (by omega)]
    rfl
theorem Tells.node {σ : LandS} {hd : Int} {x : List Int} (h : HasSlot σ hd x) : ∃ st, (st = false ∨ st = !σ.ar.right hd) ∧ Tells σ (nodeR hd) (nodeP x).1 (nodeP x).2 (nodeP x).2 st := by
  have h0 := (h.read (k := 0) (by omega)).bind (f := fun v => Res.ret (headOf v)) (Tells.ret σ _)
  by_cases hb : (headOf (x.getD 0 0)).2 = 0
  · refine ⟨((!σ.ar.right hd) || false) || false, .inr (by simp), (h0.bind (f := fun (b : Bool × Nat) => if b.2 = 0 then (Res.ret none : Res LandS (Option NodeV)) else (readR hd 1).bind fun lo => (entriesR hd 0 b.2 [] [] []).bind fun q => .ret (nodeAns b.1 lo q)) (by show Tells σ (if (headOf (x.getD 0 0)).2 = 0 then _ else _) _ _ _ _; rw [if_pos hb]; exact Tells.ret σ _)).eq ?_ ?_ ?_ rfl⟩
    · simp only [nodeP]; rw [if_pos hb]
    · simp only [nodeP]; rw [if_pos hb]
    · simp only [nodeP]; rw [if_pos hb]
  · have h1 := h.read (k := 1) (by omega)
    obtain ⟨st, hst, h2⟩ := Tells.entries h (headOf (x.getD 0 0)).2 0 [] [] [] (by have := headOf_le (x.getD 0 0); omega)
    refine ⟨((!σ.ar.right hd) || false) || ((!σ.ar.right hd) || (st || false)), .inr (by rcases hst with rfl | rfl <;> simp),
      (h0.bind (f := fun (b : Bool × Nat) => if b.2 = 0 then (Res.ret none : Res LandS (Option NodeV)) else (readR hd 1).bind fun lo => (entriesR hd 0 b.2 [] [] []).bind fun q => .ret (nodeAns b.1 lo q)) (by show Tells σ (if (headOf (x.getD 0 0)).2 = 0 then _ else _) _ _ _ _; rw [if_neg hb]; exact h1.bind (h2.bind (Tells.ret σ _)))).eq ?_ ?_ ?_ rfl⟩
    · simp only [nodeP]; rw [if_neg hb]; simp
    · simp only [nodeP]; rw [if_neg hb]; simp only; omega
    · simp only [nodeP]; rw [if_neg hb]; simp only; omega
theorem nodeP_le (x : List Int) : (nodeP x).2 ≤ 26 := by
  have h1 := headOf_le (x.getD 0 0)
  simp only [nodeP]
  split <;> simp only <;> omega
end Go.Proofs.Ytldccemgfjmcdaa
