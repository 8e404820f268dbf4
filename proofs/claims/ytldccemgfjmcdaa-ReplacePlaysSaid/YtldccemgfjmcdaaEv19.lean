/- Tasks on a land, plainly: what they come to, by the cells one by one. -/
import Derived.Test.YtldccemgfjmcdaaNew19
namespace Go.Proofs.Ytldccemgfjmcdaa
open Go.RowKit
set_option linter.unusedSimpArgs false
set_option linter.unusedVariables false

/-- A land's cells and its arena. -/
def LIs (σ : LandS) (len : Nat) (f : Nat → Int) (α : ArS) : Prop := MemIs σ.mu len f ∧ σ.ar = α
/-- From such a land the task answers v, by so many accesses, and leaves such a one. -/
def Ev {β : Type} (len : Nat) (f : Nat → Int) (α : ArS) (r : Res LandS β) (v : β) (n : Nat) (f' : Nat → Int) (α' : ArS) : Prop :=
  ∀ σ, LIs σ len f α → ∃ σ', r.eval σ = (v, σ', n) ∧ LIs σ' len f' α'
section
variable {β γ : Type} {len : Nat} {f f' f'' g : Nat → Int} {α α' α'' : ArS}
theorem Ev.ret (v : β) : Ev len f α (.ret v) v 0 f α := fun σ h => ⟨σ, rfl, h⟩
theorem Ev.bind {r : Res LandS β} {k : β → Res LandS γ} {v : β} {u : γ} {n m : Nat} (h : Ev len f α r v n f' α') (h2 : Ev len f' α' (k v) u m f'' α'') : Ev len f α (r.bind k) u (n + m) f'' α'' := by
  intro σ hs
  obtain ⟨σ1, e1, h1⟩ := h σ hs
  obtain ⟨σ2, e2, h3⟩ := h2 σ1 h1
  refine ⟨σ2, ?_, h3⟩
  rw [Res.bind_eval, e1, e2]
theorem Ev.eq {r : Res LandS β} {v v' : β} {n n' : Nat} (h : Ev len f α r v n f' α') (e1 : v = v') (e2 : n = n') : Ev len f α r v' n' f' α' := e1 ▸ e2 ▸ h
theorem LIs.ext {σ : LandS} (h : LIs σ len f α) (e : ∀ k, k < len → f k = g k) : LIs σ len g α := ⟨h.1.ext e, h.2⟩
theorem Ev.post {r : Res LandS β} {v : β} {n : Nat} (h : Ev len f α r v n f' α') (e : ∀ k, k < len → f' k = g k) : Ev len f α r v n g α' := by
  intro σ hs
  obtain ⟨σ1, e1, h1⟩ := h σ hs
  exact ⟨σ1, e1, h1.ext e⟩
theorem Ev.pre {r : Res LandS β} {v : β} {n : Nat} (h : Ev len g α r v n f' α') (e : ∀ k, k < len → f k = g k) : Ev len f α r v n f' α' := fun σ hs => h σ (hs.ext e)
theorem Ev.ld {i : Nat} (hi : i < len) : Ev len f α (ldR (i : Int)) (f i) 1 f α := by
  intro σ ⟨h1, h2⟩
  obtain ⟨e, h3⟩ := h1.load hi
  refine ⟨⟨(σ.mu.load (i : Int)).2.2, σ.ar⟩, ?_, h3, h2⟩
  simp only [ldR, Res.eval, liftD, dLoad]
  rw [e]
theorem Ev.cld {hd wd : Int} {i : Nat} (hc : α.cell hd wd = (i : Int)) (hi : i < len) : Ev len f α (cldR hd wd) (f i) 1 f α := by
  intro σ ⟨h1, h2⟩
  obtain ⟨e, h3⟩ := h1.load hi
  refine ⟨⟨(σ.mu.load (i : Int)).2.2, σ.ar⟩, ?_, h3, h2⟩
  simp only [cldR, Res.eval, liftD, dLoad]
  rw [h2, hc, e]
theorem Ev.st {i : Nat} (hi : i < len) (v : Int) : Ev len f α (stR (i : Int) v) () 1 (upd1 f i v) α := by
  intro σ ⟨h1, h2⟩
  exact ⟨⟨(σ.mu.store (i : Int) v).2, σ.ar⟩, rfl, h1.store hi v, h2⟩
theorem Ev.cst {hd wd : Int} {i : Nat} (hc : α.cell hd wd = (i : Int)) (hi : i < len) (v : Int) : Ev len f α (cstR hd wd v) () 1 (upd1 f i v) α := by
  intro σ ⟨h1, h2⟩
  refine ⟨⟨(σ.mu.store (i : Int) v).2, σ.ar⟩, ?_, h1.store hi v, h2⟩
  simp only [cstR, Res.eval, liftD, dStore]
  rw [h2, hc]
theorem Ev.stTell {i : Nat} (hi : i < len) (v : Int) (t : ArS → ArS) : Ev len f α (stTellR (i : Int) v t) () 1 (upd1 f i v) (t α) := by
  intro σ ⟨h1, h2⟩
  exact ⟨⟨(σ.mu.store (i : Int) v).2, t σ.ar⟩, rfl, h1.store hi v, by rw [h2]⟩
theorem Ev.cstTell {hd wd : Int} {i : Nat} (hc : α.cell hd wd = (i : Int)) (hi : i < len) (v : Int) (t : ArS → ArS) : Ev len f α (cstTellR hd wd v t) () 1 (upd1 f i v) (t α) := by
  intro σ ⟨h1, h2⟩
  refine ⟨⟨(σ.mu.store (i : Int) v).2, t σ.ar⟩, ?_, h1.store hi v, by rw [h2]⟩
  simp only [cstTellR, Res.eval, tellD, dStore]
  rw [h2, hc]
end

/-! ### What is free, live, in the ring -/
structure LS where
  free : List Nat
  gen : List Int
  live : List Bool
  ring : List (Int × Int)
  out : Int
  put : Int
  epoch : Int
/-- The cell of a slot's word. -/
def cl (N s wd : Nat) : Nat := 24 + 2 * N + 28 * (s - 1) + wd
/-- The cells, and the arena, are such. -/
structure Rel (N : Nat) (f : Nat → Int) (α : ArS) (L : LS) : Prop where
  gl : L.gen.length = N
  ll : L.live.length = N
  first : α.first = 24 + 2 * (N : Int)
  slots : α.slots = L.gen.zip L.live
  clean : α.stale = false ∧ α.double = false
  head : f 21 = (L.free.headD 0 : Nat)
  chain : ∀ (i s : Nat), L.free[i]? = some s → f (cl N s 0) = (L.free.getD (i + 1) 0 : Nat)
  fr : ∀ s ∈ L.free, 1 ≤ s ∧ s ≤ N ∧ L.live.getD (s - 1) true = false
  nodup : L.free.Nodup
  gens : ∀ i, i < N → f (cl N (i + 1) 27) = L.gen.getD i 0
  ep : f 4 = L.epoch
  o : f 22 = L.out
  p : f 23 = L.put
  po : L.put = L.out + L.ring.length
  o0 : 0 ≤ L.out
  rl : L.ring.length ≤ N
  rg : ∀ (j : Nat) (e : Int × Int), L.ring[j]? = some e → f (24 + 2 * ((L.out + j) % N).toNat) = e.1 ∧ f (25 + 2 * ((L.out + j) % N).toNat) = e.2
def LS.new (N : Nat) : LS := ⟨(List.range (N - 1)).map (· + 2), 1 :: List.replicate (N - 1) 0, true :: List.replicate (N - 1) false, [], 0, 0, 0⟩
def LS.take (L : LS) : Int × LS := match L.free with
  | [] => (0, L)
  | s :: l => (L.gen.getD (s - 1) 0 * 65536 + 65536 + s, { L with free := l, gen := L.gen.set (s - 1) (L.gen.getD (s - 1) 0 + 1), live := L.live.set (s - 1) true })
def LS.give (L : LS) (h : Int) : LS := { L with free := (h % 65536).toNat :: L.free, live := L.live.set ((h % 65536).toNat - 1) false }
section
variable {N : Nat} {f : Nat → Int} {α : ArS} {L : LS}
theorem Rel.len (h : Rel N f α L) : α.slots.length = N := by rw [h.slots, List.length_zip, h.gl, h.ll, Nat.min_self]
theorem Rel.cell (h : Rel N f α L) {s wd : Nat} (h1 : 1 ≤ s) (h2 : s ≤ N) (hw : wd < 28) {hd : Int} (hs : slotOf hd = s) : α.cell hd (wd : Int) = (cl N s wd : Nat) := by
  unfold ArS.cell
  rw [hs, if_pos]
  · rw [h.first]; unfold cl; omega
  · simp only [ArS.has, Bool.and_eq_true, decide_eq_true_eq]
    rw [h.len]
    omega
theorem cl_lt {s wd : Nat} (h1 : 1 ≤ s) (h2 : s ≤ N) (hw : wd < 28) : cl N s wd < 24 + 30 * N ∧ 24 + 2 * N ≤ cl N s wd := by unfold cl; omega
theorem cl_ne {s t wd we : Nat} (h1 : 1 ≤ s) (h2 : 1 ≤ t) (hw : wd < 28) (he : we < 28) (hne : s ≠ t ∨ wd ≠ we) : cl N s wd ≠ cl N t we := by unfold cl; omega
theorem upd1_ne {f : Nat → Int} {i k : Nat} {v : Int} (h : k ≠ i) : upd1 f i v k = f k := by unfold upd1; rw [if_neg h]
theorem upd1_eq {f : Nat → Int} {i : Nat} {v : Int} : upd1 f i v i = v := by unfold upd1; rw [if_pos rfl]
theorem zip_set : ∀ (a : List Int) (b : List Bool) (i : Nat) (x : Int) (y : Bool), (a.zip b).set i (x, y) = (a.set i x).zip (b.set i y)
  | [], _, _, _, _ => by simp
  | _ :: _, [], i, _, _ => by cases i <;> simp
  | p :: a, q :: b, 0, x, y => by simp
  | p :: a, q :: b, i + 1, x, y => by simp [zip_set a b i x y]
theorem Rel.at_ (h : Rel N f α L) {s : Nat} (h1 : 1 ≤ s) (h2 : s ≤ N) : α.at_ (s : Int) = (L.gen.getD (s - 1) 0, L.live.getD (s - 1) false) := by
  obtain ⟨q, rfl⟩ : ∃ q, s = q + 1 := ⟨s - 1, by omega⟩
  have hg := h.gl
  have hl := h.ll
  rw [show ((q + 1 : Nat) : Int) = (q : Int) + 1 by omega, ArS.at_succ, h.slots, Nat.add_sub_cancel]
  simp [List.getD_eq_getElem?_getD, List.getElem?_eq_getElem (show q < L.gen.length by omega), List.getElem?_eq_getElem (show q < L.live.length by omega), List.getElem?_zip_eq_some, List.getElem?_eq_getElem (show q < (L.gen.zip L.live).length by rw [List.length_zip]; omega)]
theorem Rel.has (h : Rel N f α L) {s : Nat} (h1 : 1 ≤ s) (h2 : s ≤ N) : α.has (s : Int) = true := by
  simp only [ArS.has, Bool.and_eq_true, decide_eq_true_eq]
  rw [h.len]
  omega
/-- Numbers that don't go round. -/
def Small (L : LS) : Prop := (∀ g ∈ L.gen, 0 ≤ g ∧ g < 100000000000) ∧ L.put < 100000000000 ∧ -100000000000 < L.epoch ∧ L.epoch < 100000000000
theorem getD_small {l : List Int} {i : Nat} (h : ∀ g ∈ l, 0 ≤ g ∧ g < 100000000000) : 0 ≤ l.getD i 0 ∧ l.getD i 0 < 100000000000 := by
  rw [List.getD_eq_getElem?_getD]
  by_cases hi : i < l.length
  · rw [List.getElem?_eq_getElem hi]
    exact h _ (List.getElem_mem hi)
  · rw [List.getElem?_eq_none (by omega)]
    simp
theorem slotOf_nat {s : Nat} (h : s < 65536) : slotOf (s : Int) = s := by unfold slotOf; rw [if_neg (by omega)]; omega
theorem Rel.born (h : Rel N f α L) (hs : Small L) {s : Nat} (h1 : 1 ≤ s) (h2 : s ≤ N) (hlv : L.live.getD (s - 1) true = false) :
    (α.born (s : Int)).2 = { α with slots := (L.gen.set (s - 1) (L.gen.getD (s - 1) 0 + 1)).zip (L.live.set (s - 1) true) } := by
  have hb := getD_small (i := s - 1) hs.1
  have hl := h.ll
  have hlv' : L.live.getD (s - 1) false = false := by
    rw [List.getD_eq_getElem?_getD, List.getElem?_eq_getElem (show s - 1 < L.live.length by omega)] at hlv ⊢
    simpa using hlv
  unfold ArS.born
  rw [if_pos (h.has h1 h2), h.at_ h1 h2, hlv']
  simp only [ArS.put, Bool.or_false]
  rw [h.slots, show ((s : Int) - 1).toNat = s - 1 by omega, zip_set, show wrap64 (L.gen.getD (s - 1) 0 + 1) = L.gen.getD (s - 1) 0 + 1 by unfold wrap64; omega]
theorem Rel.take (h : Rel N f α L) (hs : Small L) (hN : N ≤ 1000) : ∃ n f' α', (n ≤ 5 ∧ (L.free ≠ [] → n = 5)) ∧ Ev (24 + 30 * N) f α takeR L.take.1 n f' α' ∧ Rel N f' α' L.take.2 := by
  have hh := h.head
  cases hfr : L.free with
  | nil =>
    rw [hfr] at hh
    simp only [List.headD_nil] at hh
    refine ⟨1, f, α, ⟨by omega, fun hx => absurd rfl hx⟩, ?_, ?_⟩
    · have e1 : L.take.1 = 0 := by unfold LS.take; rw [hfr]
      rw [e1]
      refine ((Ev.ld (i := 21) (show 21 < 24 + 30 * N by omega)).bind (k := fun s => if s = 0 then .ret 0 else _) (u := 0) (m := 0) ?_).eq rfl rfl
      rw [if_pos (by rw [hh]; rfl)]
      exact Ev.ret _
    · have e2 : L.take.2 = L := by unfold LS.take; rw [hfr]
      rw [e2]
      exact h
  | cons s l =>
    obtain ⟨s1, s2, slv⟩ := h.fr s (by rw [hfr]; simp)
    have hnd : (s :: l).Nodup := hfr ▸ h.nodup
    obtain ⟨hsl, hnl⟩ := List.nodup_cons.1 hnd
    have hb := getD_small (i := s - 1) hs.1
    obtain ⟨g, hg⟩ : ∃ g, L.gen.getD (s - 1) 0 = g := ⟨_, rfl⟩
    rw [hg] at hb
    have hgc : f (cl N s 27) = g := by have := h.gens (s - 1) (by omega); rw [show s - 1 + 1 = s by omega] at this; rw [this, hg]
    have hhd : f 21 = (s : Int) := by rw [hh, hfr]; rfl
    have hc0 : α.cell (s : Int) 0 = (cl N s 0 : Nat) := h.cell (wd := 0) s1 s2 (by omega) (slotOf_nat (by omega))
    have hc27 : α.cell (s : Int) 27 = (cl N s 27 : Nat) := h.cell (wd := 27) s1 s2 (by omega) (slotOf_nat (by omega))
    have l0 := cl_lt (N := N) s1 s2 (show 0 < 28 by omega)
    have l27 := cl_lt (N := N) s1 s2 (show 27 < 28 by omega)
    have hw : wrap64 (g + 1) = g + 1 := by unfold wrap64; omega
    have hv : shlOr (wrap64 (g + 1)) (s : Int) = L.take.1 := by
      rw [hw, shlOr_small (by omega) (by omega)]
      unfold LS.take hand
      rw [hfr]
      simp only [hg]
      unfold wrap64
      omega
    have ht2 : L.take.2 = { L with free := l, gen := L.gen.set (s - 1) (g + 1), live := L.live.set (s - 1) true } := by
      unfold LS.take
      rw [hfr]
      simp only [hg]
    have hborn := h.born hs s1 s2 slv
    rw [hg] at hborn
    refine ⟨5, upd1 (upd1 f (cl N s 27) (g + 1)) 21 (f (cl N s 0)), (α.born (s : Int)).2, ⟨by omega, fun _ => rfl⟩, ?_, ?_⟩
    · rw [← hv]
      unfold takeR
      have e5 : Ev (24 + 30 * N) (upd1 f (cl N s 27) (wrap64 (g + 1))) α ((stTellR 21 (f (cl N s 0)) fun α => (α.born (slotOf (s : Int))).2).bind fun _ => Res.ret (shlOr (wrap64 (g + 1)) (s : Int))) (shlOr (wrap64 (g + 1)) (s : Int)) 1 (upd1 (upd1 f (cl N s 27) (wrap64 (g + 1))) 21 (f (cl N s 0))) (α.born (slotOf (s : Int))).2 :=
        (Ev.stTell (i := 21) (show 21 < 24 + 30 * N by omega) (f (cl N s 0)) fun α => (α.born (slotOf (s : Int))).2).bind (k := fun _ => Res.ret (shlOr (wrap64 (g + 1)) (s : Int))) (Ev.ret _)
      rw [slotOf_nat (show s < 65536 by omega)] at e5
      have e4 := (Ev.cst (f := f) hc27 l27.1 (wrap64 (g + 1))).bind (k := fun _ => (stTellR 21 (f (cl N s 0)) fun α => (α.born (slotOf (s : Int))).2).bind fun _ => Res.ret (shlOr (wrap64 (g + 1)) (s : Int))) (by rw [slotOf_nat (show s < 65536 by omega)]; exact e5)
      have e3 := (Ev.cld (f := f) hc27 l27.1).bind (k := fun g => (cstR (s : Int) 27 (wrap64 (g + 1))).bind fun _ => (stTellR 21 (f (cl N s 0)) fun α => (α.born (slotOf (s : Int))).2).bind fun _ => Res.ret (shlOr (wrap64 (g + 1)) (s : Int))) (by rw [hgc]; exact e4)
      have e2 := (Ev.cld (f := f) hc0 l0.1).bind (k := fun b => (cldR (s : Int) 27).bind fun g => (cstR (s : Int) 27 (wrap64 (g + 1))).bind fun _ => (stTellR 21 b fun α => (α.born (slotOf (s : Int))).2).bind fun _ => Res.ret (shlOr (wrap64 (g + 1)) (s : Int))) e3
      have e1 := (Ev.ld (f := f) (α := α) (i := 21) (len := 24 + 30 * N) (show 21 < 24 + 30 * N by omega)).bind (k := fun s => if s = 0 then .ret 0 else (cldR s 0).bind fun behind => (cldR s 27).bind fun g => (cstR s 27 (wrap64 (g + 1))).bind fun _ => (stTellR 21 behind fun α => (α.born (slotOf s)).2).bind fun _ => Res.ret (shlOr (wrap64 (g + 1)) s)) (by rw [hhd, if_neg (by omega)]; exact e2)
      rw [hw] at e1 ⊢
      exact e1
    · rw [ht2]
      have n0 : ∀ t, 1 ≤ t → cl N t 0 ≠ cl N s 27 := fun t ht => cl_ne ht s1 (by omega) (by omega) (.inr (by omega))
      have n21 : ∀ t wd, cl N t wd ≠ 21 := fun t wd => by unfold cl; omega
      have low : ∀ k, k < 24 + 2 * N → k ≠ 21 → upd1 (upd1 f (cl N s 27) (g + 1)) 21 (f (cl N s 0)) k = f k := fun k hk hn => by rw [upd1_ne hn, upd1_ne (by omega)]
      refine ⟨by simpa using h.gl, by simpa using h.ll, by rw [hborn]; exact h.first, by rw [hborn], by rw [hborn]; exact h.clean, ?_, ?_, ?_, hnl, ?_, ?_, ?_, ?_, h.po, h.o0, h.rl, ?_⟩
      · rw [upd1_eq, h.chain 0 s (by rw [hfr]; rfl), hfr]
        cases l <;> rfl
      · intro i u hu
        obtain ⟨u1, -, -⟩ := h.fr u (by rw [hfr]; exact List.mem_cons_of_mem _ (List.mem_of_getElem? hu))
        rw [upd1_ne (n21 _ _), upd1_ne (n0 u u1), h.chain (i + 1) u (by rw [hfr]; simpa using hu), hfr]
        rfl
      · intro u hu
        obtain ⟨u1, u2, u3⟩ := h.fr u (by rw [hfr]; exact List.mem_cons_of_mem _ hu)
        refine ⟨u1, u2, ?_⟩
        have hus : u ≠ s := fun e => hsl (e ▸ hu)
        simp only [List.getD_eq_getElem?_getD] at u3 ⊢
        rw [List.getElem?_set_ne (by omega)]
        exact u3
      · intro i hi
        have hgl := h.gl
        rw [upd1_ne (n21 _ _)]
        by_cases his : i + 1 = s
        · subst his
          rw [upd1_eq, Nat.add_sub_cancel]
          simp [List.getD_eq_getElem?_getD, show i < L.gen.length by omega]
        · rw [upd1_ne (cl_ne (by omega) s1 (by omega) (by omega) (.inl his)), h.gens i hi]
          simp only [List.getD_eq_getElem?_getD]
          rw [List.getElem?_set_ne (by omega)]
      · rw [low 4 (by omega) (by omega)]; exact h.ep
      · rw [low 22 (by omega) (by omega)]; exact h.o
      · rw [low 23 (by omega) (by omega)]; exact h.p
      · intro j e he
        have hN0 : 0 < N := by omega
        have := Int.emod_lt_of_pos (L.out + j) (show (0 : Int) < N by omega)
        have := Int.emod_nonneg (L.out + j) (show (N : Int) ≠ 0 by omega)
        obtain ⟨r1, r2⟩ := h.rg j e he
        rw [low (24 + 2 * ((L.out + j) % N).toNat) (by omega) (by omega), low (25 + 2 * ((L.out + j) % N).toNat) (by omega) (by omega)]
        exact ⟨r1, r2⟩
end
end Go.Proofs.Ytldccemgfjmcdaa
