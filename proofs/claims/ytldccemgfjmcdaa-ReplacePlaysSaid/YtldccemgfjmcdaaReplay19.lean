/- ReplacePlays. -/
import Derived.Test.YtldccemgfjmcdaaSame19
import Derived.Test.YtldccemgfjmcdaaRefR19
import Derived.Test.YtldccemgfjmcdaaHeld
import Derived.Deep.RegionHeld3
import Derived.Deep.Upon
namespace Go.Proofs.Ytldccemgfjmcdaa
open Go.RowKit
set_option linter.unusedSimpArgs false
set_option linter.unusedVariables false

/-! ### A region all of whose operations keep S -/
section
variable {P : Program} {ops : Array Oper} {Q : Exit → Act → World → Prop} {md : Region.Mode} {S : World → Prop}
theorem wpAnyH_takes {i d : Nat} {oi : Oper} {v : Value} {fuel : Nat} {listed : Array Bool} {T : Array Value} {D : List Deferred} {w : World} (hi : ops[i]? = some oi) (hd : oi.dst = some d)
    (hB : (Region.noSelect ops && Region.free md ops listed i && (Region.ready md ops listed).contains i) = true)
    (hQ : ∀ c a w, Q (.panic c) (a.put oi.dst v) w → Q (.panic c) a w) (hy : YieldsIf P ops S oi v ⟨T, D⟩) (hS : S w)
    (h : wpAnyH P md ops Q S fuel (listed.setIfInBounds i true) ⟨T.setIfInBounds d v, D⟩ w) : wpAnyH P md ops Q S (fuel + 1) listed ⟨T, D⟩ w := by
  simp only [Bool.and_eq_true] at hB
  obtain ⟨⟨hs, hf⟩, hr⟩ := hB
  refine wpAnyH_take hi hs hf hr hQ hy hS ?_
  rw [hd]
  exact h
theorem wpAnyH_one {i : Nat} {o : Oper} {fuel : Nat} {listed : Array Bool} {a : Act} {w : World} (hr : Region.ready md ops listed = [i]) (hi : ops[i]? = some o) (hw : Region.wanted o (yielded ops a.tmps) = true)
    (h : ∀ K : Act → World → Prop, Hid (∀ a' w', S w' → wpAnyH P md ops Q S fuel (listed.setIfInBounds i true) a' w' → K a' w') → o.wp P a w K Q) : wpAnyH P md ops Q S (fuel + 1) listed a w := by
  refine wpAnyH_all hr (by simp) fun j hj => ?_
  obtain rfl : j = i := by simpa using hj
  unfold wpOp
  simp only [hi, hw, if_true]
  exact .inl (h _ (Lib.hid fun a' w' h1 h2 => ⟨h1, h2⟩))
theorem wp_region_H {id : Nat} {a : Act} {w : World} (S : World → Prop) (n : Nat) (hn : ops.size = n) (hm : P.follows .mixedOrders = true) (h : wpAnyH P .any ops Q S n (Array.replicate n false) a w.drew) : (Code.region id ops true).wp P Q a w := by
  subst hn
  exact wp_region_held hm h
end
/-! ### Plainly -/
theorem has_slot {L : LS} {s : Nat} {h : Int} (hh : L.has s h) (hN : L.gen.length ≤ 1000) : (h % 65536).toNat = s := by
  obtain ⟨h1, h2, -, h4⟩ := hh
  omega
theorem ok_len {L : LS} {had : List Int} (o : L.Ok had) (hN : L.gen.length ≤ 1000) : L.ring.length + had.length ≤ L.gen.length - 1 := by
  have h1 := nodup_le (L.gen.length - 1) ((L.ring.map (·.1) ++ had).map fun h => (h % 65536).toNat - 1) (by
    refine (List.pairwise_map).2 (List.Pairwise.imp_of_mem ?_ o.nd)
    intro x y hx hy hne e
    obtain ⟨s, s2, hs⟩ := o.has x hx
    obtain ⟨t, t2, ht⟩ := o.has y hy
    rw [has_slot hs hN, has_slot ht hN] at e
    have : s = t := by omega
    subst this
    exact hne (LS.has_eq hs ht)) (by
    intro x hx
    obtain ⟨h, hm, rfl⟩ := List.mem_map.1 hx
    obtain ⟨s, s2, hs⟩ := o.has h hm
    have := hs.2.1
    rw [has_slot hs hN]
    omega)
  simpa using h1
/-- What holds between the calls. -/
structure PI (L : LS) (had : List Int) (e B : Int) : Prop where
  ok : L.Ok had
  sm : L.Sm B
  tag : ∀ x ∈ L.ring, 0 ≤ x.2 ∧ x.2 ≤ 100
  ep : L.epoch = e
section
variable {N : Nat} {f : Nat → Int} {α : ArS} {L : LS} {had : List Int} {e B : Int}
theorem PI.give_ok (h : PI L had e B) (hr : Rel N f α L) (hN : N ≤ 1000) (hB : B < 1000000000) {x : Int} (hx : x ∈ L.ring.map (·.1) ++ had) : giveOk L x := by
  obtain ⟨s, s2, hs⟩ := h.ok.has x hx
  have hgl := hr.gl
  have hll := hr.ll
  have hb := getD_small (i := s - 1) (h.sm.small (by omega)).1
  obtain ⟨h1, h2, -, h4⟩ := hs
  exact ⟨by omega, by omega, by omega, by omega⟩
theorem PI.recOk (h : PI L had e B) (hr : Rel N f α L) (hN : N ≤ 300) (hB : B < 1000000000) : RecOk L := by
  have hfl := nodup_le _ _ hr.nodup fun s hs => ⟨(hr.fr s hs).1, (hr.fr s hs).2.1⟩
  have hrl := hr.rl
  have hll := hr.ll
  have ho := hr.o0
  have hpo := hr.po
  have hp := h.sm.2.1
  refine ⟨fun x hx => ⟨h.give_ok hr (by omega) hB (List.mem_append.2 (.inl (List.mem_map.2 ⟨x, hx, rfl⟩))), ?_, ?_⟩, by omega, by omega, by omega, by omega⟩
  · have := (h.tag x hx).1; omega
  · have := (h.tag x hx).2; omega
theorem PI.res (h : PI L had e B) (hr : Rel N f α L) (hN : N ≤ 300) : ResOk B L := by
  have hfl := nodup_le _ _ hr.nodup fun s hs => ⟨(hr.fr s hs).1, (hr.fr s hs).2.1⟩
  have hrl := hr.rl
  have hll := hr.ll
  have hgl := hr.gl
  exact ⟨fun s hs => ⟨(hr.fr s hs).1, by rw [hgl]; exact (hr.fr s hs).2.1⟩, by omega, by omega, by omega, by omega, h.sm⟩
end
theorem PI.epoch' {L : LS} {had : List Int} {B : Int} (h : PI L had L.epoch B) (h0 : 0 ≤ L.epoch ∧ L.epoch ≤ 60) (hB : 1 ≤ B) : PI { L with epoch := L.epoch + 1 } had (L.epoch + 1) (B + 400) :=
  ⟨h.ok.epoch _, ⟨fun g hg => by have := h.sm.1 g hg; omega, by have := h.sm.2.1; simp only; omega, by simp only; omega, by have := h.sm.2.2.2; simp only; omega⟩, h.tag, rfl⟩
theorem PI.mono {L : LS} {had : List Int} {e B C : Int} (h : PI L had e B) (hB : B ≤ C) : PI L had e C := ⟨h.ok, h.sm.mono hB, h.tag, h.ep⟩
theorem PI.take' {N : Nat} {f : Nat → Int} {α : ArS} {L : LS} {had : List Int} {e B : Int} (h : PI L had e B) (hr : Rel N f α L) (hN : N ≤ 300) (hB : B < 1000000000) {s : Nat} {l : List Nat} (hf : L.free = s :: l) : PI L.take.2 (had ++ [L.take.1]) e (B + 400) ∧ 0 < L.take.1 := by
  have h1 := LS.Ok.take h.ok hr (h.sm.small (by omega)) (by omega) hf
  have hg := getD_small (i := s - 1) (h.sm.small (by omega)).1
  have hs := (hr.fr s (by rw [hf]; simp)).1
  have e2 := take_some hf
  have hr2 : L.take.2.ring = L.ring := by rw [e2]
  have he2 : L.take.2.epoch = L.epoch := by rw [e2]
  exact ⟨⟨h1.2.perm (List.perm_append_singleton _ _).symm, (h.sm.take).mono (by omega), by rw [hr2]; exact h.tag, by rw [he2]; exact h.ep⟩, by rw [e2]; simp only; omega⟩
theorem perm_out (l : List Int) {q : Nat} (h : q < l.length) : l.Perm (l.getD q 0 :: (l.take q ++ l.drop (q + 1))) := by
  have e : l = l.take q ++ l[q] :: l.drop (q + 1) := by rw [← List.drop_eq_getElem_cons h, List.take_append_drop]
  have e2 : l.getD q 0 = l[q] := by rw [List.getD_eq_getElem?_getD, List.getElem?_eq_getElem h]; rfl
  rw [e2]
  conv => { lhs; rw [e] }
  exact List.perm_middle
theorem PI.give' {N : Nat} {f : Nat → Int} {α : ArS} {L : LS} {had hd : List Int} {e B x : Int} (h : PI L had e B) (hp : had.Perm (x :: hd)) (hr : Rel N f α L) (hN : N ≤ 300) (hB : B < 1000000000) : PI (L.give x) hd e (B + 400) :=
  ⟨(h.ok.perm hp).give hr (h.sm.small (by omega)) (by omega), (h.sm.give x).mono (by omega), h.tag, h.ep⟩
theorem PI.retire' {L : LS} {had hd : List Int} {e B x : Int} (h : PI L had e B) (hp : had.Perm (x :: hd)) (he : 0 ≤ e ∧ e ≤ 100) : PI (L.retire x e) hd e (B + 400) :=
  ⟨(h.ok.perm hp).retire e, (h.sm.retire x e).mono (by omega), fun y hy => by
    rcases List.mem_append.1 hy with hy | hy
    · exact h.tag y hy
    · simp only [List.mem_singleton] at hy; subst hy; exact he, h.ep⟩
theorem reclaim_tag : ∀ (m k : Nat) (L : LS), (∀ x ∈ (LS.reclaimGo m k L).2.ring, x ∈ L.ring) ∧ (LS.reclaimGo m k L).2.epoch = L.epoch
  | 0, k, L => ⟨fun _ h => h, rfl⟩
  | m + 1, k, L => by
    cases hr : L.ring with
    | nil => rw [reclaim_stop (.inr (.inl hr))]; exact ⟨fun x h => by rw [hr] at h; exact h, rfl⟩
    | cons e l =>
      by_cases he : e.2 + 2 ≤ L.epoch
      · rw [reclaim_go hr he]
        obtain ⟨h1, h2⟩ := reclaim_tag m (k + 1) (L.pop e l)
        exact ⟨fun x hx => List.mem_cons_of_mem _ (h1 x hx), h2⟩
      · rw [reclaim_stop (.inr (.inr ⟨e, l, hr, he⟩))]; exact ⟨fun x h => by rw [hr] at h; exact h, rfl⟩
theorem PI.reclaim' {N : Nat} {f : Nat → Int} {α : ArS} {L : LS} {had : List Int} {e B : Int} (h : PI L had e B) (hr : Rel N f α L) (h1N : 1 ≤ N) (hN : N ≤ 300) (hB : B < 1000000000) (q : Nat) : PI (LS.reclaimGo q 0 L).2 had e (B + 400) := by
  obtain ⟨n, f', α', -, -, -, -, ho⟩ := Rel.reclaims h1N (by omega) q 0 f α L hr (h.sm.small (by omega)) h.ok
  obtain ⟨h1, h2⟩ := reclaim_tag q 0 L
  exact ⟨ho, (LS.Sm.reclaim q 0 L h.sm).mono (by omega), fun x hx => h.tag x (h1 x hx), by rw [h2]; exact h.ep⟩
theorem take_ring (L : LS) : L.take.2.ring = L.ring ∧ L.take.2.epoch = L.epoch := by
  unfold LS.take
  split <;> exact ⟨rfl, rfl⟩
theorem gives_ring : ∀ (l : List Int) (L : LS), (LS.gives l L).ring = L.ring ∧ (LS.gives l L).epoch = L.epoch
  | [], _ => ⟨rfl, rfl⟩
  | x :: l, L => gives_ring l (L.give x)
theorem reserve_ring : ∀ (k : Nat) (out : List Int) (L : LS), (LS.reserveGo k out L).2.ring = L.ring ∧ (LS.reserveGo k out L).2.epoch = L.epoch
  | 0, _, _ => ⟨rfl, rfl⟩
  | k + 1, out, L => by
    unfold LS.reserveGo
    split
    · exact gives_ring _ L
    · obtain ⟨h1, h2⟩ := reserve_ring k (out ++ [L.take.1]) L.take.2
      obtain ⟨h3, h4⟩ := take_ring L
      exact ⟨h1.trans h3, h2.trans h4⟩
theorem PI.reserve' {N : Nat} {f : Nat → Int} {α : ArS} {L : LS} {had : List Int} {e B : Int} (h : PI L had e B) (hr : Rel N f α L) (hN : N ≤ 300) (hB : B < 1000000000) {q : Nat} (hq : q ≤ 255) : PI (LS.reserveGo q [] L).2 (had ++ (LS.reserveGo q [] L).1.getD []) e (B + 400) := by
  obtain ⟨n, f', α', -, -, -, hs, ho⟩ := Rel.reserves (had := had) (by omega) q B (by omega) [] f α L hr h.sm h.ok
  obtain ⟨h1, h2⟩ := reserve_ring q [] L
  exact ⟨ho.perm List.perm_append_comm, hs.mono (by omega), fun x hx => h.tag x (h1 ▸ hx), by rw [h2]; exact h.ep⟩
theorem reserve_size {b : Int} {L : LS} (h : ResOk b L) (hb : b + L.free.length < 100000000000) (q : Nat) : (LS.reserveGo q [] L).1.isSome = decide (((LS.reserveGo q [] L).1.getD []).length = q) := by
  by_cases hq : q ≤ L.free.length
  · rw [reserve_some h hb hq]
    simp only [Option.isSome_some, Option.getD_some]
    exact (decide_eq_true (takes_ok h hb q hq).len).symm
  · rw [reserve_none h hb (by omega)]
    simp only [Option.isSome_none, Option.getD_none, List.length_nil]
    exact (decide_eq_false (by omega)).symm
theorem ints_own {w : World} {B n c : Nat} {A : Option Addr} {xs : List Int} (h : w.ownsRow B 2 1 (.slice A n c) n (i64s xs)) (hn : xs.length = n) (hw : ∀ x ∈ xs, WfI x) : Ints w A n c xs := by
  obtain ⟨h1, h2⟩ := own_cap h
  refine ⟨hn, h1, h2, hw, ?_⟩
  cases xs with
  | nil => exact .inl rfl
  | cons x l =>
    obtain ⟨g, hA, -, -⟩ := own_at h (j := 0) (u := .int .i64 x) rfl
    subst hA
    refine .inr ⟨g, 0, rfl, ownsRow_blockLt h g (by simp [blockOf]), fun j u hu => ?_⟩
    obtain ⟨g', hg, hc, -⟩ := own_at h hu
    injection hg with hg
    injection hg with hg
    subst hg
    simpa using hc
theorem own_none {w : World} {B z n c : Nat} {t : TypeId} {xs : List Value} (h : w.ownsRow B t z (.slice none n c) n xs) : n = 0 ∧ c = 0 := by
  rcases h.2 with ⟨hv, h0⟩ | ⟨g, cap, cur, hv, -⟩
  · injection hv with h1 h2 h3; exact ⟨h2, h3⟩
  · injection hv with h1; cases h1
theorem own_someG {w : World} {B z n c : Nat} {t : TypeId} {a : Addr} {xs : List Value} (h : w.ownsRow B t z (.slice (some a) n c) n xs) : ∃ g, a = ⟨g, 0, none⟩ := by
  rcases h.2 with ⟨hv, h0⟩ | ⟨g, cap, cur, hv, -⟩
  · cases hv
  · injection hv with h1; injection h1 with h1; exact ⟨g, h1⟩
/-- append of nil. -/
theorem wpList_append_none {P : Program} (w : World) {ops : Array Oper} {rest : List Oper} {o : Oper} {a : Act} {Q : Exit → Act → World → Prop} (hgd : o.guard = none) (s x : Operand) (t : TypeId)
    (ho : o.op = .call { callee := .builtin .append, args := #[s, x], argTypes := #[t, t] }) (e : TypeId) (i : TypeInfo) (ht : P.underlying t = some (.slice e)) (hi : P.info? e = some i)
    (A0 : Option Addr) (n c0 c : Nat) (hs : a.eval s = .slice A0 n c0) (hle : n ≤ c0) (hx : a.eval x = .slice none 0 c)
    (h : wpList P ops Q rest (a.put o.dst (.slice A0 n c0)) w) : wpList P ops Q (o :: rest) a w := by
  refine wpList_plain hgd fun K hK' => ?_
  have hr := run_append_nothing (P := P) w t t o.type e i ht hi A0 n c0 hle (.slice none 0 c) (Src.ofNil w ht c)
  unfold Oper.wp
  simp only [execOp, ho, resolve, invoke, builtin, Sem.run_bind, Sem.run_pure, Result.andThen_ok, List.map_toArray, List.map_cons, List.map_nil, hs, hx, hr]
  exact hK' _ _ h
/-! ### Between the calls, in memory -/
structure Stage (w0 w : World) (lb m c a b N : Nat) (Ll Lr : LS) (B rb : Nat) (X : List Nat) (A : Option Addr) (cA : Nat) (had : List Int) : Prop where
  low : Below w0.heap.size w0 w
  land : LandOf w lb m c a b N Ll
  ref : Ref19 w B rb Lr (X ++ blockOf A)
  own : w.ownsRow B 2 1 (.slice A had.length cA) had.length (i64s had)
  lt : ∀ x ∈ [lb, m, c, a, b], x < B
  ge : ∀ x ∈ [m, c, a, b], w0.heap.size ≤ x
  base : w0.heap.size ≤ B
  here : B ≤ w.heap.size
section
variable {w0 w w' : World} {lb m c a b N B rb cA : Nat} {Ll Lr L' : LS} {X Y G : List Nat} {A : Option Addr} {had : List Int}
theorem Ref19.low (h : Ref19 w B rb Lr X) (hu : Upd G w w') (hG : ∀ b ∈ G, b < B) : Ref19 w' B rb Lr X := by
  obtain ⟨A1, c1, A2, c2, A3, c3, A4, c4, h⟩ := h
  exact ⟨A1, c1, A2, c2, A3, c3, A4, c4, h.upd hu (fun hin => by have := hG _ hin; have := h.lo; omega) fun r hr b hb hin => by have := hG _ hin; have := own_lo (h.own r hr) b hb; omega⟩
theorem Stage.thru (h : Stage w0 w lb m c a b N Ll Lr B rb X A cA had) (hb : Below w.heap.size w w') : Stage w0 w' lb m c a b N Ll Lr B rb X A cA had :=
  ⟨below_thru h.low hb, h.land.thru hb, h.ref.thru hb, ownsRow_upd h.own (Upd.of_below hb (F := [])) (by simp), h.lt, h.ge, h.base, Nat.le_trans h.here hb.size⟩
theorem Stage.more (h : Stage w0 w lb m c a b N Ll Lr B rb X A cA had) (hY : ∀ b ∈ Y, b ∈ X ∨ b ∈ blockOf A ∨ w.heap.size ≤ b) : Stage w0 w lb m c a b N Ll Lr B rb Y A cA had :=
  ⟨h.low, h.land, h.ref.more (by
    intro x hx
    rcases List.mem_append.1 hx with hx | hx
    · rcases hY x hx with e | e | e
      · exact .inl (List.mem_append.2 (.inl e))
      · exact .inl (List.mem_append.2 (.inr e))
      · exact .inr e
    · exact .inl (List.mem_append.2 (.inr hx))), h.own, h.lt, h.ge, h.base, h.here⟩
/-- The land went on. -/
theorem Stage.did (h : Stage w0 w lb m c a b N Ll Lr B rb X A cA had) (hl : LandOf w' lb m c a b N L') (hu : Upd [m, c, a, b] w w') : Stage w0 w' lb m c a b N L' Lr B rb X A cA had := by
  have hlt : ∀ x ∈ [m, c, a, b], x < B := fun x hx => h.lt x (List.mem_cons_of_mem _ hx)
  exact ⟨below_upd h.low hu (Nat.le_refl _) h.ge, hl, h.ref.low hu hlt, ownsRow_upd h.own hu (fun x hx hin => by have := hlt x hin; have := own_lo h.own x hx; omega), h.lt, h.ge, h.base, Nat.le_trans h.here hu.size⟩
/-- The reference went on. -/
theorem Stage.refd (h : Stage w0 w lb m c a b N Ll Lr B rb X A cA had) (hr : Ref19 w' B rb L' (X ++ blockOf A)) (ho : Off B (X ++ blockOf A) w w') : Stage w0 w' lb m c a b N Ll L' B rb X A cA had := by
  obtain ⟨G, hu, hG⟩ := ho
  have hl := h.land
  refine ⟨below_upd h.low hu (Nat.le_refl _) fun x hx => Nat.le_trans h.base (hG x hx).1, ?_, hr, ownsRow_upd h.own hu (fun x hx hin => (hG x hin).2 (List.mem_append.2 (.inr hx))), h.lt, h.ge, h.base, Nat.le_trans h.here hu.size⟩
  obtain ⟨σ, f, α, h1, h2, h3⟩ := hl.land
  exact ⟨⟨σ, f, α, h1.upd hu (fun x hx hin => by have := (hG x hin).1; have := h.lt x (List.mem_cons_of_mem _ hx); omega), h2, h3⟩, Blk.upd hl.top hu (fun hin => by have := (hG _ hin).1; have := h.lt lb (by simp); omega), hl.off⟩
/-- A block of the caller's own went on. -/
theorem Stage.side (h : Stage w0 w lb m c a b N Ll Lr B rb X A cA had) {d : Nat} (hu : Upd [d] w w') (hd : d ∈ X) (hB : B ≤ d) (hA : d ∉ blockOf A) : Stage w0 w' lb m c a b N Ll Lr B rb X A cA had := by
  have hl := h.land
  refine ⟨below_upd h.low hu (Nat.le_refl _) fun x hx => by simp only [List.mem_singleton] at hx; subst hx; exact Nat.le_trans h.base hB, ?_, h.ref.other hu (fun x hx => by simp only [List.mem_singleton] at hx; subst hx; exact .inl (List.mem_append.2 (.inl hd))), ownsRow_upd h.own hu (fun x hx hin => by simp only [List.mem_singleton] at hin; subst hin; exact hA hx), h.lt, h.ge, h.base, Nat.le_trans h.here hu.size⟩
  obtain ⟨σ, f, α, h1, h2, h3⟩ := hl.land
  exact ⟨⟨σ, f, α, h1.upd hu (fun x hx hin => by simp only [List.mem_singleton] at hin; subst hin; have := h.lt x (List.mem_cons_of_mem _ hx); omega), h2, h3⟩, Blk.upd hl.top hu (fun hin => by simp only [List.mem_singleton] at hin; have := h.lt lb (by simp); omega), hl.off⟩
theorem Stage.not (h : Stage w0 w lb m c a b N Ll Lr B rb X A cA had) {d : Nat} (hB : B ≤ d) : d ∉ [m, c, a, b] := fun hin => by have := h.lt d (List.mem_cons_of_mem _ hin); omega
/-- The list that is had went on. -/
theorem Stage.hads (h : Stage w0 w lb m c a b N Ll Lr B rb X A cA had) {A' : Option Addr} {cA' : Nat} {had' : List Int} (hu : Upd (blockOf A) w w') (ho : w'.ownsRow B 2 1 (.slice A' had'.length cA') had'.length (i64s had')) (hA : ∀ b ∈ blockOf A', b ∈ blockOf A ∨ w.heap.size ≤ b) : Stage w0 w' lb m c a b N Ll Lr B rb X A' cA' had' := by
  have hge : ∀ x ∈ blockOf A, B ≤ x := own_lo h.own
  have hl := h.land
  have hr : Ref19 w B rb Lr ((X ++ blockOf A) ++ blockOf A') := h.ref.more (by
    intro x hx
    rcases List.mem_append.1 hx with hx | hx
    · exact .inl hx
    · exact (hA x hx).imp (fun e => List.mem_append.2 (.inr e)) id)
  refine ⟨below_upd h.low hu (Nat.le_refl _) fun x hx => Nat.le_trans h.base (hge x hx), ?_, (hr.other hu (fun x hx => .inl (List.mem_append.2 (.inl (List.mem_append.2 (.inr hx)))))).more (by
    intro x hx
    rcases List.mem_append.1 hx with hx | hx
    · exact .inl (List.mem_append.2 (.inl (List.mem_append.2 (.inl hx))))
    · exact .inl (List.mem_append.2 (.inr hx))), ho, h.lt, h.ge, h.base, Nat.le_trans h.here hu.size⟩
  obtain ⟨σ, f, α, h1, h2, h3⟩ := hl.land
  exact ⟨⟨σ, f, α, h1.upd hu (fun x hx hin => by have := hge x hin; have := h.lt x (List.mem_cons_of_mem _ hx); omega), h2, h3⟩, Blk.upd hl.top hu (fun hin => by have := hge _ hin; have := h.lt lb (by simp); omega), hl.off⟩
end
theorem Off.blk {w w' : World} {B d : Nat} {X : List Nat} {t : TypeId} {cs : Array Value} (h : Off B X w w') (hb : Blk w d t cs) (hd : d ∈ X) : Blk w' d t cs := by
  obtain ⟨G, hu, hG⟩ := h
  exact hb.upd hu fun hin => (hG d hin).2 hd
/-- What came of a call: a list of its own. -/
def OwnR (B : Nat) (w : World) (A : Option Addr) (c : Nat) (xs : List Int) : Prop := w.ownsRow B 2 1 (.slice A xs.length c) xs.length (i64s xs)
theorem OwnR.thru {B : Nat} {w w' : World} {A : Option Addr} {c : Nat} {xs : List Int} (h : OwnR B w A c xs) (hb : Below w.heap.size w w') : OwnR B w' A c xs := ownsRow_upd h (Upd.of_below hb (F := [])) (by simp)
theorem OwnR.off {B0 B : Nat} {w w' : World} {A : Option Addr} {c : Nat} {xs : List Int} {X : List Nat} (h : OwnR B w A c xs) (ho : Off B0 X w w') (hA : ∀ b ∈ blockOf A, b ∈ X) : OwnR B w' A c xs := by
  obtain ⟨G, hu, hG⟩ := ho
  exact ownsRow_upd h hu fun b hb hin => (hG b hin).2 (hA b hb)
/-- A call of the law. -/
structure Op19 where
  kind : Int
  at_ : Int
  n : Int
def Op19.cells (o : Op19) : List Value := [.int .u8 o.kind, .int .u8 o.at_, .int .u8 o.n]
structure Op19.Ok (o : Op19) : Prop where
  k : 0 ≤ o.kind ∧ o.kind ≤ 255
  a : 0 ≤ o.at_ ∧ o.at_ ≤ 255
  n : 0 ≤ o.n ∧ o.n ≤ 255
theorem op19_open {H : Type} {enc : TypeId × Value → H} {w : World} (n : Nat) (vs : List Value) (hl : vs.length = 3)
    (h0 : ∃ v y, vs[0]? = some v ∧ DataW.trod enc Try.prog w 0 (fun _ => true) true n 5 [v] = some y) (h1 : ∃ v y, vs[1]? = some v ∧ DataW.trod enc Try.prog w 0 (fun _ => true) true n 5 [v] = some y)
    (h2 : ∃ v y, vs[2]? = some v ∧ DataW.trod enc Try.prog w 0 (fun _ => true) true n 5 [v] = some y) : ∃ x : Op19, x.Ok ∧ x.cells = vs := by
  obtain ⟨v0, y0, e0, t0⟩ := h0
  obtain ⟨v1, y1, e1, t1⟩ := h1
  obtain ⟨v2, y2, e2, t2⟩ := h2
  obtain ⟨a0, c0, -, w0⟩ := DataW.trod_int Try.underlying5 t0
  obtain ⟨a1, c1, -, w1⟩ := DataW.trod_int Try.underlying5 t1
  obtain ⟨a2, c2, -, w2⟩ := DataW.trod_int Try.underlying5 t2
  simp only [List.cons.injEq, and_true] at c0 c1 c2
  subst c0 c1 c2
  match vs, hl with
  | [x0, x1, x2], _ =>
    simp at e0 e1 e2
    subst e0 e1 e2
    exact ⟨⟨a0, a1, a2⟩, ⟨bounds_u8 w0, bounds_u8 w1, bounds_u8 w2⟩, rfl⟩
def Loop19 (w0 : World) (lb m c a b N B rb : Nat) (v x : Value) (len : Nat) (w : World) : Prop :=
  ∃ (i : Nat) (L : LS) (A : Option Addr) (cA : Nat) (had : List Int) (e : Int), i ≤ len ∧ v = .slice A had.length cA ∧ x = .int .i64 i ∧ Stage w0 w lb m c a b N L L B rb [] A cA had ∧ PI L had e (1 + 400 * i) ∧ 0 ≤ e ∧ e ≤ i
set_option maxRecDepth 100000 in
set_option maxHeartbeats 8000000 in
theorem walk_ReplacePlays (sl : Int) (wa : Option Addr) (len cap : Nat) (zs : List Op19) (w : World) (hsl : (Lit.int .u8 sl).wf = true) (hz : ArgOf Op19.cells 3 Op19.Ok w wa len cap zs) :
    Calls Try.prog 12 #[.int .u8 sl, .slice wa len cap] w fun e w' => e = .returned (.bool true) ∧ Below w.heap.size w w' := by
  obtain ⟨s0, s1⟩ := bounds_u8 hsl
  have hzl := hz.hl
  have hle := hz.le
  have hzm := hz.hm
  unfold maxLen at hzm
  have HB := Lib.hid (Below.refl w.heap.size w)
  have HA := Lib.hid hz
  have HZL := Lib.hid hzl
  clear hz hzl hsl
  by_cases h60 : 60 < len
  · have h60i : (60 : Int) < len := by omega
    go_enter Try.func12, Try.ntmps12
    go_wp2_with fail
    refine (awake19 w).mono ?_
    rintro e w1 ⟨rfl, hb⟩
    replace HB := Lib.hid (below_thru HB.out hb)
    clear hb
    go_wp2_with fail
    refine (awake19 w1).mono ?_
    rintro e w2 ⟨rfl, hb⟩
    replace HB := Lib.hid (below_thru HB.out hb)
    clear hb
    go_wp2
    go_ret
    exact ⟨rfl, HB.out⟩
  · have h60i : ¬ (60 : Int) < len := by omega
    have hdec : decide ((60 : Int) < (len : Int)) = false := by simp; omega
    have hmod : sl.tmod 41 = sl % 41 := Int.tmod_eq_emod_of_nonneg s0
    go_enter Try.func12, Try.ntmps12
    go_wp2_with fail
    refine (awake19 w).mono ?_
    rintro e w1 ⟨rfl, hb⟩
    replace HB := Lib.hid (below_thru HB.out hb)
    clear hb
    obtain ⟨n, hn⟩ : ∃ n : Int, sl % 41 = n := ⟨_, rfl⟩
    have hnb : 0 ≤ n ∧ n ≤ 40 := by omega
    obtain ⟨N, hN⟩ : ∃ N, capL n = N := ⟨_, rfl⟩
    have hNb : 1 ≤ N ∧ N ≤ 40 := by
      rw [← hN]
      unfold capL
      split
      · omega
      · rw [if_neg (by omega)]; omega
    have HN := Lib.hid (replace_new n w1 (WfI.of ⟨by omega, by omega⟩))
    have HRN := Lib.hid (fun (wx : World) => ref19_new n [] wx (by simp))
    rw [hN] at HN HRN
    clear hN
    rw [hn] at hmod
    have HMD := Lib.hid hmod
    go_wp2_with fail
    refine HN.out.mono ?_
    rintro e w2 ⟨lb, m, c, a, b, rfl, hb0, hnl⟩
    have HL0 := Lib.hid (hnl.of hNb.1 (by omega))
    have HNEW := Lib.hid (show ∀ x ∈ [m, c, a, b], w.heap.size ≤ x by
      have h1 := hnl.new
      have h2 := HB.out.size
      intro x hx
      simp only [List.mem_cons, List.not_mem_nil, or_false] at hx
      omega)
    have HLT := Lib.hid (show ∀ x ∈ [lb, m, c, a, b], x < w2.heap.size by
      obtain ⟨σ, f, α, hla, -, -⟩ := HL0.out.land
      have h1 := hla.lt
      have h2 : lb < w2.heap.size := Blk.lt HL0.out.top
      intro x hx
      rcases List.mem_cons.1 hx with rfl | hx
      · exact h2
      · exact h1 x hx)
    have HB2 := Lib.hid (below_thru HB.out hb0)
    clear hb0 hnl HN HB
    go_wp2_with fail
    refine (HRN.out w2).mono ?_
    rintro e w3 ⟨rb, rfl, hr, hof⟩
    have HST := Lib.hid (show Stage w w3 lb m c a b N (LS.new N) (LS.new N) w2.heap.size rb [] none 0 [] from
      ⟨below_thru HB2.out (hof.below (Nat.le_refl _)), HL0.out.thru (hof.below (Nat.le_refl _)), hr, World.ownsRow_nil _ _ _ _, HLT.out, HNEW.out, HB2.out.size, hof.size⟩)
    obtain ⟨B, hB⟩ : ∃ B, w2.heap.size = B := ⟨_, rfl⟩
    rw [hB] at HST
    clear hr hof HB2 HL0 HRN HNEW HLT hB hmod HMD
    go_wp2_with fail
    go_loopw [7, 8] (fun v x wr => Loop19 w lb m c a b N B rb v x len wr) (fun _ x _ => len - (intOf x).toNat)
    case atStart => exact ⟨0, LS.new N, none, 0, [], 0, by omega, rfl, rfl, HST.out, ⟨ok_new N, (sm_new N).mono (by omega), by simp [LS.new], rfl⟩, by omega, by omega⟩
    case round =>
      clear HST
      obtain ⟨i, L, A, cA, had, ep, hi, rfl, rfl, hst, hpi, he0, hei⟩ := hrel
      by_cases hlt : i < len
      · have hlti : (i : Int) < len := by omega
        obtain ⟨ob0, oo, o, rfl, -, ho, hok, hcell⟩ := (HA.out.below hst.low (Nat.le_refl _)).at_ hlt
        obtain ⟨kind, oat, on⟩ := o
        have x0 := hcell 0 _ rfl
        have x1 := hcell 1 _ rfl
        have x2 := hcell 2 _ rfl
        obtain ⟨⟨k0, k1⟩, ⟨a0, a1⟩, ⟨n0, n1⟩⟩ := hok
        simp only at k0 k1 a0 a1 n0 n1
        simp only [Nat.add_zero] at x0
        clear hcell ho
        have HST := Lib.hid (hst.more (Y := [wr.heap.size, wr.heap.size + 1]) (by intro x hx; simp at hx; omega))
        have HPI := Lib.hid hpi
        have HBO := Lib.hid (show B ≤ wr.heap.size from hst.here)
        have HI := Lib.hid (show 0 ≤ ep ∧ ep ≤ i ∧ i < len from ⟨he0, hei, hlt⟩)
        have hep := hpi.ep
        subst hep
        obtain ⟨σ0, f0, α0, -, -, hrel0⟩ := hst.land.land
        have HREL := Lib.hid hrel0
        have HN1 := Lib.hid (show N ≤ 300 ∧ (1 : Int) + 400 * i < 1000000 from ⟨by omega, by omega⟩)
        clear hst hpi he0 hei hrel0
        go_upto_region 8 with fail
        replace HST := Lib.hid (HST.out.thru (below_alloc0 wr (.cells #[.int .u8 kind, .int .u8 oat, .int .u8 on] 88)))
        have HOB := Lib.hid (Blk.new wr 88 #[.int .u8 kind, .int .u8 oat, .int .u8 on])
        go_upto_region 9 with fail
        have HZ := Lib.hid (World.size_alloc wr (.cells #[.int .u8 kind, .int .u8 oat, .int .u8 on] 88))
        obtain ⟨ob, hob⟩ : ∃ x, wr.heap.size = x := ⟨_, rfl⟩
        simp only [hob] at HOB HZ ⊢
        replace hob := Lib.hid hob
        generalize wr.alloc (.cells #[.int .u8 kind, .int .u8 oat, .int .u8 on] 88) = w4 at *
        rw [hob.out] at HST HBO
        obtain ⟨o0, o1, o2⟩ := HOB.out.at3
        have he6 : w4.cell? ⟨rb, 6, none⟩ = some (.int .i64 L.epoch) := by
          obtain ⟨A1, c1, A2, c2, A3, c3, A4, c4, hg⟩ := HST.out.ref
          exact hg.blk.at_ (i := 6) rfl
        have hkm : kind.tmod 6 = kind % 6 := Int.tmod_eq_emod_of_nonneg k0
        obtain ⟨kd, hkd⟩ : ∃ kd, kind % 6 = kd := ⟨_, rfl⟩
        rw [hkd] at hkm
        have hkb : 0 ≤ kd ∧ kd ≤ 5 := by omega
        have hkw : IntKind.u8.wrap kd = kd := by unfold IntKind.wrap; simp [IntKind.bits]; omega
        refine wp_region_N (fun x => x.cell? ⟨ob, 0, none⟩ = some (.int .u8 kind) ∧ x.cell? ⟨ob, 1, none⟩ = some (.int .u8 oat) ∧ x.cell? ⟨ob, 2, none⟩ = some (.int .u8 on) ∧ x.cell? ⟨rb, 6, none⟩ = some (.int .i64 L.epoch)) 11 12 (by rfl) (by kernel_rfl) ?_
        have hS : (fun x : World => x.cell? ⟨ob, 0, none⟩ = some (.int .u8 kind) ∧ x.cell? ⟨ob, 1, none⟩ = some (.int .u8 oat) ∧ x.cell? ⟨ob, 2, none⟩ = some (.int .u8 on) ∧ x.cell? ⟨rb, 6, none⟩ = some (.int .i64 L.epoch)) w4.drew := ⟨o0, o1, o2, he6⟩
        try simp only [Array.replicate, List.replicate, List.setIfInBounds_toArray]
        refine wpAnyN_takes (i := 0) (d := 44) (v := ?_) rfl rfl (by kernel_rfl) (fun _ _ _ h => h) (Or.inl ⟨by rfl, ?_⟩) hS ?_
        rotate_left
        · intro wq hq; (try dsimp only at hq); obtain ⟨hq1, hq2, hq3, hq4⟩ := hq; go_simp; try with_reducible rfl
        simp only [List.setIfInBounds_toArray, List.set_cons_zero, List.set_cons_succ]
        refine wpAnyN_takes (i := 1) (d := 45) (v := ?_) rfl rfl (by kernel_rfl) (fun _ _ _ h => h) (Or.inl ⟨by rfl, ?_⟩) hS ?_
        rotate_left
        · intro wq hq; (try dsimp only at hq); obtain ⟨hq1, hq2, hq3, hq4⟩ := hq; go_simp; try with_reducible rfl
        simp only [List.setIfInBounds_toArray, List.set_cons_zero, List.set_cons_succ]
        refine wpAnyN_takes (i := 2) (d := 46) (v := ?_) rfl rfl (by kernel_rfl) (fun _ _ _ h => h) (Or.inl ⟨by rfl, ?_⟩) hS ?_
        rotate_left
        · intro wq hq; (try dsimp only at hq); obtain ⟨hq1, hq2, hq3, hq4⟩ := hq; go_simp; try with_reducible rfl
        simp only [List.setIfInBounds_toArray, List.set_cons_zero, List.set_cons_succ]
        refine wpAnyN_takes (i := 3) (d := 47) (v := ?_) rfl rfl (by kernel_rfl) (fun _ _ _ h => h) (Or.inl ⟨by rfl, ?_⟩) hS ?_
        rotate_left
        · intro wq hq; (try dsimp only at hq); obtain ⟨hq1, hq2, hq3, hq4⟩ := hq; go_simp; try with_reducible rfl
        simp only [List.setIfInBounds_toArray, List.set_cons_zero, List.set_cons_succ]
        refine wpAnyN_takes (i := 4) (d := 48) (v := ?_) rfl rfl (by kernel_rfl) (fun _ _ _ h => h) (Or.inl ⟨by rfl, ?_⟩) hS ?_
        rotate_left
        · intro wq hq; (try dsimp only at hq); obtain ⟨hq1, hq2, hq3, hq4⟩ := hq; go_simp; try with_reducible rfl
        simp only [List.setIfInBounds_toArray, List.set_cons_zero, List.set_cons_succ]
        refine wpAnyN_takes (i := 5) (d := 49) (v := ?_) rfl rfl (by kernel_rfl) (fun _ _ _ h => h) (Or.inl ⟨by rfl, ?_⟩) hS ?_
        rotate_left
        · intro wq hq; (try dsimp only at hq); obtain ⟨hq1, hq2, hq3, hq4⟩ := hq; go_simp; try with_reducible rfl
        simp only [List.setIfInBounds_toArray, List.set_cons_zero, List.set_cons_succ]
        refine wpAnyN_takes (i := 6) (d := 50) (v := ?_) rfl rfl (by kernel_rfl) (fun _ _ _ h => h) (Or.inl ⟨by rfl, ?_⟩) hS ?_
        rotate_left
        · intro wq hq; (try dsimp only at hq); obtain ⟨hq1, hq2, hq3, hq4⟩ := hq; go_simp; try with_reducible rfl
        simp only [List.setIfInBounds_toArray, List.set_cons_zero, List.set_cons_succ]
        refine wpAnyN_takes (i := 7) (d := 51) (v := ?_) rfl rfl (by kernel_rfl) (fun _ _ _ h => h) (Or.inl ⟨by rfl, ?_⟩) hS ?_
        rotate_left
        · intro wq hq; (try dsimp only at hq); obtain ⟨hq1, hq2, hq3, hq4⟩ := hq; go_simp; try with_reducible rfl
        simp only [List.setIfInBounds_toArray, List.set_cons_zero, List.set_cons_succ]
        refine wpAnyN_takes (i := 8) (d := 52) (v := ?_) rfl rfl (by kernel_rfl) (fun _ _ _ h => h) (Or.inl ⟨by rfl, ?_⟩) hS ?_
        rotate_left
        · intro wq hq; (try dsimp only at hq); obtain ⟨hq1, hq2, hq3, hq4⟩ := hq; go_simp; try with_reducible rfl
        simp only [List.setIfInBounds_toArray, List.set_cons_zero, List.set_cons_succ]
        refine wpAnyN_takes (i := 9) (d := 53) (v := ?_) rfl rfl (by kernel_rfl) (fun _ _ _ h => h) (Or.inl ⟨by rfl, ?_⟩) hS ?_
        rotate_left
        · intro wq hq; (try dsimp only at hq); obtain ⟨hq1, hq2, hq3, hq4⟩ := hq; go_simp; try with_reducible rfl
        simp only [List.setIfInBounds_toArray, List.set_cons_zero, List.set_cons_succ]
        have z4 := (show Blk w4.drew ob 88 _ from HOB.out).alloc (.cells #[.pointer none, .int .u8 0, .int .u8 0, .int .u8 0, .int .i64 0, .int .i64 0, .pointer none, .int .u8 0] 91)
        obtain ⟨y0, y1, y2⟩ := z4.at3
        have HSA := Lib.hid (HST.out.thru (below_thru (below_drewN0 w4 1) (below_alloc0 w4.drew (.cells #[.pointer none, .int .u8 0, .int .u8 0, .int .u8 0, .int .i64 0, .int .i64 0, .pointer none, .int .u8 0] 91))))
        have y6 : (w4.drew.alloc (.cells #[.pointer none, .int .u8 0, .int .u8 0, .int .u8 0, .int .i64 0, .int .i64 0, .pointer none, .int .u8 0] 91)).cell? ⟨rb, 6, none⟩ = some (.int .i64 L.epoch) := by
          obtain ⟨A1, c1, A2, c2, A3, c3, A4, c4, hg⟩ := HSA.out.ref
          exact hg.blk.at_ (i := 6) rfl
        refine wpAnyN_one (i := 10) (by kernel_rfl) rfl (by rfl) (fun K hK => ?_)
        go_simp
        refine hK.out _ _ (fun _ => ⟨y0, y1, y2, y6⟩) ?_
        clear hK K hS y0 y1 y2 y6 z4
        try simp only [Act.put, List.setIfInBounds_toArray, List.set_cons_zero, List.set_cons_succ]
        refine wpAnyN_one (i := 11) (by kernel_rfl) rfl (by rfl) (fun K hK => ?_)
        go_simp
        refine hK.out _ _ (fun h => absurd rfl h) ?_
        clear hK K
        try simp only [Act.put, List.setIfInBounds_toArray, List.set_cons_zero, List.set_cons_succ]
        refine wpAnyN_done (by kernel_rfl) ?_ _
        go_upto_region 10 with fail
        clear HSA o0 o1 o2 he6 hkm hkw
        replace HST := Lib.hid (HST.out.thru (below_alloc0 w4 (.cells #[.pointer (some ⟨lb, 0, none⟩), .int .u8 kind, .int .u8 oat, .int .u8 on, .int .i64 0, .int .i64 L.epoch, .pointer none, .int .u8 kd] 91)))
        replace HOB := Lib.hid (HOB.out.thru (below_alloc0 w4 (.cells #[.pointer (some ⟨lb, 0, none⟩), .int .u8 kind, .int .u8 oat, .int .u8 on, .int .i64 0, .int .i64 L.epoch, .pointer none, .int .u8 kd] 91)))
        have HCB := Lib.hid (Blk.new w4 91 #[.pointer (some ⟨lb, 0, none⟩), .int .u8 kind, .int .u8 oat, .int .u8 on, .int .i64 0, .int .i64 L.epoch, .pointer none, .int .u8 kd])
        rw [HZ.out] at HCB
        try simp only [HZ.out]
        replace HZ := Lib.hid (show (w4.alloc (.cells #[.pointer (some ⟨lb, 0, none⟩), .int .u8 kind, .int .u8 oat, .int .u8 on, .int .i64 0, .int .i64 L.epoch, .pointer none, .int .u8 kd] 91)).heap.size = ob + 1 + 1 by rw [World.size_alloc, HZ.out])
        generalize w4.alloc (.cells #[.pointer (some ⟨lb, 0, none⟩), .int .u8 kind, .int .u8 oat, .int .u8 on, .int .i64 0, .int .i64 L.epoch, .pointer none, .int .u8 kd] 91) = w5 at *
        replace HST := Lib.hid (HST.out.thru (show Below w5.heap.size w5 w5.drew from below_drewN0 w5 1))
        replace HOB := Lib.hid (HOB.out.thru (show Below w5.heap.size w5 w5.drew from below_drewN0 w5 1))
        replace HCB := Lib.hid (HCB.out.thru (show Below w5.heap.size w5 w5.drew from below_drewN0 w5 1))
        generalize w5.drew = w6 at *
        have HKD := Lib.hid hkd
        clear hkd x0 x1 x2 HZ
        have h6 : kd = 0 ∨ kd = 1 ∨ kd = 2 ∨ kd = 3 ∨ kd = 4 ∨ kd = 5 := by omega
        clear hkb
        obtain ⟨q0, q1, q2, q3, q4, q5, q6, q7⟩ := HCB.out.at8
        have fq := HCB.out.free 5
        rcases h6 with rfl | rfl | rfl | rfl | rfl | rfl
        -- K0
        · go_upto_region 19 with fail
          have HD := Lib.hid (do_take HST.out.land HPI.out.sm (by have := HI.out; omega) (by omega) kind oat on 0 L.epoch none)
          go_wp2_with fail
          refine HD.out.mono ?_
          rintro e w8 ⟨cs, nn, rfl, -, ⟨AR, eR, rfl, hoR, -, hwl⟩, hl, hu⟩
          have HWL := Lib.hid hwl
          have HWA := Lib.hid hu.size
          have HOR := Lib.hid hoR
          have HS2 := Lib.hid ((HST.out.more (Y := ob :: (ob + 1) :: blockOf AR) (by intro x hx; simp only [List.mem_cons] at hx; rcases hx with rfl | rfl | hx; exact .inl (by simp); exact .inl (by simp); exact .inr (.inr (own_lo hoR x hx)))).did hl hu)
          have HC2 := Lib.hid (HCB.out.upd hu (HST.out.not (Nat.le_succ_of_le HBO.out)))
          have HO2 := Lib.hid (HOB.out.upd hu (HST.out.not HBO.out))
          clear HD hl hu hoR hwl q0 q1 q2 q3 q4 q5 q6 q7 HST HCB HOB
          have HST := HS2
          have HCB := HC2
          have HOB := HO2
          clear HS2 HC2 HO2
          replace HOR := Lib.hid (show OwnR (w6).heap.size w8 AR eR _ from HOR.out)
          simp only [List.length_nil]
          replace HST := Lib.hid (HST.out.more (Y := (w8).heap.size :: ob :: (ob + 1) :: blockOf AR) (by intro x hx; simp only [List.mem_cons] at hx ⊢; rcases hx with rfl | rfl | rfl | hx; exact .inr (.inr (Nat.le_refl _)); exact .inl (by simp); exact .inl (by simp); exact .inl (by simp [hx])))
          replace HST := Lib.hid (HST.out.thru (below_alloc0 w8 (.cells #[.int .i64 L.take.1, .slice AR 0 eR, .bool false, .int .i64 0] 84)))
          replace HCB := Lib.hid (HCB.out.thru (below_alloc0 w8 (.cells #[.int .i64 L.take.1, .slice AR 0 eR, .bool false, .int .i64 0] 84)))
          replace HOB := Lib.hid (HOB.out.thru (below_alloc0 w8 (.cells #[.int .i64 L.take.1, .slice AR 0 eR, .bool false, .int .i64 0] 84)))
          replace HOR := Lib.hid (HOR.out.thru (below_alloc0 w8 (.cells #[.int .i64 L.take.1, .slice AR 0 eR, .bool false, .int .i64 0] 84)))
          have HRS := Lib.hid (Blk.new w8 84 #[.int .i64 L.take.1, .slice AR 0 eR, .bool false, .int .i64 0])
          go_upto_region 20 with fail
          have HZ := Lib.hid (World.size_alloc w8 (.cells #[.int .i64 L.take.1, .slice AR 0 eR, .bool false, .int .i64 0] 84))
          obtain ⟨rs, hrs⟩ : ∃ x, w8.heap.size = x := ⟨_, rfl⟩
          simp only [hrs] at HRS HZ ⊢
          replace hrs := Lib.hid hrs
          generalize w8.alloc (.cells #[.int .i64 L.take.1, .slice AR 0 eR, .bool false, .int .i64 0] 84) = w9 at *
          rw [hrs.out] at HST
          have HLX := Lib.hid (show ∀ x ∈ (rs :: ob :: (ob + 1) :: blockOf AR) ++ blockOf _, x < (w9).heap.size by
            intro x hx
            simp only [List.cons_append, List.mem_cons, List.mem_append] at hx
            rcases hx with rfl | rfl | rfl | hx | hx
            · exact HRS.out.lt
            · exact HOB.out.lt
            · exact HCB.out.lt
            · exact ownsRow_blockLt HOR.out x hx
            · exact ownsRow_blockLt HST.out.own x hx)
          clear HZ
          obtain ⟨r0, r1, r2, r3⟩ := HRS.out.at4
          obtain ⟨q0, q1, q2, q3, q4, q5, q6, q7⟩ := HCB.out.at8
          have HFT := Lib.hid ((HPI.out.res HREL.out HN1.out.1).fits (by have := HN1.out.2; omega))
          have HT := Lib.hid (ref19_take B rb L ((rs :: ob :: (ob + 1) :: blockOf AR) ++ blockOf A) w9 HST.out.ref HLX.out HFT.out)
          go_wp2_with fail
          refine HT.out.mono ?_
          rintro e w10 ⟨rfl, hr, hof⟩
          have HS2 := Lib.hid (HST.out.refd hr hof)
          have HR2 := Lib.hid (hof.blk HRS.out (by simp))
          clear hr hof HT HST HRS r0 r1 r2 r3 q0 q1 q2 q3 q4 q5 q6 q7 HLX HOR HFT
          have HST := HS2
          obtain ⟨r0, r1, r2, r3⟩ := HR2.out.at4
          clear HS2
          cases hfree : L.free with
          | nil =>
            have ht : L.take = (0, L) := by unfold LS.take; rw [hfree]
            rw [ht] at HST r0
            simp only [ht]
            clear ht
            go_upto_region 42 with fail
            have HPN := Lib.hid (HPI.out.mono (show _ ≤ 1 + 400 * (i : Int) + 400 by omega))
            have HSM := Lib.hid (same19 lb m c a b N B rb L _ w10 HST.out.land hNb.1 (by omega) (HPN.out.sm.small (by have := HI.out; omega)) HST.out.ref)
            go_wp2_with fail
            refine HSM.out.mono ?_
            rintro e w11 ⟨rfl, hb⟩
            have HS2 := Lib.hid ((HST.out.thru hb).more (Y := []) (by simp))
            clear hb HSM HST
            have HST := HS2
            clear HS2
            go_wp2
            go_roundw
            case rel => exact ⟨i + 1, _, A, cA, had, L.epoch, by omega, rfl, by go_num, HST.out, by rw [show (1 : Int) + 400 * ((i + 1 : Nat) : Int) = 1 + 400 * i + 400 by omega]; exact HPN.out, by have := HI.out; omega, by have := HI.out; omega⟩
            case measure => simp [intOf]; omega
          | cons s l =>
            obtain ⟨hp2, hpos⟩ := HPI.out.take' HREL.out HN1.out.1 (by have := HN1.out.2; omega) hfree
            have HP2 := Lib.hid hp2
            have hlen : had.length ≤ 300 := by
              have h1 := ok_len HPI.out.ok (by have := HREL.out.gl; have := HN1.out.1; omega)
              have := HREL.out.gl
              have := HN1.out.1
              omega
            have HBW := Lib.hid HST.out.here
            obtain ⟨i0, hi0, hz0, hz1, hz2⟩ := info_parts info_i64
            clear hp2 hfree
            go_upto_region 42 with (at_builtin; refine wpList_append_lies (P := Try.prog) _ rfl (.tmp 128) (.tmp 130) 31 rfl B 2 i0 _ 1 8 Try.underlying31 hi0 hz0 hz1 hz2 rfl (by decide) (.slice A had.length cA) had.length (i64s had) rfl (HST.out.own.alloc _) ⟨w10.heap.size, 0, none⟩ 1 1 [.int .i64 L.take.1] rfl rfl (World.news_of_block (cs := #[.int .i64 L.take.1]) (t := 2) (fr := (0, 0)) (heap_alloc_new w10 _)) (by simp [Value.oneCell']) (by omega) (by unfold maxLen; omega) (by omega) (by simp; have := HBW.out; omega) (w10.heap.size + 1) (by simp) ?_; intro g cap' w11 hown hgrow hat hlt')
            have HS3 := Lib.hid (HST.out.hads (A' := some ⟨g, 0, none⟩) (cA' := cap') (had' := had ++ [L.take.1]) (((Upd.refl _ _).alloc _).grown hgrow fun b hb => .inl (blockOf_own.1 hb)) (by rw [i64s_snoc] at hown; simpa using hown) (by
              intro x hx
              simp only [blockOf, List.mem_singleton] at hx
              subst hx
              rcases hat with e | e
              · exact .inl (blockOf_own.1 e)
              · exact .inr (by omega)))
            clear hown hgrow hat hlt' HST HR2 r0 r1 r2 r3
            have HST := HS3
            clear HS3
            have HPN := Lib.hid (HP2.out)
            have HSM := Lib.hid (same19 lb m c a b N B rb L.take.2 _ w11 HST.out.land hNb.1 (by omega) (HPN.out.sm.small (by have := HI.out; omega)) HST.out.ref)
            go_wp2_with fail
            refine HSM.out.mono ?_
            rintro e w12 ⟨rfl, hb⟩
            have HS2 := Lib.hid ((HST.out.thru hb).more (Y := []) (by simp))
            clear hb HSM HST
            have HST := HS2
            clear HS2
            go_wp2
            go_roundw
            case rel => exact ⟨i + 1, _, some ⟨g, 0, none⟩, cap', had ++ [L.take.1], L.epoch, by omega, by simp, by go_num, HST.out, by rw [show (1 : Int) + 400 * ((i + 1 : Nat) : Int) = 1 + 400 * i + 400 by omega]; exact HPN.out, by have := HI.out; omega, by have := HI.out; omega⟩
            case measure => simp [intOf]; omega
        -- K1
        · obtain ⟨o0, o1, o2⟩ := HOB.out.at3
          have fq4 := HCB.out.free 4
          by_cases hsk : (had.length : Int) ≤ oat
          · go_wp2
            go_roundw
            case rel => exact ⟨i + 1, L, A, cA, had, L.epoch, by omega, rfl, by go_num, HST.out.more (by simp), by rw [show (1 : Int) + 400 * ((i + 1 : Nat) : Int) = 1 + 400 * i + 400 by omega]; exact HPI.out.mono (by omega), by have := HI.out; omega, by have := HI.out; omega⟩
            case measure => simp [intOf]; omega
          · obtain ⟨q, hq⟩ : ∃ q : Nat, (had.length : Int) - 1 - oat = (q : Int) := ⟨((had.length : Int) - 1 - oat).toNat, by omega⟩
            have hql : q < had.length := by omega
            have hqi : (q : Int) < had.length := by omega
            have hlen : had.length ≤ 300 := by
              have h1 := ok_len HPI.out.ok (by have := HREL.out.gl; have := HN1.out.1; omega)
              have := HREL.out.gl
              have := HN1.out.1
              omega
            obtain ⟨gh, hgh, eh, -⟩ := own_at HST.out.own (i64s_at hql)
            subst hgh
            obtain ⟨x, hx⟩ : ∃ x, had.getD q 0 = x := ⟨_, rfl⟩
            rw [hx] at eh
            have HXX := Lib.hid hx
            have HHQ := Lib.hid hq
            clear hx
            go_upto_region 14 with fail
            have hux : Upd [ob + 1] w6 ((w6).setCell ⟨ob + 1, 4, none⟩ (.int .i64 x)) := (Upd.refl _ _).put (.inl (by simp)) _
            have HS2 := Lib.hid (HST.out.side hux (by simp) (Nat.le_succ_of_le HBO.out) (blk_notin HST.out.own HCB.out (by decide)))
            have HC2 := Lib.hid (show Blk ((w6).setCell ⟨ob + 1, 4, none⟩ (.int .i64 x)) (ob + 1) 91 #[.pointer (some ⟨lb, 0, none⟩), .int .u8 kind, .int .u8 oat, .int .u8 on, .int .i64 x, .int .i64 L.epoch, .pointer none, .int .u8 1] from HCB.out.put 4 _)
            have HO2 := Lib.hid (HOB.out.upd hux (by simp))
            clear hux HST HCB HOB q0 q1 q2 q3 q4 q5 q6 q7 fq
            generalize (w6).setCell ⟨ob + 1, 4, none⟩ (.int .i64 x) = w7 at *
            have HST := HS2
            have HCB := HC2
            have HOB := HO2
            clear HS2 HC2 HO2
            obtain ⟨q0, q1, q2, q3, q4, q5, q6, q7⟩ := HCB.out.at8
            clear eh hq fq4 o0 o1 o2
            have hcap := own_cap HST.out.own
            obtain ⟨i0, hi0, hz0, hz1, hz2⟩ := info_parts info_i64
            have hnew := heap_alloc_new w7 (.cells #[] 2)
            have HSA := Lib.hid (HST.out.thru (below_alloc0 w7 (.cells #[] 2)))
            have HNW := Lib.hid (show ∀ j u, (i64s (had.take q))[j]? = some u → (w7.alloc (.cells #[] 2)).cell? ((⟨gh, 0, none⟩ : Addr).add j) = some u by
              intro j u hu
              have hjl : j < q := by have := (List.getElem?_eq_some_iff.1 hu).1; simp [i64s] at this; omega
              obtain ⟨g, hga, hc, -⟩ := own_at HSA.out.own (j := j) (u := u) (by
                simp only [i64s, List.map_take] at hu ⊢
                rwa [List.getElem?_take_of_lt hjl] at hu)
              injection hga with hga
              injection hga with hga
              subst hga
              cases j <;> simpa [Addr.add] using hc)
            have HS0 := Lib.hid (show (w7.alloc (.cells #[] 2)).ownsRow B 2 1 (.slice (some ⟨w7.heap.size, 0, none⟩) 0 0) 0 [] from ⟨rfl, .inr ⟨w7.heap.size, 0, #[], rfl, HST.out.here, hnew, Nat.le_refl _, Nat.zero_le _, rfl, rfl⟩⟩)
            clear hnew
            go_upto_region 15 with (at_builtin; refine wpList_append_part (P := Try.prog) _ rfl (.tmp 80) (.tmp 83) 31 rfl B 2 i0 _ 1 8 Try.underlying31 hi0 hz0 hz1 hz2 rfl (by decide) (some ⟨w7.heap.size, 0, none⟩) 0 0 [] rfl HS0.out (some ⟨gh, 0, none⟩) ⟨gh, 0, none⟩ q cA (i64s (had.take q)) rfl rfl (by simp [i64s]; omega) HNW.out (i64s_one _) (by unfold maxLen; omega) (by omega) (by simp; have := HST.out.here; omega) ?_; intro A1 cap1 w8 hown hu4 hb4; simp only [Nat.zero_add, List.nil_append] at hown)
            have HU8 := Lib.hid (show Upd [] w7 w8 from ((Upd.refl _ _).alloc _).trans_new hu4 (by intro b hb; simp [blockOf] at hb; subst hb; exact .inr (Nat.le_refl _)))
            have HN8 := Lib.hid (show ∀ b ∈ blockOf A1, w7.heap.size ≤ b from fun b hb => (hb4 b hb).elim (fun h => by simp [blockOf] at h; omega) (fun h => by simp at h; omega))
            have HW8 := Lib.hid hown
            have HSB := Lib.hid (HST.out.thru (below_upd (Below.refl _ _) HU8.out (Nat.le_refl _) (by simp)))
            clear hown hu4 hb4 HSA HNW HS0
            have HNX := Lib.hid (show ∀ j u, (i64s (had.drop (q + 1)))[j]? = some u → w8.cell? ((if cA = q + 1 then (⟨gh, 0, none⟩ : Addr) else ⟨gh, q + 1, none⟩).add j) = some u by
              intro j u hu
              have hjl : j < had.length - (q + 1) := by have := (List.getElem?_eq_some_iff.1 hu).1; simp [i64s] at this; omega
              rw [if_neg (by omega)]
              obtain ⟨g, hga, hc, -⟩ := own_at HSB.out.own (j := q + 1 + j) (u := u) (by
                simp only [i64s, List.map_drop] at hu ⊢
                rwa [List.getElem?_drop] at hu)
              injection hga with hga
              injection hga with hga
              subst hga
              cases j <;> simpa [Addr.add] using hc)
            have HHW := Lib.hid (show (i64s (had.drop (q + 1))).length = had.length - (q + 1) by simp [i64s])
            have ewq : IntKind.i64.wrap ((q : Int) + 1) = (q : Int) + 1 := IntWalk.i64_in _ (by omega)
            go_upto_region 17 with (at_builtin; refine wpList_append_part (P := Try.prog) _ rfl (.tmp 85) (.tmp 89) 31 rfl B 2 i0 _ 1 8 Try.underlying31 hi0 hz0 hz1 hz2 rfl (by decide) A1 cap1 q (i64s (had.take q)) rfl HW8.out _ (if cA = q + 1 then (⟨gh, 0, none⟩ : Addr) else ⟨gh, q + 1, none⟩) (had.length - (q + 1)) (cA - (q + 1)) (i64s (had.drop (q + 1))) rfl (by split <;> rfl) (by rw [HHW.out]; omega) HNX.out (i64s_one _) (by unfold maxLen; omega) (by omega) (by have := HSB.out.here; omega) ?_; intro A2 cap2 w9 hown hu4 hb4)
            generalize (if cA = q + 1 then some (⟨gh, 0, none⟩ : Addr) else some ⟨gh, q + 1, none⟩) = zz
            have HU9 := Lib.hid (show Upd [] w7 w9 from HU8.out.trans_new hu4 fun b hb => .inr (HN8.out b hb))
            have HWW := Lib.hid (show w7.heap.size ≤ w8.heap.size from HU8.out.size)
            have hb79 : Below w7.heap.size w7 w9 := below_upd (Below.refl _ _) HU9.out (Nat.le_refl _) (by simp)
            have hdl : (had.take q ++ had.drop (q + 1)).length = q + (had.length - (q + 1)) := by simp; omega
            obtain ⟨hd, hhd⟩ : ∃ hd, had.take q ++ had.drop (q + 1) = hd := ⟨_, rfl⟩
            have HPM := Lib.hid (show had.Perm (x :: hd) by rw [← hhd, ← HXX.out]; exact perm_out had hql)
            have hown' : w9.ownsRow B 2 1 (.slice A2 hd.length cap2) hd.length (i64s hd) := by
              rw [← hhd, hdl]
              simpa [i64s] using hown
            rw [hhd] at hdl
            rw [← hdl]
            have HS2 := Lib.hid (HST.out.hads (A' := A2) (cA' := cap2) (had' := hd) (HU9.out.mono (by simp)) hown' (fun b hb => (hb4 b hb).elim (fun h => .inr (HN8.out b h)) (fun h => .inr (Nat.le_trans HWW.out h))))
            have HC2 := Lib.hid (HCB.out.thru hb79)
            have HO2 := Lib.hid (HOB.out.thru hb79)
            clear hown hown' hu4 hb4 HSB HNX HU8 HN8 HW8 HU9 HWW hb79 hdl hhd HHW ewq HST HCB HOB q0 q1 q2 q3 q4 q5 q6 q7
            have HST := HS2
            have HCB := HC2
            have HOB := HO2
            clear HS2 HC2 HO2
            obtain ⟨q0, q1, q2, q3, q4, q5, q6, q7⟩ := HCB.out.at8
            have HOK := Lib.hid (HPI.out.ok.perm HPM.out)
            go_upto_region 19 with fail
            have HD := Lib.hid (do_give HST.out.land HPI.out.sm (by have := HI.out; omega) (by omega) x HOK.out kind oat on L.epoch none)
            go_wp2_with fail
            refine HD.out.mono ?_
            rintro e w10 ⟨cs, nn, rfl, -, ⟨AR, eR, rfl, hoR, -, hwl⟩, hl, hu⟩
            have HWL := Lib.hid hwl
            have HWA := Lib.hid hu.size
            have HOR := Lib.hid hoR
            have HS2 := Lib.hid ((HST.out.more (Y := ob :: (ob + 1) :: blockOf AR) (by intro x hx; simp only [List.mem_cons] at hx; rcases hx with rfl | rfl | hx; exact .inl (by simp); exact .inl (by simp); exact .inr (.inr (own_lo hoR x hx)))).did hl hu)
            have HC2 := Lib.hid (HCB.out.upd hu (HST.out.not (Nat.le_succ_of_le HBO.out)))
            have HO2 := Lib.hid (HOB.out.upd hu (HST.out.not HBO.out))
            clear HD hl hu hoR hwl q0 q1 q2 q3 q4 q5 q6 q7 HST HCB HOB
            have HST := HS2
            have HCB := HC2
            have HOB := HO2
            clear HS2 HC2 HO2
            replace HOR := Lib.hid (show OwnR (w9).heap.size w10 AR eR _ from HOR.out)
            simp only [List.length_nil]
            replace HST := Lib.hid (HST.out.more (Y := (w10).heap.size :: ob :: (ob + 1) :: blockOf AR) (by intro x hx; simp only [List.mem_cons] at hx ⊢; rcases hx with rfl | rfl | rfl | hx; exact .inr (.inr (Nat.le_refl _)); exact .inl (by simp); exact .inl (by simp); exact .inl (by simp [hx])))
            replace HST := Lib.hid (HST.out.thru (below_alloc0 w10 (.cells #[.int .i64 0, .slice AR 0 eR, .bool false, .int .i64 0] 84)))
            replace HCB := Lib.hid (HCB.out.thru (below_alloc0 w10 (.cells #[.int .i64 0, .slice AR 0 eR, .bool false, .int .i64 0] 84)))
            replace HOB := Lib.hid (HOB.out.thru (below_alloc0 w10 (.cells #[.int .i64 0, .slice AR 0 eR, .bool false, .int .i64 0] 84)))
            replace HOR := Lib.hid (HOR.out.thru (below_alloc0 w10 (.cells #[.int .i64 0, .slice AR 0 eR, .bool false, .int .i64 0] 84)))
            have HRS := Lib.hid (Blk.new w10 84 #[.int .i64 0, .slice AR 0 eR, .bool false, .int .i64 0])
            go_upto_region 20 with fail
            have HZ := Lib.hid (World.size_alloc w10 (.cells #[.int .i64 0, .slice AR 0 eR, .bool false, .int .i64 0] 84))
            obtain ⟨rs, hrs⟩ : ∃ x, w10.heap.size = x := ⟨_, rfl⟩
            simp only [hrs] at HRS HZ ⊢
            replace hrs := Lib.hid hrs
            generalize w10.alloc (.cells #[.int .i64 0, .slice AR 0 eR, .bool false, .int .i64 0] 84) = w11 at *
            rw [hrs.out] at HST
            have HLX := Lib.hid (show ∀ x ∈ (rs :: ob :: (ob + 1) :: blockOf AR) ++ blockOf _, x < (w11).heap.size by
              intro x hx
              simp only [List.cons_append, List.mem_cons, List.mem_append] at hx
              rcases hx with rfl | rfl | rfl | hx | hx
              · exact HRS.out.lt
              · exact HOB.out.lt
              · exact HCB.out.lt
              · exact ownsRow_blockLt HOR.out x hx
              · exact ownsRow_blockLt HST.out.own x hx)
            clear HZ
            obtain ⟨r0, r1, r2, r3⟩ := HRS.out.at4
            obtain ⟨q0, q1, q2, q3, q4, q5, q6, q7⟩ := HCB.out.at8
            have HRK := Lib.hid (HPI.out.res HREL.out HN1.out.1)
            have HT := Lib.hid (ref19_give x B rb L ((rs :: ob :: (ob + 1) :: blockOf AR) ++ blockOf A2) w11 HST.out.ref HLX.out HRK.out.fl (by have := HRK.out.ll; have := HRK.out.gl; omega) (HPI.out.give_ok HREL.out (by omega) (by have := HN1.out.2; omega) (List.mem_append.2 (.inr (HPM.out.mem_iff.2 (by simp))))))
            go_wp2_with fail
            refine HT.out.mono ?_
            rintro e w12 ⟨rfl, hr, hof⟩
            have HS2 := Lib.hid (HST.out.refd hr hof)
            clear hr hof HT HST HRS r0 r1 r2 r3 q0 q1 q2 q3 q4 q5 q6 q7 HLX HOR HCB HOB
            have HST := HS2
            clear HS2
            go_upto_region 42 with fail
            have HPN := Lib.hid (HPI.out.give' HPM.out HREL.out HN1.out.1 (by have := HN1.out.2; omega))
            have HSM := Lib.hid (same19 lb m c a b N B rb (L.give x) _ w12 HST.out.land hNb.1 (by omega) (HPN.out.sm.small (by have := HI.out; omega)) HST.out.ref)
            go_wp2_with fail
            refine HSM.out.mono ?_
            rintro e w13 ⟨rfl, hb⟩
            have HS2 := Lib.hid ((HST.out.thru hb).more (Y := []) (by simp))
            clear hb HSM HST
            have HST := HS2
            clear HS2
            go_wp2
            go_roundw
            case rel => exact ⟨i + 1, _, A2, cap2, hd, L.epoch, by omega, rfl, by go_num, HST.out, by rw [show (1 : Int) + 400 * ((i + 1 : Nat) : Int) = 1 + 400 * i + 400 by omega]; exact HPN.out, by have := HI.out; omega, by have := HI.out; omega⟩
            case measure => simp [intOf]; omega
        -- K2
        · obtain ⟨o0, o1, o2⟩ := HOB.out.at3
          have fq4 := HCB.out.free 4
          by_cases hsk : (had.length : Int) ≤ oat
          · go_wp2
            go_roundw
            case rel => exact ⟨i + 1, L, A, cA, had, L.epoch, by omega, rfl, by go_num, HST.out.more (by simp), by rw [show (1 : Int) + 400 * ((i + 1 : Nat) : Int) = 1 + 400 * i + 400 by omega]; exact HPI.out.mono (by omega), by have := HI.out; omega, by have := HI.out; omega⟩
            case measure => simp [intOf]; omega
          · obtain ⟨q, hq⟩ : ∃ q : Nat, (had.length : Int) - 1 - oat = (q : Int) := ⟨((had.length : Int) - 1 - oat).toNat, by omega⟩
            have hql : q < had.length := by omega
            have hqi : (q : Int) < had.length := by omega
            have hlen : had.length ≤ 300 := by
              have h1 := ok_len HPI.out.ok (by have := HREL.out.gl; have := HN1.out.1; omega)
              have := HREL.out.gl
              have := HN1.out.1
              omega
            obtain ⟨gh, hgh, eh, -⟩ := own_at HST.out.own (i64s_at hql)
            subst hgh
            obtain ⟨x, hx⟩ : ∃ x, had.getD q 0 = x := ⟨_, rfl⟩
            rw [hx] at eh
            have HXX := Lib.hid hx
            have HHQ := Lib.hid hq
            clear hx
            go_upto_region 14 with fail
            have hux : Upd [ob + 1] w6 ((w6).setCell ⟨ob + 1, 4, none⟩ (.int .i64 x)) := (Upd.refl _ _).put (.inl (by simp)) _
            have HS2 := Lib.hid (HST.out.side hux (by simp) (Nat.le_succ_of_le HBO.out) (blk_notin HST.out.own HCB.out (by decide)))
            have HC2 := Lib.hid (show Blk ((w6).setCell ⟨ob + 1, 4, none⟩ (.int .i64 x)) (ob + 1) 91 #[.pointer (some ⟨lb, 0, none⟩), .int .u8 kind, .int .u8 oat, .int .u8 on, .int .i64 x, .int .i64 L.epoch, .pointer none, .int .u8 2] from HCB.out.put 4 _)
            have HO2 := Lib.hid (HOB.out.upd hux (by simp))
            clear hux HST HCB HOB q0 q1 q2 q3 q4 q5 q6 q7 fq
            generalize (w6).setCell ⟨ob + 1, 4, none⟩ (.int .i64 x) = w7 at *
            have HST := HS2
            have HCB := HC2
            have HOB := HO2
            clear HS2 HC2 HO2
            obtain ⟨q0, q1, q2, q3, q4, q5, q6, q7⟩ := HCB.out.at8
            clear eh hq fq4 o0 o1 o2
            have hcap := own_cap HST.out.own
            obtain ⟨i0, hi0, hz0, hz1, hz2⟩ := info_parts info_i64
            have hnew := heap_alloc_new w7 (.cells #[] 2)
            have HSA := Lib.hid (HST.out.thru (below_alloc0 w7 (.cells #[] 2)))
            have HNW := Lib.hid (show ∀ j u, (i64s (had.take q))[j]? = some u → (w7.alloc (.cells #[] 2)).cell? ((⟨gh, 0, none⟩ : Addr).add j) = some u by
              intro j u hu
              have hjl : j < q := by have := (List.getElem?_eq_some_iff.1 hu).1; simp [i64s] at this; omega
              obtain ⟨g, hga, hc, -⟩ := own_at HSA.out.own (j := j) (u := u) (by
                simp only [i64s, List.map_take] at hu ⊢
                rwa [List.getElem?_take_of_lt hjl] at hu)
              injection hga with hga
              injection hga with hga
              subst hga
              cases j <;> simpa [Addr.add] using hc)
            have HS0 := Lib.hid (show (w7.alloc (.cells #[] 2)).ownsRow B 2 1 (.slice (some ⟨w7.heap.size, 0, none⟩) 0 0) 0 [] from ⟨rfl, .inr ⟨w7.heap.size, 0, #[], rfl, HST.out.here, hnew, Nat.le_refl _, Nat.zero_le _, rfl, rfl⟩⟩)
            clear hnew
            go_upto_region 15 with (at_builtin; refine wpList_append_part (P := Try.prog) _ rfl (.tmp 80) (.tmp 83) 31 rfl B 2 i0 _ 1 8 Try.underlying31 hi0 hz0 hz1 hz2 rfl (by decide) (some ⟨w7.heap.size, 0, none⟩) 0 0 [] rfl HS0.out (some ⟨gh, 0, none⟩) ⟨gh, 0, none⟩ q cA (i64s (had.take q)) rfl rfl (by simp [i64s]; omega) HNW.out (i64s_one _) (by unfold maxLen; omega) (by omega) (by simp; have := HST.out.here; omega) ?_; intro A1 cap1 w8 hown hu4 hb4; simp only [Nat.zero_add, List.nil_append] at hown)
            have HU8 := Lib.hid (show Upd [] w7 w8 from ((Upd.refl _ _).alloc _).trans_new hu4 (by intro b hb; simp [blockOf] at hb; subst hb; exact .inr (Nat.le_refl _)))
            have HN8 := Lib.hid (show ∀ b ∈ blockOf A1, w7.heap.size ≤ b from fun b hb => (hb4 b hb).elim (fun h => by simp [blockOf] at h; omega) (fun h => by simp at h; omega))
            have HW8 := Lib.hid hown
            have HSB := Lib.hid (HST.out.thru (below_upd (Below.refl _ _) HU8.out (Nat.le_refl _) (by simp)))
            clear hown hu4 hb4 HSA HNW HS0
            have HNX := Lib.hid (show ∀ j u, (i64s (had.drop (q + 1)))[j]? = some u → w8.cell? ((if cA = q + 1 then (⟨gh, 0, none⟩ : Addr) else ⟨gh, q + 1, none⟩).add j) = some u by
              intro j u hu
              have hjl : j < had.length - (q + 1) := by have := (List.getElem?_eq_some_iff.1 hu).1; simp [i64s] at this; omega
              rw [if_neg (by omega)]
              obtain ⟨g, hga, hc, -⟩ := own_at HSB.out.own (j := q + 1 + j) (u := u) (by
                simp only [i64s, List.map_drop] at hu ⊢
                rwa [List.getElem?_drop] at hu)
              injection hga with hga
              injection hga with hga
              subst hga
              cases j <;> simpa [Addr.add] using hc)
            have HHW := Lib.hid (show (i64s (had.drop (q + 1))).length = had.length - (q + 1) by simp [i64s])
            have ewq : IntKind.i64.wrap ((q : Int) + 1) = (q : Int) + 1 := IntWalk.i64_in _ (by omega)
            go_upto_region 17 with (at_builtin; refine wpList_append_part (P := Try.prog) _ rfl (.tmp 85) (.tmp 89) 31 rfl B 2 i0 _ 1 8 Try.underlying31 hi0 hz0 hz1 hz2 rfl (by decide) A1 cap1 q (i64s (had.take q)) rfl HW8.out _ (if cA = q + 1 then (⟨gh, 0, none⟩ : Addr) else ⟨gh, q + 1, none⟩) (had.length - (q + 1)) (cA - (q + 1)) (i64s (had.drop (q + 1))) rfl (by split <;> rfl) (by rw [HHW.out]; omega) HNX.out (i64s_one _) (by unfold maxLen; omega) (by omega) (by have := HSB.out.here; omega) ?_; intro A2 cap2 w9 hown hu4 hb4)
            generalize (if cA = q + 1 then some (⟨gh, 0, none⟩ : Addr) else some ⟨gh, q + 1, none⟩) = zz
            have HU9 := Lib.hid (show Upd [] w7 w9 from HU8.out.trans_new hu4 fun b hb => .inr (HN8.out b hb))
            have HWW := Lib.hid (show w7.heap.size ≤ w8.heap.size from HU8.out.size)
            have hb79 : Below w7.heap.size w7 w9 := below_upd (Below.refl _ _) HU9.out (Nat.le_refl _) (by simp)
            have hdl : (had.take q ++ had.drop (q + 1)).length = q + (had.length - (q + 1)) := by simp; omega
            obtain ⟨hd, hhd⟩ : ∃ hd, had.take q ++ had.drop (q + 1) = hd := ⟨_, rfl⟩
            have HPM := Lib.hid (show had.Perm (x :: hd) by rw [← hhd, ← HXX.out]; exact perm_out had hql)
            have hown' : w9.ownsRow B 2 1 (.slice A2 hd.length cap2) hd.length (i64s hd) := by
              rw [← hhd, hdl]
              simpa [i64s] using hown
            rw [hhd] at hdl
            rw [← hdl]
            have HS2 := Lib.hid (HST.out.hads (A' := A2) (cA' := cap2) (had' := hd) (HU9.out.mono (by simp)) hown' (fun b hb => (hb4 b hb).elim (fun h => .inr (HN8.out b h)) (fun h => .inr (Nat.le_trans HWW.out h))))
            have HC2 := Lib.hid (HCB.out.thru hb79)
            have HO2 := Lib.hid (HOB.out.thru hb79)
            clear hown hown' hu4 hb4 HSB HNX HU8 HN8 HW8 HU9 HWW hb79 hdl hhd HHW ewq HST HCB HOB q0 q1 q2 q3 q4 q5 q6 q7
            have HST := HS2
            have HCB := HC2
            have HOB := HO2
            clear HS2 HC2 HO2
            obtain ⟨q0, q1, q2, q3, q4, q5, q6, q7⟩ := HCB.out.at8
            have HOK := Lib.hid (HPI.out.ok.perm HPM.out)
            have HRK := Lib.hid (HPI.out.res HREL.out HN1.out.1)
            have HGO := Lib.hid (HPI.out.give_ok HREL.out (by omega) (by have := HN1.out.2; omega) (List.mem_append.2 (.inr (HPM.out.mem_iff.2 (show x ∈ x :: hd by simp)))))
            have HRL := Lib.hid (show L.ring.length < N by
              have h1 := ok_len HPI.out.ok (by have := HREL.out.gl; have := HN1.out.1; omega)
              have h2 := HREL.out.gl
              omega)
            have heb : 0 ≤ L.epoch ∧ L.epoch ≤ 60 := by have := HI.out; omega
            have HPUT := Lib.hid (show -100000000000 < L.put ∧ L.put < 100000000000 by
              have h1 := HREL.out.po
              have h2 := HREL.out.o0
              have h3 := HPI.out.sm.2.1
              have h4 := HN1.out.2
              omega)
            go_upto_region 19 with fail
            have HD := Lib.hid (do_retire HST.out.land HPI.out.sm (by have := HI.out; omega) hNb.1 (by omega) x L.epoch (WfI.of ⟨by have := HGO.out.1; omega, by have := HGO.out.2.1; omega⟩) (WfI.of ⟨by omega, by omega⟩) HRL.out kind oat on none)
            go_wp2_with fail
            refine HD.out.mono ?_
            rintro e w10 ⟨cs, nn, rfl, -, ⟨AR, eR, rfl, hoR, -, hwl⟩, hl, hu⟩
            have HWL := Lib.hid hwl
            have HWA := Lib.hid hu.size
            have HOR := Lib.hid hoR
            have HS2 := Lib.hid ((HST.out.more (Y := ob :: (ob + 1) :: blockOf AR) (by intro x hx; simp only [List.mem_cons] at hx; rcases hx with rfl | rfl | hx; exact .inl (by simp); exact .inl (by simp); exact .inr (.inr (own_lo hoR x hx)))).did hl hu)
            have HC2 := Lib.hid (HCB.out.upd hu (HST.out.not (Nat.le_succ_of_le HBO.out)))
            have HO2 := Lib.hid (HOB.out.upd hu (HST.out.not HBO.out))
            clear HD hl hu hoR hwl q0 q1 q2 q3 q4 q5 q6 q7 HST HCB HOB
            have HST := HS2
            have HCB := HC2
            have HOB := HO2
            clear HS2 HC2 HO2
            replace HOR := Lib.hid (show OwnR (w9).heap.size w10 AR eR _ from HOR.out)
            simp only [List.length_nil]
            replace HST := Lib.hid (HST.out.more (Y := (w10).heap.size :: ob :: (ob + 1) :: blockOf AR) (by intro x hx; simp only [List.mem_cons] at hx ⊢; rcases hx with rfl | rfl | rfl | hx; exact .inr (.inr (Nat.le_refl _)); exact .inl (by simp); exact .inl (by simp); exact .inl (by simp [hx])))
            replace HST := Lib.hid (HST.out.thru (below_alloc0 w10 (.cells #[.int .i64 0, .slice AR 0 eR, .bool false, .int .i64 0] 84)))
            replace HCB := Lib.hid (HCB.out.thru (below_alloc0 w10 (.cells #[.int .i64 0, .slice AR 0 eR, .bool false, .int .i64 0] 84)))
            replace HOB := Lib.hid (HOB.out.thru (below_alloc0 w10 (.cells #[.int .i64 0, .slice AR 0 eR, .bool false, .int .i64 0] 84)))
            replace HOR := Lib.hid (HOR.out.thru (below_alloc0 w10 (.cells #[.int .i64 0, .slice AR 0 eR, .bool false, .int .i64 0] 84)))
            have HRS := Lib.hid (Blk.new w10 84 #[.int .i64 0, .slice AR 0 eR, .bool false, .int .i64 0])
            go_upto_region 20 with fail
            have HZ := Lib.hid (World.size_alloc w10 (.cells #[.int .i64 0, .slice AR 0 eR, .bool false, .int .i64 0] 84))
            obtain ⟨rs, hrs⟩ : ∃ x, w10.heap.size = x := ⟨_, rfl⟩
            simp only [hrs] at HRS HZ ⊢
            replace hrs := Lib.hid hrs
            generalize w10.alloc (.cells #[.int .i64 0, .slice AR 0 eR, .bool false, .int .i64 0] 84) = w11 at *
            rw [hrs.out] at HST
            have HLX := Lib.hid (show ∀ x ∈ (rs :: ob :: (ob + 1) :: blockOf AR) ++ blockOf _, x < (w11).heap.size by
              intro x hx
              simp only [List.cons_append, List.mem_cons, List.mem_append] at hx
              rcases hx with rfl | rfl | rfl | hx | hx
              · exact HRS.out.lt
              · exact HOB.out.lt
              · exact HCB.out.lt
              · exact ownsRow_blockLt HOR.out x hx
              · exact ownsRow_blockLt HST.out.own x hx)
            clear HZ
            obtain ⟨r0, r1, r2, r3⟩ := HRS.out.at4
            obtain ⟨q0, q1, q2, q3, q4, q5, q6, q7⟩ := HCB.out.at8
            have HT := Lib.hid (ref19_retire x L.epoch B rb L ((rs :: ob :: (ob + 1) :: blockOf AR) ++ blockOf A2) w11 HST.out.ref HLX.out HRK.out.rl HPUT.out)
            go_wp2_with fail
            refine HT.out.mono ?_
            rintro e w12 ⟨rfl, hr, hof⟩
            have HS2 := Lib.hid (HST.out.refd hr hof)
            clear hr hof HT HST HRS r0 r1 r2 r3 q0 q1 q2 q3 q4 q5 q6 q7 HLX HOR HCB HOB
            have HST := HS2
            clear HS2
            go_upto_region 42 with fail
            have HPN := Lib.hid (HPI.out.retire' HPM.out (by omega))
            have HSM := Lib.hid (same19 lb m c a b N B rb (L.retire x L.epoch) _ w12 HST.out.land hNb.1 (by omega) (HPN.out.sm.small (by have := HI.out; omega)) HST.out.ref)
            go_wp2_with fail
            refine HSM.out.mono ?_
            rintro e w13 ⟨rfl, hb⟩
            have HS2 := Lib.hid ((HST.out.thru hb).more (Y := []) (by simp))
            clear hb HSM HST
            have HST := HS2
            clear HS2
            go_wp2
            go_roundw
            case rel => exact ⟨i + 1, _, A2, cap2, hd, L.epoch, by omega, rfl, by go_num, HST.out, by rw [show (1 : Int) + 400 * ((i + 1 : Nat) : Int) = 1 + 400 * i + 400 by omega]; exact HPN.out, by have := HI.out; omega, by have := HI.out; omega⟩
            case measure => simp [intOf]; omega
        -- K3
        · obtain ⟨q, rfl⟩ := Int.eq_ofNat_of_zero_le n0
          have hq : q ≤ 255 := by omega
          have HRK := Lib.hid (HPI.out.res HREL.out HN1.out.1)
          have HFL := Lib.hid (show L.free.length ≤ 300 from Nat.le_trans (nodup_le _ _ HREL.out.nodup fun s hs => ⟨(HREL.out.fr s hs).1, (HREL.out.fr s hs).2.1⟩) HN1.out.1)
          obtain ⟨ro, hro⟩ : ∃ ro, LS.reserveGo q [] L = ro := ⟨_, rfl⟩
          obtain ⟨xs, hxs⟩ : ∃ xs, ro.1.getD [] = xs := ⟨_, rfl⟩
          obtain ⟨sb, hsb⟩ : ∃ sb, ro.1.isSome = sb := ⟨_, rfl⟩
          have HRO := Lib.hid hro
          have HXS := Lib.hid hxs
          have HSB := Lib.hid hsb
          have HSZ := Lib.hid (show sb = decide (xs.length = q) by
            have := reserve_size HRK.out (by have := HN1.out.2; have := HFL.out; omega) q
            rw [hro, hsb, hxs] at this
            exact this)
          have HPR := Lib.hid (show PI ro.2 (had ++ xs) L.epoch (1 + 400 * (i : Int) + 400) by
            have := HPI.out.reserve' HREL.out HN1.out.1 (by have := HN1.out.2; omega) hq
            rw [hro, hxs] at this
            exact this)
          clear hro hxs hsb
          go_upto_region 19 with fail
          have HD := Lib.hid (do_reserve HST.out.land HPI.out.sm (by have := HI.out; omega) HN1.out.1 HPI.out.ok q hq HFL.out kind oat 0 L.epoch none)
          go_wp2_with fail
          refine HD.out.mono ?_
          rintro e w8 ⟨cs, nn, rfl, -, ⟨AR, eR, rfl, hoR, -, hwl⟩, hl, hu⟩
          have HWL := Lib.hid hwl
          have HWA := Lib.hid hu.size
          have HOR := Lib.hid hoR
          have HS2 := Lib.hid ((HST.out.more (Y := ob :: (ob + 1) :: blockOf AR) (by intro x hx; simp only [List.mem_cons] at hx; rcases hx with rfl | rfl | hx; exact .inl (by simp); exact .inl (by simp); exact .inr (.inr (own_lo hoR x hx)))).did hl hu)
          have HC2 := Lib.hid (HCB.out.upd hu (HST.out.not (Nat.le_succ_of_le HBO.out)))
          have HO2 := Lib.hid (HOB.out.upd hu (HST.out.not HBO.out))
          clear HD hl hu hoR hwl q0 q1 q2 q3 q4 q5 q6 q7 HST HCB HOB
          have HST := HS2
          have HCB := HC2
          have HOB := HO2
          clear HS2 HC2 HO2
          replace HOR := Lib.hid (show OwnR (w6).heap.size w8 AR eR _ from HOR.out)
          simp only [HRO.out, HXS.out, HSB.out] at HST HOR HWL ⊢
          replace HST := Lib.hid (HST.out.more (Y := (w8).heap.size :: ob :: (ob + 1) :: blockOf AR) (by intro x hx; simp only [List.mem_cons] at hx ⊢; rcases hx with rfl | rfl | rfl | hx; exact .inr (.inr (Nat.le_refl _)); exact .inl (by simp); exact .inl (by simp); exact .inl (by simp [hx])))
          replace HST := Lib.hid (HST.out.thru (below_alloc0 w8 (.cells #[.int .i64 0, .slice AR xs.length eR, .bool sb, .int .i64 0] 84)))
          replace HCB := Lib.hid (HCB.out.thru (below_alloc0 w8 (.cells #[.int .i64 0, .slice AR xs.length eR, .bool sb, .int .i64 0] 84)))
          replace HOB := Lib.hid (HOB.out.thru (below_alloc0 w8 (.cells #[.int .i64 0, .slice AR xs.length eR, .bool sb, .int .i64 0] 84)))
          replace HOR := Lib.hid (HOR.out.thru (below_alloc0 w8 (.cells #[.int .i64 0, .slice AR xs.length eR, .bool sb, .int .i64 0] 84)))
          have HRS := Lib.hid (Blk.new w8 84 #[.int .i64 0, .slice AR xs.length eR, .bool sb, .int .i64 0])
          go_upto_region 20 with fail
          have HZ := Lib.hid (World.size_alloc w8 (.cells #[.int .i64 0, .slice AR xs.length eR, .bool sb, .int .i64 0] 84))
          obtain ⟨rs, hrs⟩ : ∃ x, w8.heap.size = x := ⟨_, rfl⟩
          simp only [hrs] at HRS HZ ⊢
          replace hrs := Lib.hid hrs
          generalize w8.alloc (.cells #[.int .i64 0, .slice AR xs.length eR, .bool sb, .int .i64 0] 84) = w9 at *
          rw [hrs.out] at HST
          have HLX := Lib.hid (show ∀ x ∈ (rs :: ob :: (ob + 1) :: blockOf AR) ++ blockOf _, x < (w9).heap.size by
            intro x hx
            simp only [List.cons_append, List.mem_cons, List.mem_append] at hx
            rcases hx with rfl | rfl | rfl | hx | hx
            · exact HRS.out.lt
            · exact HOB.out.lt
            · exact HCB.out.lt
            · exact ownsRow_blockLt HOR.out x hx
            · exact ownsRow_blockLt HST.out.own x hx)
          clear HZ
          obtain ⟨r0, r1, r2, r3⟩ := HRS.out.at4
          obtain ⟨q0, q1, q2, q3, q4, q5, q6, q7⟩ := HCB.out.at8
          have HT := Lib.hid (ref19_reserve q hq (1 + 400 * i) (by have := HN1.out.2; omega) B rb L ((rs :: ob :: (ob + 1) :: blockOf AR) ++ blockOf A) w9 HST.out.ref HLX.out HST.out.here HRK.out)
          obtain ⟨o0, o1, o2⟩ := HOB.out.at3
          go_wp2_with fail
          refine HT.out.mono ?_
          rintro e w10 ⟨A2, c2, rfl, hbs⟩
          rw [HRO.out, HXS.out] at hbs
          simp only [HRO.out, HXS.out]
          have HOW := Lib.hid hbs.own
          have HS2 := Lib.hid (HST.out.refd (hbs.ref.more (fun b hb => .inl (List.mem_append.2 (.inr hb)))) hbs.off)
          have HR2 := Lib.hid (hbs.off.blk HRS.out (by simp))
          have HO2 := Lib.hid (hbs.off.blk HOB.out (by simp))
          have HOR2 := Lib.hid (OwnR.off HOR.out hbs.off (fun b hb => by simp [hb]))
          clear o0 o1 o2 hbs HT HST HRS HOB HCB HOR r0 r1 r2 r3 q0 q1 q2 q3 q4 q5 q6 q7 HLX
          have HST := HS2
          clear HS2
          obtain ⟨r0, r1, r2, r3⟩ := HR2.out.at4
          have HSM0 := ref15_same AR A2 xs.length xs.length eR c2 xs xs w10 (ints_own HOR2.out rfl HWL.out) (ints_own HOW.out rfl HWL.out)
          rw [decide_eq_true rfl] at HSM0
          have HSM1 := Lib.hid HSM0
          clear HSM0
          go_wp2_with fail
          refine HSM1.out.mono ?_
          rintro e w11 ⟨rfl, nq, rfl⟩
          have HST2 := Lib.hid (HST.out.thru (below_drewN0 w10 nq))
          have HR3 := Lib.hid (HR2.out.drewN nq)
          have HO3 := Lib.hid (HO2.out.drewN nq)
          have HOW3 := Lib.hid (ownsRow_upd HOW.out (Upd.of_below (below_drewN0 w10 nq) (F := [])) (by simp))
          clear HSM1 HST HR2 HO2 HOW HOR2 r0 r1 r2 r3
          generalize w10.drewN nq = w11 at *
          have HST := HST2
          clear HST2
          obtain ⟨r0, r1, r2, r3⟩ := HR3.out.at4
          obtain ⟨o0, o1, o2⟩ := HO3.out.at3
          have HHL := Lib.hid (show had.length ≤ 300 by
            have h1 := ok_len HPI.out.ok (by have := HREL.out.gl; have := HN1.out.1; omega)
            have := HREL.out.gl
            have := HN1.out.1
            omega)
          have HXL := Lib.hid (show xs.length ≤ 300 by
            have h1 := HPR.out.ok.nd
            have h2 := HSZ.out
            by_cases h3 : xs.length = q
            · omega
            · have h4 := reserve_size HRK.out (by have := HN1.out.2; have := HFL.out; omega) q
              rw [HRO.out] at h4
              have h5 : ro.1 = none := by
                cases hr1 : ro.1 with
                | none => rfl
                | some y =>
                  have h6 := HXS.out
                  rw [hr1] at h4 h6
                  simp only [Option.getD_some] at h4 h6
                  rw [h6, decide_eq_false h3] at h4
                  cases h4
              have h6 := HXS.out
              rw [h5] at h6
              simp only [Option.getD_none] at h6
              rw [← h6]
              simp)
          obtain ⟨i0, hi0, hz0, hz1, hz2⟩ := info_parts info_i64
          have hhl := HHL.out
          have hxl := HXL.out
          have HCP := Lib.hid (own_cap HST.out.own)
          by_cases hlq : xs.length = q
          · subst hlq
            obtain rfl : sb = true := by rw [HSZ.out]; simp
            go_upto_region 38 with fail
            cases A2 with
            | none =>
              obtain ⟨hx0, hc0⟩ := own_none HOW3.out
              obtain rfl := List.eq_nil_of_length_eq_zero hx0
              subst hc0
              simp only [List.length_nil]
              go_upto_region 42 with (at_builtin; refine wpList_append_none (P := Try.prog) _ rfl (.tmp 169) (.tmp 170) 31 rfl 2 i0 Try.underlying31 hi0 A had.length cA 0 rfl HCP.out.1 rfl ?_)
              rw [List.append_nil] at HPR
              clear HR3 HO3 HOW3 r0 r1 r2 r3 o0 o1 o2
              have HPN := Lib.hid (HPR.out)
              have HSM := Lib.hid (same19 lb m c a b N B rb ro.2 _ w11 HST.out.land hNb.1 (by omega) (HPN.out.sm.small (by have := HI.out; omega)) HST.out.ref)
              go_wp2_with fail
              refine HSM.out.mono ?_
              rintro e w12 ⟨rfl, hb⟩
              have HS2 := Lib.hid ((HST.out.thru hb).more (Y := []) (by simp))
              clear hb HSM HST
              have HST := HS2
              clear HS2
              go_wp2
              go_roundw
              case rel => exact ⟨i + 1, _, A, cA, had, L.epoch, by omega, rfl, by go_num, HST.out, by rw [show (1 : Int) + 400 * ((i + 1 : Nat) : Int) = 1 + 400 * i + 400 by omega]; exact HPN.out, by have := HI.out; omega, by have := HI.out; omega⟩
              case measure => simp [intOf]; omega
            | some a2 =>
              obtain ⟨g2, rfl⟩ := own_someG HOW3.out
              have HNW := Lib.hid (show ∀ j u, (i64s xs)[j]? = some u → w11.cell? ((⟨g2, 0, none⟩ : Addr).add j) = some u by
                intro j u hu
                obtain ⟨g, hga, hc, -⟩ := own_at HOW3.out hu
                injection hga with hga
                injection hga with hga
                subst hga
                cases j <;> simpa [Addr.add] using hc)
              go_upto_region 42 with (at_builtin; refine wpList_append_part (P := Try.prog) _ rfl (.tmp 169) (.tmp 170) 31 rfl B 2 i0 _ 1 8 Try.underlying31 hi0 hz0 hz1 hz2 rfl (by decide) A cA had.length (i64s had) rfl HST.out.own (some ⟨g2, 0, none⟩) ⟨g2, 0, none⟩ xs.length c2 (i64s xs) rfl rfl (by simp [i64s]) HNW.out (i64s_one _) (by unfold maxLen; omega) (by omega) HST.out.here ?_; intro A' cap' w12 hown hu4 hb4)
              have HS3 := Lib.hid (HST.out.hads (A' := A') (cA' := cap') (had' := had ++ xs) hu4 (by simpa [i64s] using hown) hb4)
              clear hown hu4 hb4 HST HR3 HO3 HOW3 HNW r0 r1 r2 r3 o0 o1 o2
              have HST := HS3
              clear HS3
              have HPN := Lib.hid (HPR.out)
              have HSM := Lib.hid (same19 lb m c a b N B rb ro.2 _ w12 HST.out.land hNb.1 (by omega) (HPN.out.sm.small (by have := HI.out; omega)) HST.out.ref)
              go_wp2_with fail
              refine HSM.out.mono ?_
              rintro e w13 ⟨rfl, hb⟩
              have HS2 := Lib.hid ((HST.out.thru hb).more (Y := []) (by simp))
              clear hb HSM HST
              have HST := HS2
              clear HS2
              go_wp2
              go_roundw
              case rel => exact ⟨i + 1, _, A', cap', had ++ xs, L.epoch, by omega, by simp, by go_num, HST.out, by rw [show (1 : Int) + 400 * ((i + 1 : Nat) : Int) = 1 + 400 * i + 400 by omega]; exact HPN.out, by have := HI.out; omega, by have := HI.out; omega⟩
              case measure => simp [intOf]; omega
          · have hne : ((xs.length : Int) == (q : Int)) = false := by rw [beq_eq_false_iff_ne]; omega
            obtain rfl : sb = false := by rw [HSZ.out]; simp [hlq]
            go_upto_region 38 with fail
            cases A2 with
            | none =>
              obtain ⟨hx0, hc0⟩ := own_none HOW3.out
              obtain rfl := List.eq_nil_of_length_eq_zero hx0
              subst hc0
              simp only [List.length_nil]
              go_upto_region 42 with (at_builtin; refine wpList_append_none (P := Try.prog) _ rfl (.tmp 169) (.tmp 170) 31 rfl 2 i0 Try.underlying31 hi0 A had.length cA 0 rfl HCP.out.1 rfl ?_)
              rw [List.append_nil] at HPR
              clear HR3 HO3 HOW3 r0 r1 r2 r3 o0 o1 o2
              have HPN := Lib.hid (HPR.out)
              have HSM := Lib.hid (same19 lb m c a b N B rb ro.2 _ w11 HST.out.land hNb.1 (by omega) (HPN.out.sm.small (by have := HI.out; omega)) HST.out.ref)
              go_wp2_with fail
              refine HSM.out.mono ?_
              rintro e w12 ⟨rfl, hb⟩
              have HS2 := Lib.hid ((HST.out.thru hb).more (Y := []) (by simp))
              clear hb HSM HST
              have HST := HS2
              clear HS2
              go_wp2
              go_roundw
              case rel => exact ⟨i + 1, _, A, cA, had, L.epoch, by omega, rfl, by go_num, HST.out, by rw [show (1 : Int) + 400 * ((i + 1 : Nat) : Int) = 1 + 400 * i + 400 by omega]; exact HPN.out, by have := HI.out; omega, by have := HI.out; omega⟩
              case measure => simp [intOf]; omega
            | some a2 =>
              obtain ⟨g2, rfl⟩ := own_someG HOW3.out
              have HNW := Lib.hid (show ∀ j u, (i64s xs)[j]? = some u → w11.cell? ((⟨g2, 0, none⟩ : Addr).add j) = some u by
                intro j u hu
                obtain ⟨g, hga, hc, -⟩ := own_at HOW3.out hu
                injection hga with hga
                injection hga with hga
                subst hga
                cases j <;> simpa [Addr.add] using hc)
              go_upto_region 42 with (at_builtin; refine wpList_append_part (P := Try.prog) _ rfl (.tmp 169) (.tmp 170) 31 rfl B 2 i0 _ 1 8 Try.underlying31 hi0 hz0 hz1 hz2 rfl (by decide) A cA had.length (i64s had) rfl HST.out.own (some ⟨g2, 0, none⟩) ⟨g2, 0, none⟩ xs.length c2 (i64s xs) rfl rfl (by simp [i64s]) HNW.out (i64s_one _) (by unfold maxLen; omega) (by omega) HST.out.here ?_; intro A' cap' w12 hown hu4 hb4)
              have HS3 := Lib.hid (HST.out.hads (A' := A') (cA' := cap') (had' := had ++ xs) hu4 (by simpa [i64s] using hown) hb4)
              clear hown hu4 hb4 HST HR3 HO3 HOW3 HNW r0 r1 r2 r3 o0 o1 o2
              have HST := HS3
              clear HS3
              have HPN := Lib.hid (HPR.out)
              have HSM := Lib.hid (same19 lb m c a b N B rb ro.2 _ w12 HST.out.land hNb.1 (by omega) (HPN.out.sm.small (by have := HI.out; omega)) HST.out.ref)
              go_wp2_with fail
              refine HSM.out.mono ?_
              rintro e w13 ⟨rfl, hb⟩
              have HS2 := Lib.hid ((HST.out.thru hb).more (Y := []) (by simp))
              clear hb HSM HST
              have HST := HS2
              clear HS2
              go_wp2
              go_roundw
              case rel => exact ⟨i + 1, _, A', cap', had ++ xs, L.epoch, by omega, by simp, by go_num, HST.out, by rw [show (1 : Int) + 400 * ((i + 1 : Nat) : Int) = 1 + 400 * i + 400 by omega]; exact HPN.out, by have := HI.out; omega, by have := HI.out; omega⟩
              case measure => simp [intOf]; omega
        -- K4
        · obtain ⟨q, rfl⟩ := Int.eq_ofNat_of_zero_le n0
          have hq : q ≤ 255 := by omega
          go_upto_region 19 with fail
          have HD := Lib.hid (do_reclaim HST.out.land HPI.out.sm (by have := HI.out; omega) hNb.1 (by omega) HPI.out.ok q hq kind oat 0 L.epoch none)
          go_wp2_with fail
          refine HD.out.mono ?_
          rintro e w8 ⟨cs, nn, rfl, -, ⟨AR, eR, rfl, hoR, -, hwl⟩, hl, hu⟩
          have HWL := Lib.hid hwl
          have HWA := Lib.hid hu.size
          have HOR := Lib.hid hoR
          have HS2 := Lib.hid ((HST.out.more (Y := ob :: (ob + 1) :: blockOf AR) (by intro x hx; simp only [List.mem_cons] at hx; rcases hx with rfl | rfl | hx; exact .inl (by simp); exact .inl (by simp); exact .inr (.inr (own_lo hoR x hx)))).did hl hu)
          have HC2 := Lib.hid (HCB.out.upd hu (HST.out.not (Nat.le_succ_of_le HBO.out)))
          have HO2 := Lib.hid (HOB.out.upd hu (HST.out.not HBO.out))
          clear HD hl hu hoR hwl q0 q1 q2 q3 q4 q5 q6 q7 HST HCB HOB
          have HST := HS2
          have HCB := HC2
          have HOB := HO2
          clear HS2 HC2 HO2
          replace HOR := Lib.hid (show OwnR (w6).heap.size w8 AR eR _ from HOR.out)
          simp only [List.length_nil]
          obtain ⟨ro, hro⟩ : ∃ ro, LS.reclaimGo q 0 L = ro := ⟨_, rfl⟩
          rw [hro] at HST
          simp only [hro]
          have HRO := Lib.hid hro
          clear hro
          replace HST := Lib.hid (HST.out.more (Y := (w8).heap.size :: ob :: (ob + 1) :: blockOf AR) (by intro x hx; simp only [List.mem_cons] at hx ⊢; rcases hx with rfl | rfl | rfl | hx; exact .inr (.inr (Nat.le_refl _)); exact .inl (by simp); exact .inl (by simp); exact .inl (by simp [hx])))
          replace HST := Lib.hid (HST.out.thru (below_alloc0 w8 (.cells #[.int .i64 0, .slice AR 0 eR, .bool false, .int .i64 (ro.1 : Nat)] 84)))
          replace HCB := Lib.hid (HCB.out.thru (below_alloc0 w8 (.cells #[.int .i64 0, .slice AR 0 eR, .bool false, .int .i64 (ro.1 : Nat)] 84)))
          replace HOB := Lib.hid (HOB.out.thru (below_alloc0 w8 (.cells #[.int .i64 0, .slice AR 0 eR, .bool false, .int .i64 (ro.1 : Nat)] 84)))
          replace HOR := Lib.hid (HOR.out.thru (below_alloc0 w8 (.cells #[.int .i64 0, .slice AR 0 eR, .bool false, .int .i64 (ro.1 : Nat)] 84)))
          have HRS := Lib.hid (Blk.new w8 84 #[.int .i64 0, .slice AR 0 eR, .bool false, .int .i64 (ro.1 : Nat)])
          go_upto_region 20 with fail
          have HZ := Lib.hid (World.size_alloc w8 (.cells #[.int .i64 0, .slice AR 0 eR, .bool false, .int .i64 (ro.1 : Nat)] 84))
          obtain ⟨rs, hrs⟩ : ∃ x, w8.heap.size = x := ⟨_, rfl⟩
          simp only [hrs] at HRS HZ ⊢
          replace hrs := Lib.hid hrs
          generalize w8.alloc (.cells #[.int .i64 0, .slice AR 0 eR, .bool false, .int .i64 (ro.1 : Nat)] 84) = w9 at *
          rw [hrs.out] at HST
          have HLX := Lib.hid (show ∀ x ∈ (rs :: ob :: (ob + 1) :: blockOf AR) ++ blockOf _, x < (w9).heap.size by
            intro x hx
            simp only [List.cons_append, List.mem_cons, List.mem_append] at hx
            rcases hx with rfl | rfl | rfl | hx | hx
            · exact HRS.out.lt
            · exact HOB.out.lt
            · exact HCB.out.lt
            · exact ownsRow_blockLt HOR.out x hx
            · exact ownsRow_blockLt HST.out.own x hx)
          clear HZ
          obtain ⟨r0, r1, r2, r3⟩ := HRS.out.at4
          obtain ⟨q0, q1, q2, q3, q4, q5, q6, q7⟩ := HCB.out.at8
          have HRE := Lib.hid (HPI.out.recOk HREL.out HN1.out.1 (by have := HN1.out.2; omega))
          have HT := Lib.hid (fun (wx : World) (hb : Below w9.heap.size w9 wx) => ref19_reclaim q hq B rb L ((rs :: ob :: (ob + 1) :: blockOf AR) ++ blockOf A) wx (HST.out.thru hb).ref (fun x hx => Nat.lt_of_lt_of_le (HLX.out x hx) hb.size) HRE.out (WfI.of ⟨by have := HI.out; omega, by have := HI.out; omega⟩))
          rw [HRO.out] at HT
          obtain ⟨o0, o1, o2⟩ := HOB.out.at3
          have HBD := Lib.hid (show Below w9.heap.size w9 w9.drew from below_drewN0 w9 1)
          go_upto_region 40 with fail
          have ewq : IntKind.i64.wrap (q : Int) = (q : Int) := IntWalk.i64_in _ (by omega)
          refine wp_region_H (fun x => x.cell? ⟨rs, 3, none⟩ = some (.int .i64 (ro.1 : Nat)) ∧ x.cell? ⟨ob, 2, none⟩ = some (.int .u8 (q : Nat))) 8 (by rfl) (by kernel_rfl) ?_
          have hS : (fun x : World => x.cell? ⟨rs, 3, none⟩ = some (.int .i64 (ro.1 : Nat)) ∧ x.cell? ⟨ob, 2, none⟩ = some (.int .u8 (q : Nat))) w9.drew := ⟨r3, o2⟩
          try simp only [Array.replicate, List.replicate, List.setIfInBounds_toArray]
          refine wpAnyH_takes (i := 0) (d := 174) (v := ?_) rfl rfl (by kernel_rfl) (fun _ _ _ h => h) (Or.inl ⟨by rfl, ?_⟩) hS ?_
          rotate_left
          · intro wq hq; (try dsimp only at hq); obtain ⟨hq1, hq2⟩ := hq; go_simp; try with_reducible rfl
          simp only [List.setIfInBounds_toArray, List.set_cons_zero, List.set_cons_succ]
          refine wpAnyH_takes (i := 1) (d := 175) (v := ?_) rfl rfl (by kernel_rfl) (fun _ _ _ h => h) (Or.inl ⟨by rfl, ?_⟩) hS ?_
          rotate_left
          · intro wq hq; (try dsimp only at hq); obtain ⟨hq1, hq2⟩ := hq; go_simp; try with_reducible rfl
          simp only [List.setIfInBounds_toArray, List.set_cons_zero, List.set_cons_succ]
          refine wpAnyH_takes (i := 2) (d := 176) (v := ?_) rfl rfl (by kernel_rfl) (fun _ _ _ h => h) (Or.inl ⟨by rfl, ?_⟩) hS ?_
          rotate_left
          · intro wq hq; (try dsimp only at hq); obtain ⟨hq1, hq2⟩ := hq; go_simp; try with_reducible rfl
          simp only [List.setIfInBounds_toArray, List.set_cons_zero, List.set_cons_succ]
          refine wpAnyH_takes (i := 3) (d := 177) (v := ?_) rfl rfl (by kernel_rfl) (fun _ _ _ h => h) (Or.inl ⟨by rfl, ?_⟩) hS ?_
          rotate_left
          · intro wq hq; (try dsimp only at hq); obtain ⟨hq1, hq2⟩ := hq; go_simp; try with_reducible rfl
          simp only [List.setIfInBounds_toArray, List.set_cons_zero, List.set_cons_succ]
          refine wpAnyH_takes (i := 4) (d := 178) (v := ?_) rfl rfl (by kernel_rfl) (fun _ _ _ h => h) (Or.inl ⟨by rfl, ?_⟩) hS ?_
          rotate_left
          · intro wq hq; (try dsimp only at hq); obtain ⟨hq1, hq2⟩ := hq; go_simp; try with_reducible rfl
          simp only [List.setIfInBounds_toArray, List.set_cons_zero, List.set_cons_succ]
          refine wpAnyH_takes (i := 5) (d := 179) (v := ?_) rfl rfl (by kernel_rfl) (fun _ _ _ h => h) (Or.inl ⟨by rfl, ?_⟩) hS ?_
          rotate_left
          · intro wq hq; (try dsimp only at hq); obtain ⟨hq1, hq2⟩ := hq; go_simp; try with_reducible rfl
          simp only [List.setIfInBounds_toArray, List.set_cons_zero, List.set_cons_succ]
          refine wpAnyH_one (i := 6) (by kernel_rfl) rfl (by rfl) (fun K hK => ?_)
          simp only [List.getElem_toArray, List.getElem_cons_succ, List.getElem_cons_zero]
          go_simp
          refine (HT.out w9.drew HBD.out).mono ?_
          rintro e w10 ⟨rfl, hr, hof⟩
          have t3 := (hof.blk HRS.out.drew (by simp)).at_ (i := 3) (v := .int .i64 (ro.1 : Nat)) rfl
          have p2 := (hof.blk HOB.out.drew (by simp)).at_ (i := 2) (v := .int .u8 (q : Nat)) rfl
          have HS2 := Lib.hid ((HST.out.thru HBD.out).refd hr hof)
          refine hK.out _ _ ⟨t3, p2⟩ ?_
          clear hK K hr hof HT HST HRS r0 r1 r2 r3 q0 q1 q2 q3 q4 q5 q6 q7 HLX HOR HCB HOB ewq
          have HST := HS2
          clear HS2
          try simp only [Act.put, List.setIfInBounds_toArray, List.set_cons_zero, List.set_cons_succ]
          refine wpAnyH_one (i := 7) (by kernel_rfl) rfl (by rfl) (fun K hK => ?_)
          simp only [List.getElem_toArray, List.getElem_cons_succ, List.getElem_cons_zero]
          go_simp
          refine hK.out _ _ ⟨t3, p2⟩ ?_
          clear hK K t3 p2 hS o0 o1 o2
          try simp only [Act.put, List.setIfInBounds_toArray, List.set_cons_zero, List.set_cons_succ]
          refine wpAnyH_done (by kernel_rfl) ?_ _
          go_upto_region 42 with fail
          have hrec : PI ro.2 had L.epoch (1 + 400 * (i : Int) + 400) := by
            rw [← HRO.out]
            exact HPI.out.reclaim' HREL.out hNb.1 HN1.out.1 (by have := HN1.out.2; omega) q
          have HPN := Lib.hid (hrec)
          have HSM := Lib.hid (same19 lb m c a b N B rb ro.2 _ w10 HST.out.land hNb.1 (by omega) (HPN.out.sm.small (by have := HI.out; omega)) HST.out.ref)
          go_wp2_with fail
          refine HSM.out.mono ?_
          rintro e w11 ⟨rfl, hb⟩
          have HS2 := Lib.hid ((HST.out.thru hb).more (Y := []) (by simp))
          clear hb HSM HST
          have HST := HS2
          clear HS2
          go_wp2
          go_roundw
          case rel => exact ⟨i + 1, _, A, cA, had, L.epoch, by omega, rfl, by go_num, HST.out, by rw [show (1 : Int) + 400 * ((i + 1 : Nat) : Int) = 1 + 400 * i + 400 by omega]; exact HPN.out, by have := HI.out; omega, by have := HI.out; omega⟩
          case measure => simp [intOf]; omega
        -- K5
        · have he6 : w6.cell? ⟨rb, 6, none⟩ = some (.int .i64 L.epoch) := by
            obtain ⟨A1, c1, A2, c2, A3, c3, A4, c4, hg⟩ := HST.out.ref
            exact hg.blk.at_ (i := 6) rfl
          have heb : 0 ≤ L.epoch ∧ L.epoch ≤ 60 := by have := HI.out; omega
          go_upto_region 19 with fail
          have hux : Upd [ob + 1] w6 ((w6).setCell ⟨ob + 1, 5, none⟩ (.int .i64 (L.epoch + 1))) := (Upd.refl _ _).put (.inl (by simp)) _
          have HS2 := Lib.hid (HST.out.side hux (by simp) (Nat.le_succ_of_le HBO.out) (blk_notin HST.out.own HCB.out (by decide)))
          have HC2 := Lib.hid (show Blk ((w6).setCell ⟨ob + 1, 5, none⟩ (.int .i64 (L.epoch + 1))) (ob + 1) 91 #[.pointer (some ⟨lb, 0, none⟩), .int .u8 kind, .int .u8 oat, .int .u8 on, .int .i64 0, .int .i64 (L.epoch + 1), .pointer none, .int .u8 5] from HCB.out.put 5 _)
          have HO2 := Lib.hid (HOB.out.upd hux (by simp))
          clear hux HST HCB HOB q0 q1 q2 q3 q4 q5 q6 q7 fq
          generalize (w6).setCell ⟨ob + 1, 5, none⟩ (.int .i64 (L.epoch + 1)) = w7 at *
          have HST := HS2
          have HCB := HC2
          have HOB := HO2
          clear HS2 HC2 HO2
          obtain ⟨q0, q1, q2, q3, q4, q5, q6, q7⟩ := HCB.out.at8
          clear he6
          have HD := Lib.hid (do_epoch HST.out.land kind oat on 0 (L.epoch + 1) (WfI.of ⟨by omega, by omega⟩) none)
          go_wp2_with fail
          refine HD.out.mono ?_
          rintro e w8 ⟨cs, nn, rfl, -, ⟨AR, eR, rfl, hoR, -, hwl⟩, hl, hu⟩
          have HWL := Lib.hid hwl
          have HWA := Lib.hid hu.size
          have HOR := Lib.hid hoR
          have HS2 := Lib.hid ((HST.out.more (Y := ob :: (ob + 1) :: blockOf AR) (by intro x hx; simp only [List.mem_cons] at hx; rcases hx with rfl | rfl | hx; exact .inl (by simp); exact .inl (by simp); exact .inr (.inr (own_lo hoR x hx)))).did hl hu)
          have HC2 := Lib.hid (HCB.out.upd hu (HST.out.not (Nat.le_succ_of_le HBO.out)))
          have HO2 := Lib.hid (HOB.out.upd hu (HST.out.not HBO.out))
          clear HD hl hu hoR hwl q0 q1 q2 q3 q4 q5 q6 q7 HST HCB HOB
          have HST := HS2
          have HCB := HC2
          have HOB := HO2
          clear HS2 HC2 HO2
          replace HOR := Lib.hid (show OwnR (w7).heap.size w8 AR eR _ from HOR.out)
          simp only [List.length_nil]
          replace HST := Lib.hid (HST.out.more (Y := (w8).heap.size :: ob :: (ob + 1) :: blockOf AR) (by intro x hx; simp only [List.mem_cons] at hx ⊢; rcases hx with rfl | rfl | rfl | hx; exact .inr (.inr (Nat.le_refl _)); exact .inl (by simp); exact .inl (by simp); exact .inl (by simp [hx])))
          replace HST := Lib.hid (HST.out.thru (below_alloc0 w8 (.cells #[.int .i64 0, .slice AR 0 eR, .bool false, .int .i64 0] 84)))
          replace HCB := Lib.hid (HCB.out.thru (below_alloc0 w8 (.cells #[.int .i64 0, .slice AR 0 eR, .bool false, .int .i64 0] 84)))
          replace HOB := Lib.hid (HOB.out.thru (below_alloc0 w8 (.cells #[.int .i64 0, .slice AR 0 eR, .bool false, .int .i64 0] 84)))
          replace HOR := Lib.hid (HOR.out.thru (below_alloc0 w8 (.cells #[.int .i64 0, .slice AR 0 eR, .bool false, .int .i64 0] 84)))
          have HRS := Lib.hid (Blk.new w8 84 #[.int .i64 0, .slice AR 0 eR, .bool false, .int .i64 0])
          go_upto_region 20 with fail
          have HZ := Lib.hid (World.size_alloc w8 (.cells #[.int .i64 0, .slice AR 0 eR, .bool false, .int .i64 0] 84))
          obtain ⟨rs, hrs⟩ : ∃ x, w8.heap.size = x := ⟨_, rfl⟩
          simp only [hrs] at HRS HZ ⊢
          replace hrs := Lib.hid hrs
          generalize w8.alloc (.cells #[.int .i64 0, .slice AR 0 eR, .bool false, .int .i64 0] 84) = w9 at *
          rw [hrs.out] at HST
          have HLX := Lib.hid (show ∀ x ∈ (rs :: ob :: (ob + 1) :: blockOf AR) ++ blockOf _, x < (w9).heap.size by
            intro x hx
            simp only [List.cons_append, List.mem_cons, List.mem_append] at hx
            rcases hx with rfl | rfl | rfl | hx | hx
            · exact HRS.out.lt
            · exact HOB.out.lt
            · exact HCB.out.lt
            · exact ownsRow_blockLt HOR.out x hx
            · exact ownsRow_blockLt HST.out.own x hx)
          clear HZ
          obtain ⟨r0, r1, r2, r3⟩ := HRS.out.at4
          obtain ⟨q0, q1, q2, q3, q4, q5, q6, q7⟩ := HCB.out.at8
          have k6 : w9.cell? ⟨rb, 6, none⟩ = some (.int .i64 L.epoch) := by
            obtain ⟨A1, c1, A2, c2, A3, c3, A4, c4, hg⟩ := HST.out.ref
            exact hg.blk.at_ (i := 6) rfl
          have z6 : w9.frozen? ⟨rb, 6, none⟩ = false := by
            obtain ⟨A1, c1, A2, c2, A3, c3, A4, c4, hg⟩ := HST.out.ref
            exact hg.blk.free 6
          go_upto_region 42 with fail
          have HS2 := Lib.hid (show Stage w (w9.setCell ⟨rb, 6, none⟩ (.int .i64 (L.epoch + 1))) lb m c a b N { L with epoch := L.epoch + 1 } { L with epoch := L.epoch + 1 } B rb (rs :: ob :: (ob + 1) :: blockOf AR) A cA had by
            obtain ⟨A1, c1, A2, c2, A3, c3, A4, c4, hg⟩ := HST.out.ref
            obtain ⟨hg2, ho2⟩ := hg.putTail 2 (.int .i64 (L.epoch + 1))
            exact HST.out.refd ⟨A1, c1, A2, c2, A3, c3, A4, c4, hg2⟩ ho2)
          clear HST k6 z6 HRS r0 r1 r2 r3 q0 q1 q2 q3 q4 q5 q6 q7
          have HST := HS2
          clear HS2
          generalize w9.setCell ⟨rb, 6, none⟩ (.int .i64 (L.epoch + 1)) = w10 at *
          have HPN := Lib.hid (HPI.out.epoch' heb (by omega))
          have HSM := Lib.hid (same19 lb m c a b N B rb { L with epoch := L.epoch + 1 } _ w10 HST.out.land hNb.1 (by omega) (HPN.out.sm.small (by have := HI.out; omega)) HST.out.ref)
          go_wp2_with fail
          refine HSM.out.mono ?_
          rintro e w11 ⟨rfl, hb⟩
          have HS2 := Lib.hid ((HST.out.thru hb).more (Y := []) (by simp))
          clear hb HSM HST
          have HST := HS2
          clear HS2
          go_wp2
          go_roundw
          case rel => exact ⟨i + 1, _, A, cA, had, L.epoch + 1, by omega, rfl, by go_num, HST.out, by rw [show (1 : Int) + 400 * ((i + 1 : Nat) : Int) = 1 + 400 * i + 400 by omega]; exact HPN.out, by omega, by have := HI.out; omega⟩
          case measure => simp [intOf]; omega
        -- K6
      · obtain rfl : i = len := by omega
        go_wp2
        go_ret
        exact ⟨rfl, hst.low⟩
end Go.Proofs.Ytldccemgfjmcdaa
