/- Law 17, plainly: what finding, and going through, tells of the words that stand in slots. -/
import Derived.Test.YtldccemgfjmcdaaLaw16
import Derived.Test.YtldccemgfjmcdaaGoer17
namespace Go.Proofs.Ytldccemgfjmcdaa
open Go.RowKit
set_option linter.unusedSimpArgs false
set_option linter.unusedVariables false

/-- The words of a handle's slot. -/
def ofP (xs : List (List Int)) (h : Int) : Option (List Int) := if 1 ≤ slotOf h ∧ slotOf h ≤ xs.length then xs[(slotOf h - 1).toNat]? else none
def findP (xs : List (List Int)) (addr : Int) : Nat → Int → Int × Bool × Nat
  | 0, _ => (0, false, 0)
  | k + 1, root => match ofP xs root with
    | none => (0, false, 1)
    | some x => if (lookP x addr).2.2.1 = false then (0, false, (lookP x addr).2.2.2) else if (lookP x addr).2.1 = false then ((lookP x addr).1, true, (lookP x addr).2.2.2)
      else ((findP xs addr k (lookP x addr).1).1, (findP xs addr k (lookP x addr).1).2.1, (lookP x addr).2.2.2 + (findP xs addr k (lookP x addr).1).2.2)
abbrev DownQ := Bool × List EntV × List Int × Nat
def goP (rec : Int → List EntV → List Int → DownQ) (inner : Bool) : List (Int × Int) → Int → List EntV → List Int → DownQ
  | [], _, es, ns => (true, es, ns, 0)
  | (e, s) :: l, lo, es, ns => if inner = false then goP rec inner l e (es ++ [⟨lo, e, s⟩]) ns
    else if (rec s es ns).1 = true then ((goP rec inner l e (rec s es ns).2.1 (rec s es ns).2.2.1).1, (goP rec inner l e (rec s es ns).2.1 (rec s es ns).2.2.1).2.1, (goP rec inner l e (rec s es ns).2.1 (rec s es ns).2.2.1).2.2.1, (rec s es ns).2.2.2 + (goP rec inner l e (rec s es ns).2.1 (rec s es ns).2.2.1).2.2.2)
      else (false, (rec s es ns).2.1, (rec s es ns).2.2.1, (rec s es ns).2.2.2)
def downP (xs : List (List Int)) : Nat → Int → List EntV → List Int → DownQ
  | 0, _, es, ns => (false, es, ns, 0)
  | k + 1, h, es, ns => if ns.length = 64 then (false, es, ns, 0) else match ofP xs h with
    | none => (false, es, ns ++ [h], 1)
    | some x => match (nodeP x).1 with
      | none => (false, es, ns ++ [h], (nodeP x).2)
      | some n => let q := goP (downP xs k) n.inner (n.ends.zip n.slots) n.lo es (ns ++ [h]); (q.1, q.2.1, q.2.2.1, (nodeP x).2 + q.2.2.2)

/-- Handles from which none is come to that isn't right. -/
def Closed (xs : List (List Int)) (P : Int → Prop) : Prop := ∀ h, P h → (land16 xs).ar.right h = true ∧ ∀ x, ofP xs h = some x → ∀ k, k < (headOf (x.getD 0 0)).2 → P (x.getD (10 + k) 0)

theorem land_len (xs : List (List Int)) : (land16 xs).ar.slots.length = xs.length := by simp [land16, slotAr]
theorem of_none {xs : List (List Int)} {h : Int} (ho : ofP xs h = none) (wd : Int) : (land16 xs).there h wd = false ∧ (land16 xs).word h wd = 0 ∧ (land16 xs).ar.right h = false := by
  have hh : (land16 xs).ar.has (slotOf h) = false := by
    unfold ofP at ho
    unfold ArS.has
    rw [land_len]
    by_cases hc : 1 ≤ slotOf h ∧ slotOf h ≤ xs.length
    · rw [if_pos hc, List.getElem?_eq_none_iff] at ho
      omega
    · simp only [Bool.and_eq_false_iff, decide_eq_false_iff_not]
      omega
  have ht : (land16 xs).there h wd = false := by
    unfold LandS.there ArS.cell
    rw [hh]
    simp [MemS.has]
  refine ⟨ht, ?_, ?_⟩
  · unfold LandS.there at ht
    unfold LandS.word MemS.load
    rw [if_neg (by simp [ht])]
  · unfold ArS.right
    rw [hh]
    rfl
theorem of_some {xs : List (List Int)} {h : Int} {x : List Int} (ho : ofP xs h = some x) (hx : ∀ y ∈ xs, y.length = 28) (hN : xs.length ≤ 100) : HasSlot (land16 xs) h x ∧ x ∈ xs := by
  unfold ofP at ho
  split at ho
  · rename_i hc
    have hm : x ∈ xs := List.mem_of_getElem? ho
    have := land_slot (hd := h) ho hN (by omega)
    rw [pad28_of (hx x hm)] at this
    exact ⟨this, hm⟩
  · cases ho
theorem tells_none {xs : List (List Int)} {h : Int} (ho : ofP xs h = none) : Tells (land16 xs) (headR h) (false, 0) 1 0 true := by
  obtain ⟨h1, h2, h3⟩ := of_none ho 0
  have := (Tells.read (land16 xs) h 0).bind (f := fun v => Res.ret (headOf v)) (Tells.ret _ _)
  refine this.eq ?_ rfl (by rw [h1]; rfl) (by rw [h3]; rfl)
  rw [h2]
  exact headOf_no (by decide)
theorem tells_look_none {xs : List (List Int)} {h : Int} (ho : ofP xs h = none) (addr : Int) : Tells (land16 xs) (lookR h addr) (0, false, false) 1 0 true :=
  ((tells_none ho).bind (f := fun (b : Bool × Nat) => lookFrom h addr b.1 0 b.2) (Tells.ret _ _)).eq rfl rfl rfl rfl
theorem tells_node_none {xs : List (List Int)} {h : Int} (ho : ofP xs h = none) : Tells (land16 xs) (nodeR h) none 1 0 true :=
  ((tells_none ho).bind (f := fun (b : Bool × Nat) => if b.2 = 0 then (Res.ret none : Res LandS (Option NodeV)) else (readR h 1).bind fun lo => (entriesR h 0 b.2 [] [] []).bind fun q => .ret (nodeAns b.1 lo q)) (Tells.ret _ _)).eq rfl rfl rfl rfl

theorem lookGo_slot (x : List Int) (addr : Int) (inner : Bool) : ∀ k i, (lookGo x addr inner i k).2.2.1 = true → ∃ j, j < i + k ∧ (lookGo x addr inner i k).1 = x.getD (10 + j) 0
  | 0, _, h => by simp [lookGo] at h
  | k + 1, i, h => by
    unfold lookGo at h ⊢
    split at h
    · rename_i hc
      rw [if_pos hc]
      obtain ⟨j, hj, e⟩ := lookGo_slot x addr inner k (i + 1) h
      exact ⟨j, by omega, e⟩
    · rename_i hc
      rw [if_neg hc]
      exact ⟨i, by omega, rfl⟩
theorem lookP_slot {x : List Int} {addr : Int} (h : (lookP x addr).2.2.1 = true) : ∃ j, j < (headOf (x.getD 0 0)).2 ∧ (lookP x addr).1 = x.getD (10 + j) 0 := by
  obtain ⟨j, hj, e⟩ := lookGo_slot x addr _ _ 0 h
  exact ⟨j, by omega, e⟩

theorem tells_find {xs : List (List Int)} (hx : ∀ y ∈ xs, y.length = 28) (hN : xs.length ≤ 100) (addr : Int) : ∀ k root, ∃ st c, c ≤ (findP xs addr k root).2.2 ∧ (findP xs addr k root).2.2 ≤ 10 * k ∧
    Tells (land16 xs) (findR addr k root) ((findP xs addr k root).1, (findP xs addr k root).2.1) (findP xs addr k root).2.2 c st ∧ ∀ P, Closed xs P → P root → st = false
  | 0, root => ⟨false, 0, Nat.le_refl _, Nat.zero_le _, Tells.ret _ _, fun _ _ _ => rfl⟩
  | k + 1, root => by
    cases ho : ofP xs root with
    | none =>
      have e : findP xs addr (k + 1) root = (0, false, 1) := by simp only [findP, ho]
      rw [e]
      refine ⟨true || false, 0 + 0, by simp, by simp only; omega, (tells_look_none ho addr).bind (f := fun (q : Int × Bool × Bool) => if q.2.2 = false then (Res.ret (0, false) : Res LandS (Int × Bool)) else if q.2.1 = false then .ret (q.1, true) else findR addr k q.1) (Tells.ret _ _), fun P hP h0 => ?_⟩
      have := (hP root h0).1
      rw [(of_none ho 0).2.2] at this
      cases this
    | some x =>
      obtain ⟨hsl, hm⟩ := of_some ho hx hN
      obtain ⟨st, hst, ht⟩ := Tells.look hsl addr
      have hle := lookP_le x addr
      have hst' : ∀ P, Closed xs P → P root → st = false := fun P hP h0 => by
        rcases hst with h | h
        · exact h
        · rw [h, (hP root h0).1]; rfl
      by_cases h1 : (lookP x addr).2.2.1 = false
      · have e : findP xs addr (k + 1) root = (0, false, (lookP x addr).2.2.2) := by simp only [findP, ho]; rw [if_pos h1]
        rw [e]
        refine ⟨st || false, (lookP x addr).2.2.2 + 0, by simp, by simp only; omega, ?_, fun P hP h0 => by rw [hst' P hP h0]; rfl⟩
        have h9 := ht.bind (f := fun (q : Int × Bool × Bool) => if q.2.2 = false then (Res.ret (0, false) : Res LandS (Int × Bool)) else if q.2.1 = false then .ret (q.1, true) else findR addr k q.1) (by simp only; rw [if_pos h1]; exact Tells.ret _ _)
        exact h9
      · by_cases h2 : (lookP x addr).2.1 = false
        · have e : findP xs addr (k + 1) root = ((lookP x addr).1, true, (lookP x addr).2.2.2) := by simp only [findP, ho]; rw [if_neg h1, if_pos h2]
          rw [e]
          refine ⟨st || false, (lookP x addr).2.2.2 + 0, by simp, by simp only; omega, ?_, fun P hP h0 => by rw [hst' P hP h0]; rfl⟩
          have h9 := ht.bind (f := fun (q : Int × Bool × Bool) => if q.2.2 = false then (Res.ret (0, false) : Res LandS (Int × Bool)) else if q.2.1 = false then .ret (q.1, true) else findR addr k q.1) (by simp only; rw [if_neg h1, if_pos h2]; exact Tells.ret _ _)
          exact h9
        · obtain ⟨st2, c2, hc2, hk2, ht2, hs2⟩ := tells_find hx hN addr k (lookP x addr).1
          have e : findP xs addr (k + 1) root = ((findP xs addr k (lookP x addr).1).1, (findP xs addr k (lookP x addr).1).2.1, (lookP x addr).2.2.2 + (findP xs addr k (lookP x addr).1).2.2) := by simp only [findP, ho]; rw [if_neg h1, if_neg h2]
          rw [e]
          refine ⟨st || st2, (lookP x addr).2.2.2 + c2, by simp only; omega, by simp only; omega, ht.bind (f := fun (q : Int × Bool × Bool) => if q.2.2 = false then (Res.ret (0, false) : Res LandS (Int × Bool)) else if q.2.1 = false then .ret (q.1, true) else findR addr k q.1) ?_, fun P hP h0 => ?_⟩
          · simp only
            rw [if_neg h1, if_neg h2]
            exact ht2
          · rw [hst' P hP h0]
            obtain ⟨j, j1, ej⟩ := lookP_slot (x := x) (addr := addr) (by simpa using h1)
            rw [hs2 P hP (by rw [ej]; exact (hP root h0).2 x ho j j1)]
            rfl

/-- What going through leaves: no more nodes than may be, and no more accesses than their words. -/
def DownOk (q : DownQ) (es : List EntV) (ns : List Int) : Prop := ns.length ≤ q.2.2.1.length ∧ q.2.2.1.length ≤ 64 ∧ q.2.2.2 + 26 * ns.length ≤ 26 * q.2.2.1.length
def DownTells (xs : List (List Int)) (r : Res LandS (Bool × List EntV × List Int)) (q : DownQ) (cl : (Int → Prop) → Prop) : Prop :=
  ∃ st c, c ≤ q.2.2.2 ∧ Tells (land16 xs) r (q.1, q.2.1, q.2.2.1) q.2.2.2 c st ∧ ∀ P, Closed xs P → cl P → st = false
theorem tells_go {xs : List (List Int)} {k : Nat} (ih : ∀ h es ns, ns.length ≤ 64 → DownTells xs (downR k h es ns) (downP xs k h es ns) (fun P => P h) ∧ DownOk (downP xs k h es ns) es ns) (inner : Bool) :
    ∀ (l : List (Int × Int)) lo es ns, ns.length ≤ 64 → DownTells xs (goR (downR k) inner l lo es ns) (goP (downP xs k) inner l lo es ns) (fun P => ∀ q ∈ l, P q.2) ∧ DownOk (goP (downP xs k) inner l lo es ns) es ns
  | [], lo, es, ns, hn => ⟨⟨false, 0, Nat.le_refl _, Tells.ret _ _, fun _ _ _ => rfl⟩, Nat.le_refl _, hn, by simp [goP]⟩
  | (e, s) :: l, lo, es, ns, hn => by
    cases inner with
    | false =>
      obtain ⟨⟨st, c, hc, ht, hs⟩, hok⟩ := tells_go ih false l e (es ++ [⟨lo, e, s⟩]) ns hn
      have e1 : goR (downR k) false ((e, s) :: l) lo es ns = goR (downR k) false l e (es ++ [⟨lo, e, s⟩]) ns := by simp [goR]
      have e2 : goP (downP xs k) false ((e, s) :: l) lo es ns = goP (downP xs k) false l e (es ++ [⟨lo, e, s⟩]) ns := by simp [goP]
      rw [e1, e2]
      exact ⟨⟨st, c, hc, ht, fun P hP hl => hs P hP fun q hq => hl q (List.mem_cons_of_mem _ hq)⟩, hok⟩
    | true =>
      obtain ⟨⟨st, c, hc, ht, hs⟩, h1, h2, h3⟩ := ih s es ns hn
      have e1 : goR (downR k) true ((e, s) :: l) lo es ns = (downR k s es ns).bind fun q => if q.1 = true then goR (downR k) true l e q.2.1 q.2.2 else .ret (false, q.2.1, q.2.2) := by simp [goR]
      rw [e1]
      by_cases hq : (downP xs k s es ns).1 = true
      · obtain ⟨⟨st2, c2, hc2, ht2, hs2⟩, k1, k2, k3⟩ := tells_go ih true l e (downP xs k s es ns).2.1 (downP xs k s es ns).2.2.1 h2
        have e2 : goP (downP xs k) true ((e, s) :: l) lo es ns = ((goP (downP xs k) true l e (downP xs k s es ns).2.1 (downP xs k s es ns).2.2.1).1, (goP (downP xs k) true l e (downP xs k s es ns).2.1 (downP xs k s es ns).2.2.1).2.1, (goP (downP xs k) true l e (downP xs k s es ns).2.1 (downP xs k s es ns).2.2.1).2.2.1, (downP xs k s es ns).2.2.2 + (goP (downP xs k) true l e (downP xs k s es ns).2.1 (downP xs k s es ns).2.2.1).2.2.2) := by
          simp [goP, hq]
        rw [e2]
        refine ⟨⟨st || st2, c + c2, by simp only; omega, ht.bind ?_, fun P hP hl => ?_⟩, by simp only; omega, k2, by simp only; omega⟩
        · rw [if_pos hq]
          exact ht2
        · rw [hs P hP (hl _ List.mem_cons_self), hs2 P hP fun q hq => hl q (List.mem_cons_of_mem _ hq)]
          rfl
      · have e2 : goP (downP xs k) true ((e, s) :: l) lo es ns = (false, (downP xs k s es ns).2.1, (downP xs k s es ns).2.2.1, (downP xs k s es ns).2.2.2) := by
          simp [goP, hq]
        rw [e2]
        refine ⟨⟨st || false, c + 0, hc, ?_, fun P hP hl => by rw [hs P hP (hl _ List.mem_cons_self)]; rfl⟩, h1, h2, h3⟩
        have h9 := ht.bind (f := fun q => if q.1 = true then goR (downR k) true l e q.2.1 q.2.2 else .ret (false, q.2.1, q.2.2)) (by rw [if_neg hq]; exact Tells.ret _ _)
        exact h9
theorem nodeP_slots {x : List Int} {n : NodeV} (h : (nodeP x).1 = some n) : ∀ q ∈ n.ends.zip n.slots, ∃ j, j < (headOf (x.getD 0 0)).2 ∧ q.2 = x.getD (10 + j) 0 := by
  intro q hq
  have hq2 := (List.of_mem_zip hq).2
  have hle := headOf_le (x.getD 0 0)
  unfold nodeP at h
  simp only at h
  split at h
  · cases h
  · unfold nodeAns at h
    simp only at h
    split at h
    · simp only [Option.some.injEq] at h
      subst h
      simp only at hq2
      obtain ⟨i, hi⟩ := List.mem_iff_getElem?.1 hq2
      rw [List.getElem?_take] at hi
      split at hi
      · rw [List.getElem?_drop] at hi
        exact ⟨i, by omega, by rw [List.getD_eq_getElem?_getD, hi]; rfl⟩
      · cases hi
    · cases h
theorem tells_down {xs : List (List Int)} (hx : ∀ y ∈ xs, y.length = 28) (hN : xs.length ≤ 100) : ∀ k h es ns, ns.length ≤ 64 → DownTells xs (downR k h es ns) (downP xs k h es ns) (fun P => P h) ∧ DownOk (downP xs k h es ns) es ns
  | 0, h, es, ns, hn => ⟨⟨false, 0, Nat.le_refl _, Tells.ret _ _, fun _ _ _ => rfl⟩, Nat.le_refl _, hn, by simp [downP]⟩
  | k + 1, h, es, ns, hn => by
    by_cases h64 : ns.length = 64
    · have e1 : downR (k + 1) h es ns = .ret (false, es, ns) := by simp only [downR]; rw [if_pos h64]
      have e2 : downP xs (k + 1) h es ns = (false, es, ns, 0) := by simp only [downP]; rw [if_pos h64]
      rw [e1, e2]
      exact ⟨⟨false, 0, Nat.le_refl _, Tells.ret _ _, fun _ _ _ => rfl⟩, Nat.le_refl _, hn, by simp⟩
    · have e1 : downR (k + 1) h es ns = (nodeR h).bind fun o => downGo (downR k) h es ns o := by simp only [downR]; rw [if_neg h64]
      rw [e1]
      have hl1 : (ns ++ [h]).length = ns.length + 1 := by simp
      cases ho : ofP xs h with
      | none =>
        have e2 : downP xs (k + 1) h es ns = (false, es, ns ++ [h], 1) := by simp only [downP, ho]; rw [if_neg h64]
        rw [e2]
        refine ⟨⟨true || false, 0 + 0, by simp, (tells_node_none ho).bind (f := fun o => downGo (downR k) h es ns o) (Tells.ret _ _), fun P hP h0 => ?_⟩, by simp only; omega, by simp only; omega, by simp only; omega⟩
        have := (hP h h0).1
        rw [(of_none ho 0).2.2] at this
        cases this
      | some x =>
        obtain ⟨hsl, hm⟩ := of_some ho hx hN
        obtain ⟨st, hst, ht⟩ := Tells.node hsl
        have hle := nodeP_le x
        have hst' : ∀ P, Closed xs P → P h → st = false := fun P hP h0 => by
          rcases hst with e | e
          · exact e
          · rw [e, (hP h h0).1]; rfl
        cases hnp : (nodeP x).1 with
        | none =>
          have e2 : downP xs (k + 1) h es ns = (false, es, ns ++ [h], (nodeP x).2) := by simp only [downP, ho, hnp]; rw [if_neg h64]
          rw [e2]
          rw [hnp] at ht
          exact ⟨⟨st || false, (nodeP x).2 + 0, by simp, ht.bind (f := fun o => downGo (downR k) h es ns o) (Tells.ret _ _), fun P hP h0 => by rw [hst' P hP h0]; rfl⟩, by simp only; omega, by simp only; omega, by simp only; omega⟩
        | some n =>
          obtain ⟨⟨st2, c2, hc2, ht2, hs2⟩, k1, k2, k3⟩ := tells_go (tells_down hx hN k) n.inner (n.ends.zip n.slots) n.lo es (ns ++ [h]) (by omega)
          have e2 : downP xs (k + 1) h es ns = ((goP (downP xs k) n.inner (n.ends.zip n.slots) n.lo es (ns ++ [h])).1, (goP (downP xs k) n.inner (n.ends.zip n.slots) n.lo es (ns ++ [h])).2.1, (goP (downP xs k) n.inner (n.ends.zip n.slots) n.lo es (ns ++ [h])).2.2.1, (nodeP x).2 + (goP (downP xs k) n.inner (n.ends.zip n.slots) n.lo es (ns ++ [h])).2.2.2) := by
            simp only [downP, ho, hnp]; rw [if_neg h64]
          rw [e2]
          rw [hnp] at ht
          refine ⟨⟨st || st2, (nodeP x).2 + c2, by simp only; omega, ht.bind ht2, fun P hP h0 => ?_⟩, by simp only; omega, k2, by simp only; omega⟩
          rw [hst' P hP h0, hs2 P hP fun q hq => ?_]
          · rfl
          · obtain ⟨j, j1, ej⟩ := nodeP_slots hnp q hq
            rw [ej]
            exact (hP h h0).2 x ho j j1
/-- All that is gone through from a root. -/
def allP (xs : List (List Int)) (root : Int) : List EntV × List Int × Bool × Nat :=
  let q := downP xs 8 root [] []; ((allAns (q.1, q.2.1, q.2.2.1)).1, (allAns (q.1, q.2.1, q.2.2.1)).2.1, q.1, q.2.2.2)
theorem allAns_ok (q : Bool × List EntV × List Int) : (allAns q).2.2 = q.1 := by unfold allAns; cases h : q.1 <;> simp
theorem tells_goFind {xs : List (List Int)} (hx : ∀ y ∈ xs, y.length = 28) (hN : xs.length ≤ 100) (root addr : Int) : ∃ st c, c ≤ 80 ∧ (findP xs addr 8 root).2.2 ≤ 80 ∧
    Tells (land16 xs) (goFindR root addr) ⟨(findP xs addr 8 root).1, (findP xs addr 8 root).2.1, [], []⟩ (findP xs addr 8 root).2.2 c st ∧ ∀ P, Closed xs P → P root → st = false := by
  obtain ⟨st, c, hc, hk, ht, hs⟩ := tells_find hx hN addr 8 root
  exact ⟨st, c, by omega, by omega, ht.map (fun q => (⟨q.1, q.2, [], []⟩ : GV)), hs⟩
theorem tells_goAll {xs : List (List Int)} (hx : ∀ y ∈ xs, y.length = 28) (hN : xs.length ≤ 100) (root : Int) : ∃ st c, c ≤ 1664 ∧ (downP xs 8 root [] []).2.2.2 ≤ 1664 ∧
    Tells (land16 xs) (goAllR root) ⟨0, (downP xs 8 root [] []).1, (allP xs root).1, (allP xs root).2.1⟩ (downP xs 8 root [] []).2.2.2 c st ∧ ∀ P, Closed xs P → P root → st = false := by
  obtain ⟨⟨st, c, hc, ht, hs⟩, k1, k2, k3⟩ := tells_down hx hN 8 root [] [] (by simp)
  simp only [List.length_nil] at k3
  refine ⟨st, c, by omega, by omega, ?_, hs⟩
  have := (ht.map allAns).map (fun q : List EntV × List Int × Bool => (⟨0, q.2.2, q.1, q.2.1⟩ : GV))
  rw [allAns_ok] at this
  exact this
end Go.Proofs.Ytldccemgfjmcdaa
