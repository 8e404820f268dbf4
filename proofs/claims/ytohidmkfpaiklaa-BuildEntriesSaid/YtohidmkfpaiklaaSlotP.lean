/- Layer 15's things, plainly: nodes, their words, areas, their words. No program is named here. -/
import Derived.Test.YtohidmkfpaiklaaArgs
namespace Go.Proofs.Ytohidmkfpaiklaa
open Go.RowKit
set_option linter.unusedSimpArgs false
set_option linter.unusedVariables false

structure NodeV where
  inner : Bool
  lo : Int
  ends : List Int
  slots : List Int
  gaps : List Int

/-- Is an entry right that begins at from_? -/
def entryB (inner : Bool) (e h g from_ : Int) : Bool :=
  decide (from_ < e) && decide (e % 4096 = 0) && decide (0 ≤ h) && (if inner = true then decide (h ≠ 0) && decide (0 ≤ g) && decide (g ≤ e - from_) else decide (g = if h = 0 then e - from_ else 0))
def chainB (inner : Bool) : Int → List Int → List Int → List Int → Bool
  | from_, e :: es, h :: hs, g :: gs => entryB inner e h g from_ && chainB inner e es hs gs
  | _, _, _, _ => true
/-- The header: how many entries, where it begins, where it ends. -/
def NodeV.headB (n : NodeV) : Bool :=
  decide (1 ≤ n.ends.length) && decide (n.ends.length ≤ 8) && decide (n.slots.length = n.ends.length) && decide (n.gaps.length = n.ends.length) && decide (65536 ≤ n.lo) && decide (n.lo % 4096 = 0)
def NodeV.formedB (n : NodeV) : Bool := n.headB && decide (n.ends.getD (n.ends.length - 1) 0 ≤ 2097152) && chainB n.inner n.lo n.ends n.slots n.gaps
theorem NodeV.headB_iff (n : NodeV) : n.headB = true ↔ 1 ≤ n.ends.length ∧ n.ends.length ≤ 8 ∧ n.slots.length = n.ends.length ∧ n.gaps.length = n.ends.length ∧ 65536 ≤ n.lo ∧ n.lo % 4096 = 0 := by
  unfold NodeV.headB
  simp only [Bool.and_eq_true, decide_eq_true_eq, and_assoc]

/-- The begin of the i-th entry. -/
def NodeV.from_ (n : NodeV) (i : Nat) : Int := if i = 0 then n.lo else n.ends.getD (i - 1) 0
theorem getD_of {l : List Int} {i : Nat} (h : i < l.length) : l.getD i 0 = l[i] := by rw [List.getD_eq_getElem?_getD, List.getElem?_eq_getElem h]; rfl
theorem drop_getD {l : List Int} {i : Nat} (h : i < l.length) : l.drop i = l.getD i 0 :: l.drop (i + 1) := by rw [getD_of h]; exact List.drop_eq_getElem_cons h
theorem NodeV.chain_at (n : NodeV) (hs : n.slots.length = n.ends.length) (hg : n.gaps.length = n.ends.length) {i : Nat} (hi : i < n.ends.length) :
    chainB n.inner (n.from_ i) (n.ends.drop i) (n.slots.drop i) (n.gaps.drop i) =
      (entryB n.inner (n.ends.getD i 0) (n.slots.getD i 0) (n.gaps.getD i 0) (n.from_ i) && chainB n.inner (n.from_ (i + 1)) (n.ends.drop (i + 1)) (n.slots.drop (i + 1)) (n.gaps.drop (i + 1))) := by
  rw [drop_getD hi, drop_getD (l := n.slots) (by omega), drop_getD (l := n.gaps) (by omega)]
  rfl
theorem NodeV.chain_end (n : NodeV) {i : Nat} (hi : n.ends.length ≤ i) (f : Int) : chainB n.inner f (n.ends.drop i) (n.slots.drop i) (n.gaps.drop i) = true := by
  rw [List.drop_of_length_le hi]
  unfold chainB
  rfl
theorem NodeV.from_succ (n : NodeV) (i : Nat) : n.from_ (i + 1) = n.ends.getD i 0 := by simp [NodeV.from_]
theorem entryB_lt {inner : Bool} {e h g f : Int} (hb : entryB inner e h g f = true) : f < e := by
  unfold entryB at hb
  simp only [Bool.and_eq_true, decide_eq_true_eq] at hb
  exact hb.1.1.1

/-! ### As the reference asks: each end by itself -/
def entryM (inner : Bool) (e h g from_ : Int) : Bool := entryB inner e h g from_ && decide (e ≤ 2097152)
def chainM (inner : Bool) : Int → List Int → List Int → List Int → Bool
  | from_, e :: es, h :: hs, g :: gs => entryM inner e h g from_ && chainM inner e es hs gs
  | _, _, _, _ => true
theorem chain_last (inner : Bool) : ∀ (es hs gs : List Int) (f e : Int), es.length = hs.length → es.length = gs.length → chainB inner e es hs gs = true → e ≤ (e :: es).getD es.length 0
  | [], _, _, f, e, _, _, _ => by simp
  | e2 :: es, h :: hs, g :: gs, f, e, h1, h2, hc => by
    simp only [chainB, Bool.and_eq_true] at hc
    have := chain_last inner es hs gs e e2 (by simpa using h1) (by simpa using h2) hc.2
    have := entryB_lt hc.1
    simp only [List.length_cons, List.getD_cons_succ]
    omega
  | e2 :: es, [], _, f, e, h1, _, _ => by simp at h1
  | e2 :: es, _ :: _, [], f, e, _, h2, _ => by simp at h2
theorem chainM_eq (inner : Bool) : ∀ (es hs gs : List Int) (f e h g : Int), es.length = hs.length → es.length = gs.length →
    chainM inner f (e :: es) (h :: hs) (g :: gs) = (decide ((e :: es).getD es.length 0 ≤ 2097152) && chainB inner f (e :: es) (h :: hs) (g :: gs))
  | [], hs, gs, f, e, h, g, h1, h2 => by
    rw [List.eq_nil_of_length_eq_zero h1.symm, List.eq_nil_of_length_eq_zero h2.symm]
    simp [chainM, chainB, entryM, Bool.and_comm]
  | e2 :: es, h2 :: hs, g2 :: gs, f, e, h, g, l1, l2 => by
    have ih := chainM_eq inner es hs gs e e2 h2 g2 (by simpa using l1) (by simpa using l2)
    rw [show chainM inner f (e :: e2 :: es) (h :: h2 :: hs) (g :: g2 :: gs) = (entryM inner e h g f && chainM inner e (e2 :: es) (h2 :: hs) (g2 :: gs)) from rfl, show chainB inner f (e :: e2 :: es) (h :: h2 :: hs) (g :: g2 :: gs) = (entryB inner e h g f && chainB inner e (e2 :: es) (h2 :: hs) (g2 :: gs)) from rfl, ih]
    simp only [List.length_cons, List.getD_cons_succ]
    cases hc : chainB inner e (e2 :: es) (h2 :: hs) (g2 :: gs) with
    | false => simp
    | true =>
      have hl := chain_last inner (e2 :: es) (h2 :: hs) (g2 :: gs) f e (by simpa using l1) (by simpa using l2) hc
      simp only [List.length_cons, List.getD_cons_succ] at hl
      unfold entryM
      rw [Bool.and_true, Bool.and_true]
      cases entryB inner e h g f with
      | false => simp
      | true =>
        simp only [Bool.true_and, Bool.and_true]
        rw [Bool.eq_iff_iff]
        simp only [Bool.and_eq_true, decide_eq_true_eq]
        omega
  | _ :: _, [], _, _, _, _, _, l1, _ => by simp at l1
  | _ :: _, _ :: _, [], _, _, _, _, _, l2 => by simp at l2
theorem NodeV.formed_chainM {n : NodeV} (h : n.headB = true) : n.formedB = chainM n.inner n.lo n.ends n.slots n.gaps := by
  obtain ⟨h1, -, h3, h4, -⟩ := (NodeV.headB_iff n).1 h
  unfold NodeV.formedB
  rw [h, Bool.true_and]
  obtain ⟨inner, lo, ends, slots, gaps⟩ := n
  simp only at h1 h3 h4 ⊢
  match ends, slots, gaps, h1, h3, h4 with
  | e :: es, x :: hs, g :: gs, _, h3, h4 => exact (chainM_eq inner es hs gs lo e x g (by simpa using h3.symm) (by simpa using h4.symm)).symm
  | _ :: _, [], _, _, h3, _ => simp at h3
  | _ :: _, _ :: _, [], _, _, h4 => simp at h4
  | [], _, _, h1, _, _ => simp at h1
theorem NodeV.chainM_at (n : NodeV) (hs : n.slots.length = n.ends.length) (hg : n.gaps.length = n.ends.length) {i : Nat} (hi : i < n.ends.length) :
    chainM n.inner (n.from_ i) (n.ends.drop i) (n.slots.drop i) (n.gaps.drop i) =
      (entryM n.inner (n.ends.getD i 0) (n.slots.getD i 0) (n.gaps.getD i 0) (n.from_ i) && chainM n.inner (n.from_ (i + 1)) (n.ends.drop (i + 1)) (n.slots.drop (i + 1)) (n.gaps.drop (i + 1))) := by
  rw [drop_getD hi, drop_getD (l := n.slots) (by omega), drop_getD (l := n.gaps) (by omega)]
  rfl
theorem NodeV.chainM_end (n : NodeV) {i : Nat} (hi : n.ends.length ≤ i) (f : Int) : chainM n.inner f (n.ends.drop i) (n.slots.drop i) (n.gaps.drop i) = true := by
  rw [List.drop_of_length_le hi]
  unfold chainM
  rfl

/-! ### Words -/
def NodeV.head (n : NodeV) : Int := (if n.inner = true then 2 else 1) + 16 * (n.ends.length : Int)
def zeros (k : Nat) : List Int := List.replicate k 0
def NodeV.pack (n : NodeV) : List Int := [n.head, n.lo] ++ n.ends ++ zeros (8 - n.ends.length) ++ n.slots ++ zeros (8 - n.slots.length) ++ n.gaps ++ zeros (10 - n.gaps.length)
theorem NodeV.formed_head {n : NodeV} (h : n.formedB = true) : n.headB = true := by
  unfold NodeV.formedB at h
  rw [Bool.and_eq_true, Bool.and_eq_true] at h
  exact h.1.1
theorem NodeV.formed_iff {n : NodeV} (h : n.formedB = true) : 1 ≤ n.ends.length ∧ n.ends.length ≤ 8 ∧ n.slots.length = n.ends.length ∧ n.gaps.length = n.ends.length ∧ 65536 ≤ n.lo ∧ n.lo % 4096 = 0 := (NodeV.headB_iff n).1 (NodeV.formed_head h)
theorem NodeV.pack_len {n : NodeV} (h : n.formedB = true) : n.pack.length = 28 := by
  obtain ⟨h1, h2, h3, h4, -⟩ := NodeV.formed_iff h
  simp [NodeV.pack, zeros]
  omega

/-! ### Words, one by one -/
def seg (xs : List Int) (i m : Nat) : List Int := xs.take i ++ zeros (m - i)
theorem seg_len {xs : List Int} {i m : Nat} (h : i ≤ xs.length) (hm : i ≤ m) : (seg xs i m).length = m := by simp [seg, zeros]; omega
theorem seg_set {xs : List Int} {i m : Nat} (h : i < xs.length) (hm : i < m) : (seg xs i m).set i (xs.getD i 0) = seg xs (i + 1) m := by
  unfold seg zeros
  rw [List.set_append_right _ _ (by simp; omega), getD_of h]
  rw [show i - (xs.take i).length = 0 by simp; omega, show m - i = (m - (i + 1)) + 1 by omega, List.replicate_succ, List.set_cons_zero, List.take_succ_eq_append_getElem h, List.append_assoc]
  rfl
theorem seg_all {xs : List Int} {m : Nat} : seg xs xs.length m = xs ++ zeros (m - xs.length) := by unfold seg; rw [List.take_length]
def NodeV.packTo (n : NodeV) (i : Nat) : List Int := [n.head, n.lo] ++ (seg n.ends i 8 ++ (seg n.slots i 8 ++ seg n.gaps i 10))
theorem set_app_r {l1 l2 : List Int} {j i : Nat} (x : Int) (h : l1.length = j) : (l1 ++ l2).set (j + i) x = l1 ++ l2.set i x := by
  rw [List.set_append_right _ _ (by omega), h, Nat.add_sub_cancel_left]
theorem set_app_l {l1 l2 : List Int} {i : Nat} (x : Int) (h : i < l1.length) : (l1 ++ l2).set i x = l1.set i x ++ l2 := List.set_append_left _ _ h
theorem set_a {hd A B : List Int} {i : Nat} (x : Int) (h : hd.length = 2) (hi : i < A.length) : (hd ++ (A ++ B)).set (2 + i) x = hd ++ (A.set i x ++ B) := by rw [set_app_r _ h, set_app_l _ hi]
theorem set_b {hd A B C : List Int} {i : Nat} (x : Int) (h : hd.length = 2) (hA : A.length = 8) (hi : i < B.length) : (hd ++ (A ++ (B ++ C))).set (10 + i) x = hd ++ (A ++ (B.set i x ++ C)) := by
  rw [show 10 + i = 2 + (8 + i) by omega, set_app_r _ h, set_app_r _ hA, set_app_l _ hi]
theorem set_c {hd A B C : List Int} {i : Nat} (x : Int) (h : hd.length = 2) (hA : A.length = 8) (hB : B.length = 8) : (hd ++ (A ++ (B ++ C))).set (18 + i) x = hd ++ (A ++ (B ++ C.set i x)) := by
  rw [show 18 + i = 2 + (8 + (8 + i)) by omega, set_app_r _ h, set_app_r _ hA, set_app_r _ hB]
theorem NodeV.packTo_step (n : NodeV) {i : Nat} (hi : i < n.ends.length) (h8 : n.ends.length ≤ 8) (hs : n.slots.length = n.ends.length) (hg : n.gaps.length = n.ends.length) :
    (((n.packTo i).set (2 + i) (n.ends.getD i 0)).set (10 + i) (n.slots.getD i 0)).set (18 + i) (n.gaps.getD i 0) = n.packTo (i + 1) := by
  unfold NodeV.packTo
  rw [set_a _ rfl (by rw [seg_len (by omega) (by omega)]; omega), seg_set (xs := n.ends) hi (by omega)]
  rw [set_b _ rfl (seg_len (by omega) (by omega)) (by rw [seg_len (by omega) (by omega)]; omega), seg_set (xs := n.slots) (by omega) (by omega)]
  rw [set_c _ rfl (seg_len (by omega) (by omega)) (seg_len (by omega) (by omega)), seg_set (xs := n.gaps) (by omega) (by omega)]
theorem NodeV.packTo_all (n : NodeV) (hs : n.slots.length = n.ends.length) (hg : n.gaps.length = n.ends.length) : n.packTo n.ends.length = n.pack := by
  unfold NodeV.packTo NodeV.pack
  have e2 : seg n.slots n.ends.length 8 = n.slots ++ zeros (8 - n.slots.length) := by rw [← hs]; exact seg_all
  have e3 : seg n.gaps n.ends.length 10 = n.gaps ++ zeros (10 - n.gaps.length) := by rw [← hg]; exact seg_all
  rw [seg_all, e2, e3]
  simp only [List.append_assoc]
theorem NodeV.packTo_len (n : NodeV) {i : Nat} (hi : i ≤ n.ends.length) (h8 : n.ends.length ≤ 8) (hs : n.slots.length = n.ends.length) (hg : n.gaps.length = n.ends.length) : (n.packTo i).length = 28 := by
  unfold NodeV.packTo
  simp only [List.length_append, seg_len (xs := n.ends) (i := i) (m := 8) (by omega) (by omega), seg_len (xs := n.slots) (i := i) (m := 8) (by omega) (by omega), seg_len (xs := n.gaps) (i := i) (m := 10) (by omega) (by omega)]
  rfl

/-! ### A node out of words -/
def nodeOf (xs : List Int) : NodeV :=
  ⟨xs.getD 0 0 % 16 == 2, xs.getD 1 0, (xs.drop 2).take (xs.getD 0 0 / 16).toNat, (xs.drop 10).take (xs.getD 0 0 / 16).toNat, (xs.drop 18).take (xs.getD 0 0 / 16).toNat⟩
def headOk (xs : List Int) : Bool := decide (xs.length = 28) && decide (16 ≤ xs.getD 0 0) && decide (xs.getD 0 0 ≤ 130)
def unpackL (xs : List Int) : Option NodeV := if headOk xs = true ∧ (nodeOf xs).formedB = true ∧ (nodeOf xs).pack = xs then some (nodeOf xs) else none
theorem take_seg (l1 l2 l3 : List Int) : (l1 ++ (l2 ++ l3)).drop l1.length = l2 ++ l3 := by rw [List.drop_left]
theorem unpack_pack {n : NodeV} (h : n.formedB = true) : unpackL n.pack = some n := by
  obtain ⟨h1, h2, h3, h4, h5, h6⟩ := NodeV.formed_iff h
  have hlen := NodeV.pack_len h
  have e0 : n.pack.getD 0 0 = n.head := rfl
  have e1 : n.pack.getD 1 0 = n.lo := rfl
  have hk : (n.head / 16).toNat = n.ends.length := by
    unfold NodeV.head
    split <;> omega
  have hin : (n.head % 16 == 2) = n.inner := by
    unfold NodeV.head
    cases n.inner with
    | true =>
      rw [if_pos rfl]
      exact beq_iff_eq.2 (by omega)
    | false =>
      rw [if_neg (by decide)]
      exact beq_eq_false_iff_ne.2 (by omega)
  have hno : nodeOf n.pack = n := by
    unfold nodeOf
    rw [e0, e1, hk, hin]
    have d2 : (n.pack.drop 2).take n.ends.length = n.ends := by
      rw [show n.pack = [n.head, n.lo] ++ (n.ends ++ (zeros (8 - n.ends.length) ++ n.slots ++ zeros (8 - n.slots.length) ++ n.gaps ++ zeros (10 - n.gaps.length))) by simp [NodeV.pack], show 2 = [n.head, n.lo].length from rfl, List.drop_left, List.take_left]
    have d10 : (n.pack.drop 10).take n.ends.length = n.slots := by
      rw [show n.pack = ([n.head, n.lo] ++ n.ends ++ zeros (8 - n.ends.length)) ++ (n.slots ++ (zeros (8 - n.slots.length) ++ n.gaps ++ zeros (10 - n.gaps.length))) by simp [NodeV.pack], show 10 = ([n.head, n.lo] ++ n.ends ++ zeros (8 - n.ends.length)).length by simp [zeros]; omega, List.drop_left, ← h3, List.take_left]
    have d18 : (n.pack.drop 18).take n.ends.length = n.gaps := by
      rw [show n.pack = ([n.head, n.lo] ++ n.ends ++ zeros (8 - n.ends.length) ++ n.slots ++ zeros (8 - n.slots.length)) ++ (n.gaps ++ zeros (10 - n.gaps.length)) by simp [NodeV.pack], show 18 = ([n.head, n.lo] ++ n.ends ++ zeros (8 - n.ends.length) ++ n.slots ++ zeros (8 - n.slots.length)).length by simp [zeros]; omega, List.drop_left, ← h4, List.take_left]
    rw [d2, d10, d18]
  have hhd : headOk n.pack = true := by
    unfold headOk
    rw [hlen, e0]
    have : 16 ≤ n.head ∧ n.head ≤ 130 := by unfold NodeV.head; split <;> omega
    simp [this.1, this.2]
  unfold unpackL
  rw [hno, if_pos ⟨hhd, h, rfl⟩]
theorem unpack_some {xs : List Int} {n : NodeV} (h : unpackL xs = some n) : n = nodeOf xs ∧ n.formedB = true ∧ n.pack = xs := by
  unfold unpackL at h
  split at h
  · rename_i hc
    injection h with h
    subst h
    exact ⟨rfl, hc.2.1, hc.2.2⟩
  · cases h
end Go.Proofs.Ytohidmkfpaiklaa
/- Layer 15: areas and their words, in plain Lean. -/
namespace Go.Proofs.Ytohidmkfpaiklaa
set_option linter.unusedSimpArgs false
set_option linter.unusedVariables false

@[ext] structure AreaV where
  start : Int
  stop : Int
  prot : Int
  shared : Bool
  back : Int
  off : Int
  deriving DecidableEq
def AreaV.formedB (a : AreaV) : Bool := decide (a.start % 4096 = 0 ∧ a.stop % 4096 = 0 ∧ 65536 ≤ a.start ∧ a.stop ≤ 2097152 ∧ a.start < a.stop ∧ 0 ≤ a.prot ∧ a.prot ≤ 7 ∧ 0 ≤ a.back ∧ a.back ≤ 9 ∧ (a.back = 0 → a.off = 0) ∧ a.off % 4096 = 0 ∧ 0 ≤ a.off ∧ (a.back ≠ 0 → a.off ≤ 1099511627776 - (a.stop - a.start)))
theorem AreaV.formed_iff (a : AreaV) : a.formedB = true ↔ (a.start % 4096 = 0 ∧ a.stop % 4096 = 0 ∧ 65536 ≤ a.start ∧ a.stop ≤ 2097152 ∧ a.start < a.stop ∧ 0 ≤ a.prot ∧ a.prot ≤ 7 ∧ 0 ≤ a.back ∧ a.back ≤ 9 ∧ (a.back = 0 → a.off = 0) ∧ a.off % 4096 = 0 ∧ 0 ≤ a.off ∧ (a.back ≠ 0 → a.off ≤ 1099511627776 - (a.stop - a.start))) := by
  unfold AreaV.formedB
  rw [decide_eq_true_iff]
def numB (b : Bool) : Int := if b then 1 else 0
def AreaV.pack (a : AreaV) (dead : Bool) : List Int := [3, numB dead, a.start, a.stop, a.prot, numB a.shared, a.back, a.off] ++ zeros 20
theorem AreaV.pack_len (a : AreaV) (dead : Bool) : (a.pack dead).length = 28 := by simp [AreaV.pack, zeros]
def areaOf (xs : List Int) : AreaV := ⟨xs.getD 2 0, xs.getD 3 0, xs.getD 4 0, xs.getD 5 0 == 1, xs.getD 6 0, xs.getD 7 0⟩
def deadOf (xs : List Int) : Bool := xs.getD 1 0 == 1
/-- What UnpackArea makes of words. -/
def unpackA (xs : List Int) : Option (AreaV × Bool) := if xs.length = 28 ∧ (areaOf xs).formedB = true ∧ (areaOf xs).pack (deadOf xs) = xs then some (areaOf xs, deadOf xs) else none
theorem numB_one (b : Bool) : (numB b == 1) = b := by cases b <;> rfl
theorem areaOf_pack (a : AreaV) (dead : Bool) : areaOf (a.pack dead) = a := by
  obtain ⟨x1, x2, x3, x4, x5, x6⟩ := a
  simp [areaOf, AreaV.pack, numB_one]
theorem deadOf_pack (a : AreaV) (dead : Bool) : deadOf (a.pack dead) = dead := by simp [deadOf, AreaV.pack, numB_one]
theorem unpackA_pack {a : AreaV} (h : a.formedB = true) (dead : Bool) : unpackA (a.pack dead) = some (a, dead) := by
  unfold unpackA
  rw [areaOf_pack, deadOf_pack, if_pos ⟨a.pack_len dead, h, rfl⟩]
theorem unpackA_some {xs : List Int} {a : AreaV} {dead : Bool} (h : unpackA xs = some (a, dead)) : a.formedB = true ∧ a.pack dead = xs := by
  unfold unpackA at h
  split at h
  · rename_i hc
    simp only [Option.some.injEq, Prod.mk.injEq] at h
    obtain ⟨rfl, rfl⟩ := h
    exact ⟨hc.2.1, hc.2.2⟩
  · cases h
theorem unpackA_inj {xs ys : List Int} {p : AreaV × Bool} (h : unpackA xs = some p) (h' : unpackA ys = some p) : xs = ys := (unpackA_some (a := p.1) (dead := p.2) h).2.symm.trans (unpackA_some (a := p.1) (dead := p.2) h').2
theorem AreaV.pack_wf {a : AreaV} (h : a.formedB = true) (dead : Bool) : ∀ x ∈ a.pack dead, -9223372036854775808 ≤ x ∧ x ≤ 9223372036854775807 := by
  rw [AreaV.formed_iff] at h
  obtain ⟨h1, h2, h3, h4, h5, h6, h7, h8, h9, h10, h11, h12, h13⟩ := h
  have ho : a.off ≤ 1099511627776 := by
    by_cases hb : a.back = 0
    · rw [h10 hb]; omega
    · have := h13 hb; omega
  intro x hx
  have hn : ∀ b, 0 ≤ numB b ∧ numB b ≤ 1 := fun b => by cases b <;> decide
  have hn1 := hn dead
  have hn2 := hn a.shared
  simp only [AreaV.pack, List.mem_append, List.mem_cons, List.not_mem_nil, or_false] at hx
  rcases hx with (h0 | h0 | h0 | h0 | h0 | h0 | h0 | h0) | h0
  all_goals first | omega | (have := List.eq_of_mem_replicate h0; omega)
/-- A thing's words say whether it is a node or an area. -/
theorem node_or_area {xs : List Int} {n : NodeV} {p : AreaV × Bool} (h : unpackL xs = some n) (h' : unpackA xs = some p) : False := by
  obtain ⟨-, hf, hp⟩ := unpack_some h
  obtain ⟨-, hq⟩ := unpackA_some (a := p.1) (dead := p.2) h'
  obtain ⟨h1, h2, -⟩ := NodeV.formed_iff hf
  have e : n.pack.getD 0 0 = n.head := rfl
  have e' : (p.1.pack p.2).getD 0 0 = 3 := rfl
  rw [hp] at e
  rw [hq, e] at e'
  unfold NodeV.head at e'
  split at e' <;> omega
end Go.Proofs.Ytohidmkfpaiklaa
