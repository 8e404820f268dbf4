/- Law 17, plainly: in a leaf an address is found where it is gone through; a tree that goes round is left. -/
import Derived.Test.YtldccemgfjmcdaaWalkP
import Derived.Test.YtldccemgfjmcdaaDownP17
namespace Go.Proofs.Ytldccemgfjmcdaa
open Go.RowKit
set_option linter.unusedSimpArgs false
set_option linter.unusedVariables false

theorem pack_head' (n : NodeV) : n.pack.getD 0 0 = n.head := by simp [NodeV.pack]
theorem head_facts' {n : NodeV} (hf : n.formedB = true) : headOf n.head = (n.inner, n.ends.length) := by
  obtain ⟨k1, k8, -, -, -⟩ := NodeV.formed_iff hf
  have hgood : 17 ≤ n.head ∧ n.head ≤ 130 ∧ (n.head % 16 = 1 ∨ n.head % 16 = 2) := by
    unfold NodeV.head
    split <;> omega
  rw [headOf_yes hgood]
  unfold NodeV.head
  cases n.inner with
  | true =>
    simp only [if_true, Prod.mk.injEq, beq_iff_eq]
    omega
  | false =>
    simp only [Bool.false_eq_true, if_false, Prod.mk.injEq, beq_eq_false_iff_ne]
    omega
theorem pack_parts' {n : NodeV} (hf : n.formedB = true) : n.pack.getD 1 0 = n.lo ∧ (n.pack.drop 2).take n.ends.length = n.ends ∧ (n.pack.drop 10).take n.ends.length = n.slots ∧ (n.pack.drop 18).take n.ends.length = n.gaps := by
  have h := (unpack_some (unpack_pack hf)).1
  have hh := head_facts' hf
  have e : (n.pack.getD 0 0 / 16).toNat = n.ends.length := by
    rw [pack_head']
    obtain ⟨k1, k8, -, -, -⟩ := NodeV.formed_iff hf
    unfold NodeV.head
    split <;> omega
  unfold nodeOf at h
  rw [e] at h
  have h1 := congrArg NodeV.lo h
  have h2 := congrArg NodeV.ends h
  have h3 := congrArg NodeV.slots h
  have h4 := congrArg NodeV.gaps h
  exact ⟨h1.symm, h2.symm, h3.symm, h4.symm⟩
theorem getD_take_drop' (x : List Int) (c k i : Nat) (hi : i < k) : x.getD (c + i) 0 = ((x.drop c).take k).getD i 0 := by
  simp [List.getD_eq_getElem?_getD, List.getElem?_take, hi, List.getElem?_drop]
theorem nodeP_pack' {n : NodeV} (hf : n.formedB = true) : nodeP n.pack = (some n, 2 + 3 * n.ends.length) := by
  obtain ⟨k1, k8, -, -, -⟩ := NodeV.formed_iff hf
  obtain ⟨p1, p2, p3, p4⟩ := pack_parts' hf
  unfold nodeP
  rw [pack_head', head_facts' hf]
  simp only
  rw [if_neg (by omega), p1, p2, p3, p4]
  unfold nodeAns
  simp only
  rw [if_pos hf]
theorem lookP_pack' {n : NodeV} (hf : n.formedB = true) (addr : Int) : lookP n.pack addr = ((lookGo n.pack addr n.inner 0 n.ends.length).1, (lookGo n.pack addr n.inner 0 n.ends.length).2.1, (lookGo n.pack addr n.inner 0 n.ends.length).2.2.1, (lookGo n.pack addr n.inner 0 n.ends.length).2.2.2 + 1) := by
  unfold lookP
  rw [pack_head', head_facts' hf]
theorem of_one (x : List Int) : ofP [x] 65537 = some x := by
  have : slotOf 65537 = 1 := by decide
  unfold ofP
  rw [this]
  rfl
theorem chain_all {n : NodeV} (hf : n.formedB = true) : ∀ i, i ≤ n.ends.length → chainB n.inner (n.from_ i) (n.ends.drop i) (n.slots.drop i) (n.gaps.drop i) = true
  | 0, _ => by
    unfold NodeV.formedB at hf
    simp only [Bool.and_eq_true] at hf
    simpa [NodeV.from_] using hf.2
  | i + 1, h => by
    obtain ⟨-, -, hs, hg, -⟩ := NodeV.formed_iff hf
    have := chain_all hf i (by omega)
    rw [n.chain_at hs hg (by omega)] at this
    simp only [Bool.and_eq_true] at this
    exact this.2
theorem entry_all {n : NodeV} (hf : n.formedB = true) {i : Nat} (hi : i < n.ends.length) : entryB n.inner (n.ends.getD i 0) (n.slots.getD i 0) (n.gaps.getD i 0) (n.from_ i) = true := by
  obtain ⟨-, -, hs, hg, -⟩ := NodeV.formed_iff hf
  have := chain_all hf i (by omega)
  rw [n.chain_at hs hg hi] at this
  simp only [Bool.and_eq_true] at this
  exact this.1

/-! ### A leaf -/
def ents : List (Int × Int) → Int → List EntV
  | [], _ => []
  | (e, s) :: l, lo => ⟨lo, e, s⟩ :: ents l e
theorem goP_leaf (rec : Int → List EntV → List Int → DownQ) : ∀ l lo es ns, goP rec false l lo es ns = (true, es ++ ents l lo, ns, 0)
  | [], lo, es, ns => by simp [goP, ents]
  | (e, s) :: l, lo, es, ns => by simp [goP, ents, goP_leaf rec l]
theorem ents_len : ∀ l lo, (ents l lo).length = l.length
  | [], _ => rfl
  | (e, s) :: l, lo => by simp [ents, ents_len l]
theorem ents_at : ∀ (es ss : List Int) (lo : Int) (i : Nat), es.length = ss.length → i < es.length → (ents (es.zip ss) lo)[i]? = some ⟨if i = 0 then lo else es.getD (i - 1) 0, es.getD i 0, ss.getD i 0⟩
  | e :: es, s :: ss, lo, 0, _, _ => by simp [ents]
  | e :: es, s :: ss, lo, i + 1, h, hi => by
    have := ents_at es ss e i (by simpa using h) (by simpa using hi)
    simp only [List.zip_cons_cons, ents, List.getElem?_cons_succ, this, Nat.add_sub_cancel, List.getD_cons_succ, Option.some.injEq, EntV.mk.injEq, and_true, if_neg (Nat.succ_ne_zero i)]
    cases i with
    | zero => simp
    | succ i => simp
theorem leaf_all {n : NodeV} (hf : n.formedB = true) (hi : n.inner = false) : downP [n.pack] 8 65537 [] [] = (true, ents (n.ends.zip n.slots) n.lo, [65537], 2 + 3 * n.ends.length) := by
  rw [downP]
  simp only [List.length_nil]
  rw [if_neg (by decide), of_one]
  simp only [nodeP_pack' hf, hi, goP_leaf, List.nil_append, Nat.add_zero]
theorem lookGo_inner (x : List Int) (addr : Int) (inner : Bool) : ∀ k i, (lookGo x addr inner i k).2.2.1 = true → (lookGo x addr inner i k).2.1 = inner
  | 0, _, h => by simp [lookGo] at h
  | k + 1, i, h => by
    unfold lookGo at h ⊢
    split at h
    · rename_i hc
      rw [if_pos hc]
      exact lookGo_inner x addr inner k (i + 1) h
    · rename_i hc
      rw [if_neg hc]
theorem leaf_find {n : NodeV} (hf : n.formedB = true) (hi : n.inner = false) (addr : Int) :
    (findP [n.pack] addr 8 65537).2.1 = (lookGo n.pack addr n.inner 0 n.ends.length).2.2.1 ∧ ((findP [n.pack] addr 8 65537).2.1 = true → (findP [n.pack] addr 8 65537).1 = (lookGo n.pack addr n.inner 0 n.ends.length).1) := by
  have hl := lookP_pack' hf addr
  have hin := lookGo_inner n.pack addr n.inner n.ends.length 0
  rw [findP, of_one]
  simp only [hl]
  cases hq : (lookGo n.pack addr n.inner 0 n.ends.length).2.2.1 with
  | false => simp
  | true =>
    rw [hq] at hin
    rw [hin rfl, hi]
    simp
/-- Behind the entries ahead of number i. -/
def AgreeAt (n : NodeV) (addr : Int) (h : Int) (ok : Bool) (i : Nat) : Prop :=
  (addr < n.from_ i ∧ addr < n.lo) ∨ (n.from_ i ≤ addr ∧ (lookGo n.pack addr n.inner i (n.ends.length - i)).2.2.1 = ok ∧ (ok = true → h = (lookGo n.pack addr n.inner i (n.ends.length - i)).1))
section
variable {n : NodeV} {addr h : Int} {ok : Bool} {i : Nat}
theorem AgreeAt.start (hf : n.formedB = true) (hi : n.inner = false) (addr : Int) : AgreeAt n addr (findP [n.pack] addr 8 65537).1 (findP [n.pack] addr 8 65537).2.1 0 := by
  obtain ⟨h1, h2⟩ := leaf_find hf hi addr
  unfold AgreeAt
  simp only [NodeV.from_, if_true, Nat.sub_zero]
  rcases Int.lt_or_le addr n.lo with hlt | hle
  · exact .inl ⟨hlt, hlt⟩
  · exact .inr ⟨hle, h1.symm, h2⟩
theorem AgreeAt.next (hf : n.formedB = true) (hi : i < n.ends.length) (hn : ¬ (n.from_ i ≤ addr ∧ addr < n.ends.getD i 0)) (a : AgreeAt n addr h ok i) : AgreeAt n addr h ok (i + 1) := by
  have hlt := entryB_lt (entry_all hf hi)
  obtain ⟨p1, p2, p3, p4⟩ := pack_parts' hf
  unfold AgreeAt
  rw [n.from_succ]
  rcases a with ⟨a1, a2⟩ | ⟨a1, a2, a3⟩
  · exact .inl ⟨by omega, a2⟩
  · have hge : n.ends.getD i 0 ≤ addr := by omega
    refine .inr ⟨hge, ?_⟩
    rw [show n.ends.length - i = (n.ends.length - (i + 1)) + 1 by omega, lookGo, getD_take_drop' _ _ _ _ hi, p2, if_pos hge] at a2 a3
    exact ⟨a2, a3⟩
theorem AgreeAt.hit (hf : n.formedB = true) (hi : i < n.ends.length) (h1 : n.from_ i ≤ addr) (h2 : addr < n.ends.getD i 0) (a : AgreeAt n addr h ok i) : ok = true ∧ h = n.slots.getD i 0 := by
  obtain ⟨p1, p2, p3, p4⟩ := pack_parts' hf
  rcases a with ⟨a1, a2⟩ | ⟨a1, a2, a3⟩
  · omega
  · rw [show n.ends.length - i = (n.ends.length - (i + 1)) + 1 by omega, lookGo, getD_take_drop' _ _ _ _ hi, p2, if_neg (by omega), getD_take_drop' _ _ _ _ hi, p3] at a2 a3
    simp only at a2 a3
    exact ⟨a2.symm, a3 a2.symm⟩
theorem AgreeAt.done (a : AgreeAt n addr h ok n.ends.length) : ok = false ∨ addr < n.lo := by
  rcases a with ⟨a1, a2⟩ | ⟨a1, a2, a3⟩
  · exact .inr a2
  · rw [Nat.sub_self] at a2
    exact .inl a2.symm
end

/-! ### A tree that goes round -/
def roundN (K : Nat) : NodeV := ⟨true, 65536, (List.range K).map (fun (i : Nat) => 4096 * (17 + (i : Int))), List.replicate K 65537, List.replicate K 0⟩
theorem round_formed {K : Nat} (h1 : 1 ≤ K) (h8 : K ≤ 8) : (roundN K).formedB = true := by
  match K, h1, h8 with
  | 1, _, _ => decide
  | 2, _, _ => decide
  | 3, _, _ => decide
  | 4, _, _ => decide
  | 5, _, _ => decide
  | 6, _, _ => decide
  | 7, _, _ => decide
  | 8, _, _ => decide
theorem round_len (K : Nat) : (roundN K).ends.length = K := by simp [roundN]
theorem round_slot {K : Nat} (h1 : 1 ≤ K) (h8 : K ≤ 8) {j : Nat} (hj : j < (headOf ((roundN K).pack.getD 0 0)).2) : (roundN K).pack.getD (10 + j) 0 = 65537 := by
  have hf := round_formed h1 h8
  obtain ⟨p1, p2, p3, p4⟩ := pack_parts' hf
  rw [pack_head', head_facts' hf] at hj
  simp only at hj
  rw [getD_take_drop' _ _ _ _ hj, p3]
  rw [round_len] at hj
  simp [roundN, List.getD_eq_getElem?_getD, List.getElem?_replicate, hj]
theorem round_closed {K : Nat} (h1 : 1 ≤ K) (h8 : K ≤ 8) : Closed [(roundN K).pack] (fun h => h = 65537) := by
  rintro h rfl
  refine ⟨land_right (xs := [(roundN K).pack]) (i := 0) (by simp) (by simp), fun x hx k hk => ?_⟩
  rw [of_one] at hx
  injection hx with e
  subst e
  exact round_slot h1 h8 hk
theorem round_find {K : Nat} (h1 : 1 ≤ K) (h8 : K ≤ 8) (addr : Int) : ∀ k, (findP [(roundN K).pack] addr k 65537).2.1 = false
  | 0 => rfl
  | k + 1 => by
    have hf := round_formed h1 h8
    have hin : (lookP (roundN K).pack addr).2.2.1 = true → (lookP (roundN K).pack addr).2.1 = true := by
      rw [lookP_pack' hf]
      exact lookGo_inner _ addr _ _ _
    rw [findP, of_one]
    simp only
    cases hq : (lookP (roundN K).pack addr).2.2.1 with
    | false => simp
    | true =>
      obtain ⟨j, hj, e⟩ := lookP_slot hq
      rw [hin hq, e, round_slot h1 h8 hj]
      simpa using round_find h1 h8 addr k
theorem round_zip {K : Nat} (h1 : 1 ≤ K) : (roundN K).ends.zip (roundN K).slots = (4096 * (17 + ((0 : Nat) : Int)), 65537) :: ((roundN K).ends.zip (roundN K).slots).drop 1 := by
  obtain ⟨K, rfl⟩ : ∃ q, K = q + 1 := ⟨K - 1, by omega⟩
  simp only [roundN, List.range_succ_eq_map, List.map_cons, List.replicate_succ, List.zip_cons_cons, List.drop_succ_cons, List.drop_zero]
theorem round_all {K : Nat} (h1 : 1 ≤ K) (h8 : K ≤ 8) : ∀ k es ns, (downP [(roundN K).pack] k 65537 es ns).1 = false
  | 0, _, _ => rfl
  | k + 1, es, ns => by
    have hf := round_formed h1 h8
    rw [downP]
    split
    · rfl
    · rw [of_one]
      simp only [nodeP_pack' hf]
      have e := round_zip h1
      rw [e]
      have := round_all h1 h8 k es (ns ++ [65537])
      rw [show (roundN K).inner = true from rfl]
      simp only [goP, Bool.true_eq_false, if_false, this, Bool.false_eq_true]
end Go.Proofs.Ytldccemgfjmcdaa
