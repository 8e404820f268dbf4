/- A struct of slices of all sorts that lie apart, with plain cells behind them. -/
import Derived.Test.YtldccemgfjmcdaaRowsAt
import Derived.Maps.AppendAt
namespace Go.Proofs.Ytldccemgfjmcdaa
open Go.RowKit
set_option linter.unusedSimpArgs false
set_option linter.unusedVariables false

/-- What was changed since lies at B or above, and apart from X. -/
def Off (B : Nat) (X : List Nat) (w w' : World) : Prop := ∃ G, Upd G w w' ∧ ∀ b ∈ G, B ≤ b ∧ b ∉ X
section
variable {w w' w'' : World} {B : Nat} {X Y : List Nat}
theorem Off.refl : Off B X w w := ⟨[], Upd.refl _ _, by simp⟩
theorem Off.trans (h : Off B X w w') (h2 : Off B X w' w'') : Off B X w w'' := by
  obtain ⟨G, hu, hG⟩ := h
  obtain ⟨G2, hu2, hG2⟩ := h2
  exact ⟨G ++ G2, (hu.mono (by intro b hb; exact List.mem_append.2 (.inl hb))).trans (hu2.mono (by intro b hb; exact List.mem_append.2 (.inr hb))), fun b hb => (List.mem_append.1 hb).elim (hG b) (hG2 b)⟩
theorem Off.thru (h : Off B X w w') (hb : Below w'.heap.size w' w'') : Off B X w w'' := by
  obtain ⟨G, hu, hG⟩ := h
  exact ⟨G, hu.trans ((Upd.of_below hb (F := [])).mono (by simp)), hG⟩
theorem Off.of_below (hb : Below w.heap.size w w') : Off B X w w' := ⟨[], Upd.of_below hb, by simp⟩
theorem Off.below (h : Off B X w w') (hB : B ≤ w.heap.size) : Below B w w' := by
  obtain ⟨G, hu, hG⟩ := h
  exact below_upd (Below.refl B w) hu hB fun b hb => (hG b hb).1
theorem Off.less (h : Off B X w w') (hX : ∀ b ∈ Y, b ∈ X) : Off B Y w w' := by
  obtain ⟨G, hu, hG⟩ := h
  exact ⟨G, hu, fun b hb => ⟨(hG b hb).1, fun hy => (hG b hb).2 (hX b hy)⟩⟩
theorem Off.size (h : Off B X w w') : w.heap.size ≤ w'.heap.size := h.elim fun _ h => h.1.size
end
structure FRow where
  ty : TypeId
  z : Nat
  a : Option Addr
  cap : Nat
  n : Nat
  xs : List Value
def FRow.val (r : FRow) : Value := .slice r.a r.n r.cap
theorem blockOf_own {A : Option Addr} {n c : Nat} {b : Nat} : (Value.slice A n c).ownBlock = some b ↔ b ∈ blockOf A := by
  cases A with
  | none => simp [blockOf, Value.ownBlock]
  | some a => simp [blockOf, Value.ownBlock, eq_comm]
theorem own_lo {w : World} {B z n c : Nat} {t : TypeId} {A : Option Addr} {xs : List Value} (h : w.ownsRow B t z (.slice A n c) n xs) : ∀ b ∈ blockOf A, B ≤ b := by
  intro b hb
  exact (Rows'.ofOwn h).2 b (blockOf_own.2 hb)
theorem own_at {w : World} {B z n c j : Nat} {t : TypeId} {A : Option Addr} {xs : List Value} {u : Value} (h : w.ownsRow B t z (.slice A n c) n xs) (hu : xs[j]? = some u) :
    ∃ g, A = some ⟨g, 0, none⟩ ∧ w.cell? ⟨g, j, none⟩ = some u ∧ w.frozen? ⟨g, j, none⟩ = false := by
  rcases (Rows'.ofOwn h).1 with ⟨-, -, rfl⟩ | ⟨g, cap, hv, hr⟩
  · simp at hu
  · injection hv with h1 h2 h3
    subst h1
    exact ⟨g, rfl, hr.cell hu, hr.free j⟩
theorem own_put {w : World} {B z n c j g : Nat} {t : TypeId} {xs : List Value} {u v : Value} (h : w.ownsRow B t z (.slice (some ⟨g, 0, none⟩) n c) n xs) (hu : xs[j]? = some u) : (w.setCell ⟨g, j, none⟩ v).ownsRow B t z (.slice (some ⟨g, 0, none⟩) n c) n (xs.set j v) := by
  have hlo := own_lo h g (by simp [blockOf])
  rcases (Rows'.ofOwn h).1 with ⟨hv, -, -⟩ | ⟨g', cap, hv, hr⟩
  · cases hv
  · injection hv with h1 h2 h3
    injection h1 with h1
    injection h1 with h1 _ _
    subst h1 h3
    exact (hr.put (List.getElem?_eq_some_iff.1 hu).1 v).toOwn hlo
theorem own_cap {w : World} {B z n c : Nat} {t : TypeId} {A : Option Addr} {xs : List Value} (h : w.ownsRow B t z (.slice A n c) n xs) : n ≤ c ∧ c ≤ maxLen := by
  rcases h.2 with ⟨hv, h0⟩ | ⟨g, cap, cur, hv, -, -, h1, h2, -⟩
  · injection hv with h1 h2 h3
    exact ⟨by omega, by rw [h3]; decide⟩
  · injection hv with e1 e2 e3
    subst e3
    exact ⟨h1, h2⟩
/-- append, of a part of another row (or of nothing): where the new slice lies. -/
theorem wpList_append_part {P : Program} (w : World) {ops : Array Oper} {rest : List Oper} {o : Oper} {a : Act} {Q : Exit → Act → World → Prop} (hgd : o.guard = none) (s x : Operand) (t : TypeId)
    (ho : o.op = .call { callee := .builtin .append, args := #[s, x], argTypes := #[t, t] })
    (base : Nat) (e : TypeId) (i : TypeInfo) (z : Value) (size bytes : Nat) (ht : P.underlying t = some (.slice e)) (hi : P.info? e = some i) (hz : i.zero = some z)
    (hsize : i.size = size) (hby : i.bytes = bytes) (hzs : z.cells.size = size) (hsz : 0 < size)
    (A0 : Option Addr) (c0 : Nat) (n : Nat) (xs : List Value) (hs : a.eval s = .slice A0 n c0) (hown : w.ownsRow base e size (.slice A0 n c0) n xs)
    (A : Option Addr) (ad : Addr) (m c : Nat) (news : List Value) (hx : a.eval x = .slice A m c) (hA : A = some ad) (hl : news.length = m * size) (hnews : ∀ j u, news[j]? = some u → w.cell? (ad.add j) = some u) (h1 : ∀ u ∈ news, u.oneCell' = true)
    (h63 : n + m ≤ maxLen) (hbytes : (n + m) * bytes ≤ 140737488355328) (hbase : base ≤ w.heap.size)
    (h : ∀ A' cap w', w'.ownsRow base e size (.slice A' (n + m) cap) (n + m) (xs ++ news) → Upd (blockOf A0) w w' → (∀ b ∈ blockOf A', b ∈ blockOf A0 ∨ w.heap.size ≤ b) → wpList P ops Q rest (a.put o.dst (.slice A' (n + m) cap)) w') : wpList P ops Q (o :: rest) a w := by
  subst hA
  obtain ⟨v', w', hr, h2, h3, _, h5⟩ := run_append_own_at (P := P) w base t o.type e i z size bytes ht hi hz hsize hby hzs hsz (.slice A0 n c0) n xs hown ad m c news hl hnews h1 h63 hbytes hbase
  obtain ⟨A', cap, rfl⟩ : ∃ A' cap, v' = .slice A' (n + m) cap := by
    rcases h2.2 with ⟨hv, h0⟩ | ⟨g, cap, cur, hv, -⟩
    · exact ⟨none, 0, by rw [hv, h0]⟩
    · exact ⟨_, cap, hv⟩
  refine wpList_plain hgd fun K hK' => ?_
  unfold Oper.wp
  simp only [execOp, ho, resolve, invoke, builtin, Sem.run_bind, Sem.run_pure, Result.andThen_ok, List.map_toArray, List.map_cons, List.map_nil, hs, hx, hr]
  refine hK' _ _ (h A' cap w' h2 ((Upd.refl _ _).grown h3 fun b hb => .inl (blockOf_own.1 hb)) fun b hb => ?_)
  have hb2 := (blockOf_own (n := n + m) (c := cap)).2 hb
  rcases h5 with h5 | h5
  · exact .inl (blockOf_own.1 (h5 ▸ hb2))
  · rw [h5] at hb2
    injection hb2 with hb2
    exact .inr (by omega)
structure GRows (w : World) (B nb : Nat) (ty : TypeId) (rows : List FRow) (tl : List Value) (X : List Nat) : Prop where
  blk : Blk w nb ty (rows.map FRow.val ++ tl).toArray
  own : ∀ r ∈ rows, w.ownsRow B r.ty r.z r.val r.n r.xs
  apart : ∀ (k l : Nat) (r q : FRow), rows[k]? = some r → rows[l]? = some q → k ≠ l → ∀ b ∈ blockOf r.a, b ∉ blockOf q.a
  far : ∀ r ∈ rows, ∀ b ∈ blockOf r.a, b ∉ X
  nfar : nb ∉ X
  tne : ∀ r ∈ rows, r.ty ≠ ty
  lo : B ≤ nb
section
variable {w w' w4 : World} {B nb : Nat} {ty : TypeId} {rows : List FRow} {tl : List Value} {X Y G : List Nat} {r r' : FRow} {k : Nat}
theorem GRows.lt (h : GRows w B nb ty rows tl X) : ∀ r ∈ rows, ∀ b ∈ blockOf r.a, b < w.heap.size := fun r hr b hb => ownsRow_blockLt (h.own r hr) b hb
theorem GRows.nb_not (h : GRows w B nb ty rows tl X) : ∀ r ∈ rows, nb ∉ blockOf r.a := fun r hr => blk_notin (h.own r hr) h.blk (h.tne r hr)
theorem GRows.upd (h : GRows w B nb ty rows tl X) (hu : Upd G w w') (hn : nb ∉ G) (hG : ∀ r ∈ rows, ∀ b ∈ blockOf r.a, b ∉ G) : GRows w' B nb ty rows tl X :=
  ⟨h.blk.upd hu hn, fun r hr => ownsRow_upd (h.own r hr) hu (hG r hr), h.apart, h.far, h.nfar, h.tne, h.lo⟩
theorem GRows.thru (h : GRows w B nb ty rows tl X) (hb : Below w.heap.size w w') : GRows w' B nb ty rows tl X := h.upd (Upd.of_below hb (F := [])) (by simp) (by simp)
/-- What is done to what is avoided leaves it. -/
theorem GRows.other (h : GRows w B nb ty rows tl X) (hu : Upd G w w') (hG : ∀ b ∈ G, b ∈ X ∨ w.heap.size ≤ b) : GRows w' B nb ty rows tl X := by
  refine h.upd hu (fun hin => (hG _ hin).elim h.nfar (fun e => by have := h.blk.lt; omega)) fun r hr b hb hin => (hG _ hin).elim (h.far r hr b hb) (fun e => by have := h.lt r hr b hb; omega)
theorem GRows.more (h : GRows w B nb ty rows tl X) (hY : ∀ b ∈ Y, b ∈ X ∨ w.heap.size ≤ b) : GRows w B nb ty rows tl Y :=
  ⟨h.blk, h.own, h.apart, fun r hr b hb hin => (hY _ hin).elim (h.far r hr b hb) (fun e => by have := h.lt r hr b hb; omega), fun hin => (hY _ hin).elim h.nfar (fun e => by have := h.blk.lt; omega), h.tne, h.lo⟩
theorem GRows.field (h : GRows w B nb ty rows tl X) (hk : rows[k]? = some r) : w.cell? ⟨nb, k, none⟩ = some r.val := by
  refine h.blk.at_ ?_
  have hkl : k < rows.length := (List.getElem?_eq_some_iff.1 hk).1
  rw [List.getElem?_toArray, List.getElem?_append_left (by simpa using hkl), List.getElem?_map, hk]
  rfl
theorem GRows.elem (h : GRows w B nb ty rows tl X) (hk : rows[k]? = some r) {j : Nat} {u : Value} (hu : r.xs[j]? = some u) : ∃ g, r.a = some ⟨g, 0, none⟩ ∧ w.cell? ⟨g, j, none⟩ = some u ∧ w.frozen? ⟨g, j, none⟩ = false :=
  own_at (h.own r (List.mem_of_getElem? hk)) hu
/-- A field gets another row. -/
theorem GRows.setRow (h : GRows w B nb ty rows tl X) (hk : rows[k]? = some r) (hu4 : Upd (blockOf r.a) w w4) (hown : w4.ownsRow B r'.ty r'.z r'.val r'.n r'.xs) (hty : r'.ty ≠ ty) (hb' : ∀ b ∈ blockOf r'.a, b ∈ blockOf r.a ∨ w.heap.size ≤ b) (hX : ∀ b ∈ X, b < w.heap.size) :
    GRows (w4.setCell ⟨nb, k, none⟩ r'.val) B nb ty (rows.set k r') tl X ∧ Off B X w (w4.setCell ⟨nb, k, none⟩ r'.val) ∧ w4.cell? ⟨nb, k, none⟩ = some r.val ∧ w4.frozen? ⟨nb, k, none⟩ = false := by
  have hmem : r ∈ rows := List.mem_of_getElem? hk
  have hkl : k < rows.length := (List.getElem?_eq_some_iff.1 hk).1
  have hnb := h.nb_not r hmem
  have h4 := h.blk.upd hu4 hnb
  have hput := h4.put k r'.val
  have hnb' : nb ∉ blockOf r'.a := fun hin => (hb' _ hin).elim hnb (fun e => by have := h.blk.lt; omega)
  refine ⟨⟨?_, ?_, ?_, ?_, h.nfar, ?_, h.lo⟩, ⟨nb :: blockOf r.a, (hu4.mono (by intro b hb; simp [hb])).put (.inl (by simp)) _, ?_⟩, ?_, h4.free _⟩
  · have e : ((rows.map FRow.val ++ tl).toArray).setIfInBounds k r'.val = ((rows.set k r').map FRow.val ++ tl).toArray := by
      apply Array.ext'
      rw [Array.toList_setIfInBounds]
      simp only [List.map_set]
      rw [List.set_append_left _ _ (by simpa using hkl)]
    rw [e] at hput
    exact hput
  · intro q hq
    obtain ⟨l, hl⟩ := List.getElem?_of_mem hq
    by_cases hlk : l = k
    · subst hlk
      rw [List.getElem?_set_self hkl] at hl
      injection hl with hl
      subst hl
      exact ownsRow_far hown (p := ⟨nb, l, none⟩) hnb' _
    · rw [List.getElem?_set_ne (by omega)] at hl
      have hq' : q ∈ rows := List.mem_of_getElem? hl
      exact ownsRow_far (ownsRow_upd (h.own q hq') hu4 (h.apart l k q r hl hk hlk)) (p := ⟨nb, k, none⟩) (h.nb_not q hq') _
  · intro i l x y hx hy hil b hb hb2
    by_cases hik : i = k
    · subst hik
      rw [List.getElem?_set_self hkl] at hx
      injection hx with hx
      subst hx
      rw [List.getElem?_set_ne (by omega)] at hy
      rcases hb' b hb with e | e
      · exact h.apart i l r y hk hy hil b e hb2
      · have := h.lt y (List.mem_of_getElem? hy) b hb2; omega
    · rw [List.getElem?_set_ne (by omega)] at hx
      by_cases hlk : l = k
      · subst hlk
        rw [List.getElem?_set_self hkl] at hy
        injection hy with hy
        subst hy
        rcases hb' b hb2 with e | e
        · exact h.apart i l x r hx hk hil b hb e
        · have := h.lt x (List.mem_of_getElem? hx) b hb; omega
      · rw [List.getElem?_set_ne (by omega)] at hy
        exact h.apart i l x y hx hy hil b hb hb2
  · intro q hq b hb hin
    rcases List.mem_or_eq_of_mem_set hq with hq' | rfl
    · exact h.far q hq' b hb hin
    · rcases hb' b hb with e | e
      · exact h.far r hmem b e hin
      · have := hX b hin; omega
  · intro q hq
    rcases List.mem_or_eq_of_mem_set hq with hq' | rfl
    · exact h.tne q hq'
    · exact hty
  · intro b hb
    simp only [List.mem_cons] at hb
    rcases hb with rfl | hb
    · exact ⟨h.lo, h.nfar⟩
    · exact ⟨own_lo (h.own r hmem) b hb, h.far r hmem b hb⟩
  · refine h4.at_ ?_
    rw [List.getElem?_toArray, List.getElem?_append_left (by simpa using hkl), List.getElem?_map, hk]
    rfl
/-- An append to a field. -/
theorem GRows.append (h : GRows w B nb ty rows tl X) (hk : rows[k]? = some r) {o : Obj} {g cap' m : Nat} {news : List Value}
    (hown : w4.ownsRow B r.ty r.z (.slice (some ⟨g, 0, none⟩) (r.n + m) cap') (r.n + m) (r.xs ++ news)) (hgrow : (w.alloc o).grownBy w4 r.val.ownBlock) (hat : r.val.ownBlock = some g ∨ g = w.heap.size + 1) (hX : ∀ b ∈ X, b < w.heap.size) :
    GRows (w4.setCell ⟨nb, k, none⟩ (.slice (some ⟨g, 0, none⟩) (r.n + m) cap')) B nb ty (rows.set k ⟨r.ty, r.z, some ⟨g, 0, none⟩, cap', r.n + m, r.xs ++ news⟩) tl X ∧ Off B X w (w4.setCell ⟨nb, k, none⟩ (.slice (some ⟨g, 0, none⟩) (r.n + m) cap')) ∧ w4.cell? ⟨nb, k, none⟩ = some r.val ∧ w4.frozen? ⟨nb, k, none⟩ = false := by
  have hu4 : Upd (blockOf r.a) w w4 := ((Upd.refl _ _).alloc o).grown hgrow fun b hb => .inl (blockOf_own.1 hb)
  refine h.setRow (r' := ⟨r.ty, r.z, some ⟨g, 0, none⟩, cap', r.n + m, r.xs ++ news⟩) hk hu4 hown (h.tne r (List.mem_of_getElem? hk)) ?_ hX
  intro b hb
  simp only [blockOf, List.mem_singleton] at hb
  subst hb
  rcases hat with e | e
  · exact .inl (blockOf_own.1 e)
  · exact .inr (by omega)
/-- One cell of a row. -/
theorem GRows.putCell (h : GRows w B nb ty rows tl X) (hk : rows[k]? = some r) {j g : Nat} {u v : Value} (hu : r.xs[j]? = some u) (ha : r.a = some ⟨g, 0, none⟩) :
    GRows (w.setCell ⟨g, j, none⟩ v) B nb ty (rows.set k { r with xs := r.xs.set j v }) tl X ∧ Off B X w (w.setCell ⟨g, j, none⟩ v) := by
  have hmem : r ∈ rows := List.mem_of_getElem? hk
  have hkl : k < rows.length := (List.getElem?_eq_some_iff.1 hk).1
  have hgb : g ∈ blockOf r.a := by rw [ha]; simp [blockOf]
  have hgn : nb ≠ g := fun e => h.nb_not r hmem (e ▸ hgb)
  have hux : Upd [g] w (w.setCell ⟨g, j, none⟩ v) := (Upd.refl _ _).put (.inl (by simp)) _
  refine ⟨⟨?_, ?_, ?_, ?_, h.nfar, ?_, h.lo⟩, ⟨[g], hux, ?_⟩⟩
  · have e : ((rows.set k { r with xs := r.xs.set j v }).map FRow.val ++ tl) = rows.map FRow.val ++ tl := by
      congr 1
      apply List.ext_getElem?
      intro i
      rw [List.getElem?_map, List.getElem?_map]
      by_cases hi : i = k
      · subst hi
        rw [List.getElem?_set_self hkl, hk]
        rfl
      · rw [List.getElem?_set_ne (by omega)]
    rw [e]
    exact h.blk.upd hux (by simp [hgn])
  · intro q hq
    obtain ⟨l, hl⟩ := List.getElem?_of_mem hq
    by_cases hlk : l = k
    · subst hlk
      rw [List.getElem?_set_self hkl] at hl
      injection hl with hl
      subst hl
      obtain ⟨rty, rz, ra, rc, rn, rx⟩ := r
      simp only at ha
      subst ha
      exact own_put (h.own _ hmem) hu
    · rw [List.getElem?_set_ne (by omega)] at hl
      have hq' : q ∈ rows := List.mem_of_getElem? hl
      exact ownsRow_upd (h.own q hq') hux (fun b hb hin => by simp at hin; subst hin; exact h.apart l k q r hl hk hlk b hb hgb)
  · intro i l x y hx hy hil b hb hb2
    have hx2 : ∃ x', rows[i]? = some x' ∧ x'.a = x.a := by
      by_cases hik : i = k
      · subst hik
        rw [List.getElem?_set_self hkl] at hx
        injection hx with hx
        subst hx
        exact ⟨r, hk, rfl⟩
      · rw [List.getElem?_set_ne (by omega)] at hx
        exact ⟨x, hx, rfl⟩
    have hy2 : ∃ y', rows[l]? = some y' ∧ y'.a = y.a := by
      by_cases hik : l = k
      · subst hik
        rw [List.getElem?_set_self hkl] at hy
        injection hy with hy
        subst hy
        exact ⟨r, hk, rfl⟩
      · rw [List.getElem?_set_ne (by omega)] at hy
        exact ⟨y, hy, rfl⟩
    obtain ⟨x', hx', ex⟩ := hx2
    obtain ⟨y', hy', ey⟩ := hy2
    exact h.apart i l x' y' hx' hy' hil b (ex ▸ hb) (ey ▸ hb2)
  · intro q hq b hb
    rcases List.mem_or_eq_of_mem_set hq with hq' | rfl
    · exact h.far q hq' b hb
    · exact h.far r hmem b hb
  · intro q hq
    rcases List.mem_or_eq_of_mem_set hq with hq' | rfl
    · exact h.tne q hq'
    · exact h.tne r hmem
  · intro b hb
    simp only [List.mem_singleton] at hb
    subst hb
    exact ⟨own_lo (h.own r hmem) b hgb, h.far r hmem b hgb⟩
/-- One of the plain cells. -/
theorem GRows.putTail (h : GRows w B nb ty rows tl X) (j : Nat) (v : Value) :
    GRows (w.setCell ⟨nb, rows.length + j, none⟩ v) B nb ty rows (tl.set j v) X ∧ Off B X w (w.setCell ⟨nb, rows.length + j, none⟩ v) := by
  have hux : Upd [nb] w (w.setCell ⟨nb, rows.length + j, none⟩ v) := (Upd.refl _ _).put (.inl (by simp)) _
  have hput := h.blk.put (rows.length + j) v
  refine ⟨⟨?_, fun r hr => ownsRow_upd (h.own r hr) hux (fun b hb hin => by simp at hin; subst hin; exact h.nb_not r hr hb), h.apart, h.far, h.nfar, h.tne, h.lo⟩, ⟨[nb], hux, fun b hb => by simp at hb; subst hb; exact ⟨h.lo, h.nfar⟩⟩⟩
  have e : ((rows.map FRow.val ++ tl).toArray).setIfInBounds (rows.length + j) v = (rows.map FRow.val ++ tl.set j v).toArray := by
    apply Array.ext'
    rw [Array.toList_setIfInBounds]
    rw [List.set_append_right _ _ (by simp), List.length_map, Nat.add_sub_cancel_left]
  rw [e] at hput
  exact hput
end
end Go.Proofs.Ytldccemgfjmcdaa
