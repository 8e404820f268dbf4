/- Rows that a walk owns (slices made by append): where they lie, what changes them. No function is named here. -/
import Derived.Test.YtohidmkfpaiklaaArgs
import Derived.Test.YtohidmkfpaiklaaFlat
import Derived.OneCell
import Derived.Maps.AppendAt
namespace Go.Proofs.Ytohidmkfpaiklaa
open Go.RowKit
set_option linter.unusedSimpArgs false
set_option linter.unusedVariables false

def blockOf : Option Addr → List Nat
  | none => []
  | some a => [a.block]
theorem blockOf_some (a : Addr) : blockOf (some a) = [a.block] := rfl
theorem ownsRow_upd {w w' : World} {base : Nat} {e : TypeId} {size : Nat} {A : Option Addr} {n cap : Nat} {xs : List Value} {F : List Nat} (h : w.ownsRow base e size (.slice A n cap) n xs) (hu : Upd F w w') (hF : ∀ b ∈ blockOf A, b ∉ F) :
    w'.ownsRow base e size (.slice A n cap) n xs := by
  refine ⟨h.1, ?_⟩
  rcases h.2 with h2 | ⟨g, cap', cur, hv, hlo, hh, h3⟩
  · exact .inl h2
  · refine .inr ⟨g, cap', cur, hv, hlo, ?_, h3⟩
    injection hv with hA
    subst hA
    exact (hu.block g (Array.getElem?_eq_some_iff.1 hh).1 (hF g (by simp [blockOf]))).trans hh
theorem ownsRow_blockLt {w : World} {base : Nat} {e : TypeId} {size : Nat} {A : Option Addr} {n cap : Nat} {xs : List Value} (h : w.ownsRow base e size (.slice A n cap) n xs) : ∀ b ∈ blockOf A, b < w.heap.size := by
  intro b hb
  cases A with
  | none => simp [blockOf] at hb
  | some a =>
    simp [blockOf] at hb
    subst hb
    exact (h.lt a.block rfl).2
theorem ownsRow_far {w : World} {base : Nat} {e : TypeId} {size : Nat} {A : Option Addr} {n cap : Nat} {xs : List Value} (h : w.ownsRow base e size (.slice A n cap) n xs) {p : Addr} (hp : p.block ∉ blockOf A) (u : Value) :
    (w.setCell p u).ownsRow base e size (.slice A n cap) n xs :=
  ownsRow_setCell_other h (by
    cases A with
    | none => simp [Value.ownBlock]
    | some a => simp [Value.ownBlock]; intro e; exact hp (by simp [blockOf, e])) u
/-- A block of another type is none of a row's. -/
theorem blk_notin {w : World} {base : Nat} {e : TypeId} {size : Nat} {A : Option Addr} {n cap : Nat} {xs : List Value} (h : w.ownsRow base e size (.slice A n cap) n xs) {b : Nat} {t : TypeId} {cs : Array Value} (hb : Blk w b t cs) (hne : e ≠ t) : b ∉ blockOf A := by
  intro hin
  rcases h.2 with ⟨hv, _⟩ | ⟨g, cap', cur, hv, _, hh, _⟩
  · injection hv with hA
    subst hA
    simp [blockOf] at hin
  · injection hv with hA
    subst hA
    simp [blockOf] at hin
    subst hin
    exact hne (Blk.inj hh hb).1
theorem own_some {w : World} {base : Nat} {e : TypeId} {size : Nat} {v : Value} {n : Nat} {xs : List Value} (h : w.ownsRow base e size v (n + 1) xs) : ∃ g cap, v = .slice (some ⟨g, 0, none⟩) (n + 1) cap := by
  rcases h.2 with ⟨_, h⟩ | ⟨g, cap, _, h, _⟩
  · omega
  · exact ⟨g, cap, h⟩
/-- Rows of different element types lie in different blocks. -/
theorem rows_apart {w : World} {b1 b2 : Nat} {e1 e2 : TypeId} {z1 z2 n1 n2 : Nat} {v1 v2 : Value} {xs ys : List Value} (h1 : w.ownsRow b1 e1 z1 v1 n1 xs) (h2 : w.ownsRow b2 e2 z2 v2 n2 ys) (hne : e1 ≠ e2) : v1.ownBlock = none ∨ v1.ownBlock ≠ v2.ownBlock := by
  rcases h1.2 with ⟨rfl, _⟩ | ⟨g1, _, _, rfl, _, hh1, _⟩
  · exact .inl rfl
  · right
    rcases h2.2 with ⟨rfl, _⟩ | ⟨g2, _, _, rfl, _, hh2, _⟩
    · simp [Value.ownBlock]
    · simp only [Value.ownBlock, ne_eq, Option.some.injEq]
      intro e
      subst e
      exact hne (Blk.inj hh1 hh2).1
theorem blockOf_own {A : Option Addr} {n c : Nat} {b : Nat} : (Value.slice A n c).ownBlock = some b ↔ b ∈ blockOf A := by
  cases A with
  | none => simp [blockOf, Value.ownBlock]
  | some a => simp [blockOf, Value.ownBlock, eq_comm]
theorem own_lo {w : World} {B z n c : Nat} {t : TypeId} {A : Option Addr} {xs : List Value} (h : w.ownsRow B t z (.slice A n c) n xs) : ∀ b ∈ blockOf A, B ≤ b := by
  intro b hb
  exact (Rows'.ofOwn h).2 b (blockOf_own.2 hb)
theorem own_at {w : World} {B z n c j : Nat} {t : TypeId} {A : Option Addr} {xs : List Value} {u : Value} (h : w.ownsRow B t z (.slice A n c) n xs) (hu : xs[j]? = some u) :
    ∃ g, A = some ⟨g, 0, none⟩ ∧ w.cell? ⟨g, j, none⟩ = some u ∧ w.frozen? ⟨g, j, none⟩ = false := by
  rcases (Rows'.ofOwn h).1 with ⟨-, -, rfl⟩ | ⟨g, cap, hv, hr⟩
  · simp at hu
  · injection hv with h1 h2 h3
    subst h1
    exact ⟨g, rfl, hr.cell hu, hr.free j⟩
theorem own_put {w : World} {B z n c j g : Nat} {t : TypeId} {xs : List Value} {u v : Value} (h : w.ownsRow B t z (.slice (some ⟨g, 0, none⟩) n c) n xs) (hu : xs[j]? = some u) : (w.setCell ⟨g, j, none⟩ v).ownsRow B t z (.slice (some ⟨g, 0, none⟩) n c) n (xs.set j v) := by
  have hlo := own_lo h g (by simp [blockOf])
  rcases (Rows'.ofOwn h).1 with ⟨hv, -, -⟩ | ⟨g', cap, hv, hr⟩
  · cases hv
  · injection hv with h1 h2 h3
    injection h1 with h1
    injection h1 with h1 _ _
    subst h1 h3
    exact (hr.put (List.getElem?_eq_some_iff.1 hu).1 v).toOwn hlo
theorem own_cap {w : World} {B z n c : Nat} {t : TypeId} {A : Option Addr} {xs : List Value} (h : w.ownsRow B t z (.slice A n c) n xs) : n ≤ c ∧ c ≤ maxLen := by
  rcases h.2 with ⟨hv, h0⟩ | ⟨g, cap, cur, hv, -, -, h1, h2, -⟩
  · injection hv with h1 h2 h3
    exact ⟨by omega, by rw [h3]; decide⟩
  · injection hv with e1 e2 e3
    subst e3
    exact ⟨h1, h2⟩
theorem own_none {w : World} {B z n c : Nat} {t : TypeId} {xs : List Value} (h : w.ownsRow B t z (.slice none n c) n xs) : n = 0 ∧ c = 0 := by
  rcases h.2 with ⟨hv, h0⟩ | ⟨g, cap, cur, hv, -⟩
  · injection hv with h1 h2 h3; exact ⟨h2, h3⟩
  · injection hv with h1; cases h1
theorem own_someG {w : World} {B z n c : Nat} {t : TypeId} {a : Addr} {xs : List Value} (h : w.ownsRow B t z (.slice (some a) n c) n xs) : ∃ g, a = ⟨g, 0, none⟩ := by
  rcases h.2 with ⟨hv, h0⟩ | ⟨g, cap, cur, hv, -⟩
  · cases hv
  · injection hv with h1; injection h1 with h1; exact ⟨g, h1⟩
/-- append of one new element (in a block of its own, laid just ahead) to a row that is owned. -/
theorem wpList_append_loc {P : Program} (w0 : World) {ops : Array Oper} {rest : List Oper} {o : Oper} {a : Act} {Q : Exit → Act → World → Prop} (hgd : o.guard = none) (s x : Operand) (t : TypeId)
    (ho : o.op = .call { callee := .builtin .append, args := #[s, x], argTypes := #[t, t] })
    (B : Nat) (e : TypeId) (i : TypeInfo) (z : Value) (size bytes : Nat) (ht : P.underlying t = some (.slice e)) (hi : P.info? e = some i) (hz : i.zero = some z)
    (hsize : i.size = size) (hby : i.bytes = bytes) (hzs : z.cells.size = size) (hsz : 0 < size)
    (A : Option Addr) (n c : Nat) (xs : List Value) (hs : a.eval s = .slice A n c) (hown : w0.ownsRow B e size (.slice A n c) n xs)
    (cs : Array Value) (hcs : cs.size = size) (hx : a.eval x = .slice (some ⟨w0.heap.size, 0, none⟩) 1 1) (h1 : ∀ u ∈ cs.toList, u.oneCell' = true)
    (h63 : n + 1 ≤ maxLen) (hbytes : (n + 1) * bytes ≤ 140737488355328) (hbase : B ≤ w0.heap.size)
    (h : ∀ g c' w', w'.ownsRow B e size (.slice (some ⟨g, 0, none⟩) (n + 1) c') (n + 1) (xs ++ cs.toList) → Upd (blockOf A) w0 w' → wpList P ops Q rest (a.put o.dst (.slice (some ⟨g, 0, none⟩) (n + 1) c')) w') :
    wpList P ops Q (o :: rest) a (w0.alloc (.cells cs e)) := by
  refine wpList_append_own_at (P := P) _ hgd s x t ho B e i z size bytes ht hi hz hsize hby hzs hsz (.slice A n c) n xs hs (hown.alloc _) ⟨w0.heap.size, 0, none⟩ 1 1 cs.toList hx (by simp [hcs]) ?_ h1 h63 hbytes (by simp; omega) ?_
  · intro j u hu
    have hb := Blk.new w0 e cs
    have : (⟨w0.heap.size, 0, none⟩ : Addr).add j = ⟨w0.heap.size, j, none⟩ := by unfold Addr.add; split <;> simp_all
    rw [this]
    exact hb.at_ (by rw [← hu, Array.getElem?_toList])
  · intro v' w' hown' hgrow _ hat
    obtain ⟨g, c', rfl⟩ := own_some hown'
    refine h g c' w' hown' (((Upd.refl _ _).alloc _).grown hgrow fun b hb => ?_)
    exact .inl (blockOf_own.1 hb)
/-- .. the same where the region draws its order. -/
theorem wp_append_loc {P : Program} (w0 : World) {o : Oper} {a : Act} {K : Act → World → Prop} {Q : Exit → Act → World → Prop} (s x : Operand) (t : TypeId)
    (ho : o.op = .call { callee := .builtin .append, args := #[s, x], argTypes := #[t, t] })
    (B : Nat) (e : TypeId) (i : TypeInfo) (z : Value) (size bytes : Nat) (ht : P.underlying t = some (.slice e)) (hi : P.info? e = some i) (hz : i.zero = some z)
    (hsize : i.size = size) (hby : i.bytes = bytes) (hzs : z.cells.size = size) (hsz : 0 < size)
    (A : Option Addr) (n c : Nat) (xs : List Value) (hs : a.eval s = .slice A n c) (hown : w0.ownsRow B e size (.slice A n c) n xs)
    (cs : Array Value) (hcs : cs.size = size) (hx : a.eval x = .slice (some ⟨w0.heap.size, 0, none⟩) 1 1) (h1 : ∀ u ∈ cs.toList, u.oneCell' = true)
    (h63 : n + 1 ≤ maxLen) (hbytes : (n + 1) * bytes ≤ 140737488355328) (hbase : B ≤ w0.heap.size)
    (h : ∀ g c' w', w'.ownsRow B e size (.slice (some ⟨g, 0, none⟩) (n + 1) c') (n + 1) (xs ++ cs.toList) → Upd (blockOf A) w0 w' → K (a.put o.dst (.slice (some ⟨g, 0, none⟩) (n + 1) c')) w') :
    o.wp P a (w0.alloc (.cells cs e)) K Q := by
  obtain ⟨v', w', hr, hown', hgrow, -, hat⟩ := run_append_own_at (P := P) (w0.alloc (.cells cs e)) B t o.type e i z size bytes ht hi hz hsize hby hzs hsz (.slice A n c) n xs (hown.alloc _) ⟨w0.heap.size, 0, none⟩ 1 1 cs.toList (by simp [hcs])
    (by
      intro j u hu
      have hb := Blk.new w0 e cs
      have : (⟨w0.heap.size, 0, none⟩ : Addr).add j = ⟨w0.heap.size, j, none⟩ := by unfold Addr.add; split <;> simp_all
      rw [this]
      exact hb.at_ (by rw [← hu, Array.getElem?_toList])) h1 h63 hbytes (by simp; omega)
  unfold Oper.wp execOp
  simp only [ho, resolve, invoke, builtin, Sem.run_bind, Sem.run_pure, Result.andThen_ok, List.map_toArray, List.map_cons, List.map_nil, hs, hx, hr]
  obtain ⟨g, c', rfl⟩ := own_some hown'
  exact h g c' w' hown' (((Upd.refl _ _).alloc _).grown hgrow fun b hb => .inl (blockOf_own.1 hb))
/-- One element of a row of structs set anew: its cell j. -/
theorem own_put_flat {E : Type} {f : E → List Value} {z : Nat} (hz : ∀ x, (f x).length = z) {w : World} {B n c g i j : Nat} {t : TypeId} {l : List E} {x x' : E} {v : Value}
    (h : w.ownsRow B t z (.slice (some ⟨g, 0, none⟩) n c) n (l.flatMap f)) (hi : l[i]? = some x) (hj : j < z) (hx : (f x).set j v = f x') :
    (w.setCell ⟨g, i * z + j, none⟩ v).ownsRow B t z (.slice (some ⟨g, 0, none⟩) n c) n ((l.set i x').flatMap f) := by
  obtain ⟨u, hu⟩ : ∃ u, (f x)[j]? = some u := ⟨(f x)[j]'(by rw [hz]; exact hj), List.getElem?_eq_getElem _⟩
  have hu2 : (l.flatMap f)[i * z + j]? = some u := (flat_get hz l i x j hi hj).trans hu
  have := own_put h hu2 (v := v)
  have hlt : i < l.length := (List.getElem?_eq_some_iff.1 hi).1
  rwa [show (l.flatMap f).set (i * z + j) v = (l.set i x').flatMap f from flat_put hz _ l i x' (by rw [List.length_set, flat_len hz]) hlt
    (fun k hk => by
      rw [← hx, List.getElem?_set, List.getElem?_set]
      by_cases e : j = k
      · subst e
        rw [if_pos rfl, if_pos rfl, if_pos (List.getElem?_eq_some_iff.1 hu2).1, if_pos (by rw [hz]; exact hj)]
      · rw [if_neg (by omega), if_neg e, flat_get hz l i x k hi hk])
    (fun k hk => by rw [List.getElem?_set_ne (by omega)])] at this
end Go.Proofs.Ytohidmkfpaiklaa
