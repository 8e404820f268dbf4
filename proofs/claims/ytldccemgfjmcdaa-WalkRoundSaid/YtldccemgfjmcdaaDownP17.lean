/- The reference of layer 17: Down: words. -/
import Derived.Test.YtldccemgfjmcdaaRef17
import Derived.Test.YtldccemgfjmcdaaRef16N
namespace Go.Proofs.Ytldccemgfjmcdaa
open Go.RowKit
set_option linter.unusedSimpArgs false
set_option linter.unusedVariables false

theorem nodeP_formed {x : List Int} {n : NodeV} (h : (nodeP x).1 = some n) : n.formedB = true := by
  unfold nodeP at h
  simp only at h
  split at h
  · cases h
  · unfold nodeAns at h
    split at h
    · rename_i hf
      simp only [Option.some.injEq] at h
      exact h ▸ hf
    · cases h
/-- How many entries there are. -/
theorem go_es {xs : List (List Int)} {k : Nat} (ih : ∀ h es ns, (downP xs k h es ns).2.1.length + 8 * ns.length ≤ es.length + 8 * (downP xs k h es ns).2.2.1.length) (inner : Bool) :
    ∀ (l : List (Int × Int)) lo es ns, (goP (downP xs k) inner l lo es ns).2.1.length + 8 * ns.length ≤ es.length + 8 * (goP (downP xs k) inner l lo es ns).2.2.1.length + (if inner = true then 0 else l.length)
  | [], lo, es, ns => by simp [goP]
  | (e, s) :: l, lo, es, ns => by
    cases inner with
    | false =>
      have h1 := go_es ih false l e (es ++ [⟨lo, e, s⟩]) ns
      have e2 : goP (downP xs k) false ((e, s) :: l) lo es ns = goP (downP xs k) false l e (es ++ [⟨lo, e, s⟩]) ns := by simp [goP]
      rw [e2]
      simp at h1 ⊢
      omega
    | true =>
      have h1 := ih s es ns
      by_cases hq : (downP xs k s es ns).1 = true
      · have h2 := go_es ih true l e (downP xs k s es ns).2.1 (downP xs k s es ns).2.2.1
        simp only [goP, hq, if_true] at h2 ⊢
        simp at h2 ⊢
        omega
      · simp only [goP, hq]
        simpa using h1
theorem down_es (xs : List (List Int)) : ∀ k h es ns, (downP xs k h es ns).2.1.length + 8 * ns.length ≤ es.length + 8 * (downP xs k h es ns).2.2.1.length
  | 0, h, es, ns => by simp [downP]
  | k + 1, h, es, ns => by
    unfold downP
    split
    · simp
    · split
      · simp; omega
      · split
        · simp; omega
        · rename_i n hn
          have h1 := go_es (down_es xs k) n.inner (n.ends.zip n.slots) n.lo es (ns ++ [h])
          obtain ⟨-, h8, hs, -⟩ := NodeV.formed_iff (nodeP_formed hn)
          simp only [List.length_append, List.length_singleton, List.length_zip] at h1 ⊢
          split at h1 <;> omega
theorem goP_cons (rec : Int → List EntV → List Int → DownQ) (m : NodeV) (hs : m.slots.length = m.ends.length) {i : Nat} (hi : i < m.ends.length) (lo : Int) (es : List EntV) (ns : List Int) :
    goP rec m.inner ((m.ends.zip m.slots).drop i) lo es ns = if m.inner = false then goP rec m.inner ((m.ends.zip m.slots).drop (i + 1)) (m.ends.getD i 0) (es ++ [⟨lo, m.ends.getD i 0, m.slots.getD i 0⟩]) ns
      else if (rec (m.slots.getD i 0) es ns).1 = true then ((goP rec m.inner ((m.ends.zip m.slots).drop (i + 1)) (m.ends.getD i 0) (rec (m.slots.getD i 0) es ns).2.1 (rec (m.slots.getD i 0) es ns).2.2.1).1, (goP rec m.inner ((m.ends.zip m.slots).drop (i + 1)) (m.ends.getD i 0) (rec (m.slots.getD i 0) es ns).2.1 (rec (m.slots.getD i 0) es ns).2.2.1).2.1, (goP rec m.inner ((m.ends.zip m.slots).drop (i + 1)) (m.ends.getD i 0) (rec (m.slots.getD i 0) es ns).2.1 (rec (m.slots.getD i 0) es ns).2.2.1).2.2.1, (rec (m.slots.getD i 0) es ns).2.2.2 + (goP rec m.inner ((m.ends.zip m.slots).drop (i + 1)) (m.ends.getD i 0) (rec (m.slots.getD i 0) es ns).2.1 (rec (m.slots.getD i 0) es ns).2.2.1).2.2.2)
      else (false, (rec (m.slots.getD i 0) es ns).2.1, (rec (m.slots.getD i 0) es ns).2.2.1, (rec (m.slots.getD i 0) es ns).2.2.2) := by
  have hz : i < (m.ends.zip m.slots).length := by simp; omega
  rw [List.drop_eq_getElem_cons hz]
  have e : (m.ends.zip m.slots)[i] = (m.ends.getD i 0, m.slots.getD i 0) := by
    simp [List.getD_eq_getElem?_getD, List.getElem?_eq_getElem hi, List.getElem?_eq_getElem (show i < m.slots.length by omega)]
  rw [e, goP]

/-- One outcome, told from further on. -/
def Cont (q : DownQ) (n : Nat) (q' : DownQ) (n' : Nat) : Prop := q.1 = q'.1 ∧ q.2.1 = q'.2.1 ∧ q.2.2.1 = q'.2.2.1 ∧ n + q.2.2.2 = n' + q'.2.2.2
theorem Cont.refl (q : DownQ) (n : Nat) : Cont q n q n := ⟨rfl, rfl, rfl, rfl⟩
theorem Cont.eq {q q' q'' : DownQ} {n n' : Nat} (h : Cont q n q' n') (e : q' = q'') : Cont q n q'' n' := e ▸ h
theorem Cont.trans {q q' q'' : DownQ} {n n' n'' : Nat} (h : Cont q n q' n') (k : Cont q' n' q'' n'') : Cont q n q'' n'' := ⟨h.1.trans k.1, h.2.1.trans k.2.1, h.2.2.1.trans k.2.2.1, h.2.2.2.trans k.2.2.2⟩

/-- The reference's Tree. -/
def tset (tb : Nat) (EA NA : Option Addr) : List Nat := tb :: (blockOf EA ++ blockOf NA)
structure TreeAt (w w0 : World) (tb : Nat) (es : List EntV) (ns : List Int) (n : Nat) (EA : Option Addr) (ec : Nat) (NA : Option Addr) (nc : Nat) : Prop where
  blk : Blk w tb 43 #[.slice EA es.length ec, .slice NA ns.length nc, .int .i64 n]
  oe : w.ownsRow w0.heap.size 47 3 (.slice EA es.length ec) es.length (es.flatMap entCells)
  on : w.ownsRow w0.heap.size 2 1 (.slice NA ns.length nc) ns.length (i64s ns)
  t0 : w0.heap.size ≤ tb
  low : Below w0.heap.size w0 w
  wn : ∀ x ∈ ns, WfI x
  we : ∀ e ∈ es, WfI e.lo ∧ WfI e.stop ∧ WfI e.h
section
variable {w w0 w' w4 : World} {tb : Nat} {es : List EntV} {ns : List Int} {n : Nat} {EA NA : Option Addr} {ec nc : Nat} {G : List Nat}
theorem mem_tset {b : Nat} : b ∈ tset tb EA NA ↔ b = tb ∨ b ∈ blockOf EA ∨ b ∈ blockOf NA := by simp [tset]
theorem TreeAt.lt (h : TreeAt w w0 tb es ns n EA ec NA nc) : ∀ b ∈ tset tb EA NA, b < w.heap.size := by
  intro b hb
  rcases mem_tset.1 hb with rfl | hb | hb
  · exact h.blk.lt
  · exact ownsRow_blockLt h.oe b hb
  · exact ownsRow_blockLt h.on b hb
theorem TreeAt.ge (h : TreeAt w w0 tb es ns n EA ec NA nc) : ∀ b ∈ tset tb EA NA, w0.heap.size ≤ b := by
  intro b hb
  rcases mem_tset.1 hb with rfl | hb | hb
  · exact h.t0
  · refine (Rows'.ofOwn h.oe).2 b ?_
    cases EA with
    | none => simp [blockOf] at hb
    | some a => simp [blockOf] at hb; simp [Value.ownBlock, hb]
  · refine (Rows'.ofOwn h.on).2 b ?_
    cases NA with
    | none => simp [blockOf] at hb
    | some a => simp [blockOf] at hb; simp [Value.ownBlock, hb]
theorem TreeAt.eb (h : TreeAt w w0 tb es ns n EA ec NA nc) : tb ∉ blockOf EA := blk_notin h.oe h.blk (by decide)
theorem TreeAt.nb (h : TreeAt w w0 tb es ns n EA ec NA nc) : tb ∉ blockOf NA := blk_notin h.on h.blk (by decide)
theorem TreeAt.en (h : TreeAt w w0 tb es ns n EA ec NA nc) : ∀ b ∈ blockOf EA, b ∉ blockOf NA := by
  intro b hb hb2
  have := rows_apart h.oe h.on (by decide)
  cases EA with
  | none => simp [blockOf] at hb
  | some a =>
    cases NA with
    | none => simp [blockOf] at hb2
    | some c =>
      simp [blockOf] at hb hb2
      simp [Value.ownBlock] at this
      exact this (hb ▸ hb2 ▸ rfl)
theorem TreeAt.upd (h : TreeAt w w0 tb es ns n EA ec NA nc) (hu : Upd G w w') (h0 : ∀ b ∈ G, w0.heap.size ≤ b) (h1 : ∀ b ∈ tset tb EA NA, b ∉ G) : TreeAt w' w0 tb es ns n EA ec NA nc :=
  ⟨h.blk.upd hu (h1 _ (mem_tset.2 (.inl rfl))), ownsRow_upd h.oe hu (fun b hb => h1 b (mem_tset.2 (.inr (.inl hb)))), ownsRow_upd h.on hu (fun b hb => h1 b (mem_tset.2 (.inr (.inr hb)))), h.t0, below_upd h.low hu (Nat.le_refl _) h0, h.wn, h.we⟩
theorem TreeAt.thru (h : TreeAt w w0 tb es ns n EA ec NA nc) (hb : Below w.heap.size w w') : TreeAt w' w0 tb es ns n EA ec NA nc := h.upd (Upd.of_below hb (F := [])) (by simp) (by simp)
/-- The count is set. -/
theorem TreeAt.setN (h : TreeAt w w0 tb es ns n EA ec NA nc) (n' : Nat) : TreeAt (w.setCell ⟨tb, 2, none⟩ (.int .i64 n')) w0 tb es ns n' EA ec NA nc ∧ Moves (tset tb EA NA) (tset tb EA NA) w (w.setCell ⟨tb, 2, none⟩ (.int .i64 n')) := by
  have hu : Upd [tb] w (w.setCell ⟨tb, 2, none⟩ (.int .i64 n')) := (Upd.refl _ _).put (.inl (by simp)) _
  refine ⟨⟨h.blk.put 2 _, ownsRow_upd h.oe hu (fun b hb hin => h.eb (by simp at hin; exact hin ▸ hb)), ownsRow_upd h.on hu (fun b hb hin => h.nb (by simp at hin; exact hin ▸ hb)), h.t0, below_upd h.low hu (Nat.le_refl _) (by intro b hb; simp at hb; exact hb ▸ h.t0), h.wn, h.we⟩,
    ⟨hu.mono (by intro b hb; simp at hb; exact mem_tset.2 (.inl hb)), fun _ h => .inl h⟩⟩
/-- A node's handle is put behind the others. -/
theorem TreeAt.pushN (h : TreeAt w w0 tb es ns n EA ec NA nc) (o : Obj) {g cap' : Nat} {v : Int} (hv : WfI v)
    (hown : w4.ownsRow w0.heap.size 2 1 (.slice (some ⟨g, 0, none⟩) (ns.length + 1) cap') (ns.length + 1) (i64s ns ++ [.int .i64 v])) (hgrow : (w.alloc o).grownBy w4 (Value.slice NA ns.length nc).ownBlock) (hat : (Value.slice NA ns.length nc).ownBlock = some g ∨ g = w.heap.size + 1) :
    TreeAt (w4.setCell ⟨tb, 1, none⟩ (.slice (some ⟨g, 0, none⟩) (ns.length + 1) cap')) w0 tb es (ns ++ [v]) n EA ec (some ⟨g, 0, none⟩) cap' ∧
      Moves (tset tb EA NA) (tset tb EA (some ⟨g, 0, none⟩)) w (w4.setCell ⟨tb, 1, none⟩ (.slice (some ⟨g, 0, none⟩) (ns.length + 1) cap')) ∧
      w4.cell? ⟨tb, 1, none⟩ = some (.slice NA ns.length nc) ∧ w4.frozen? ⟨tb, 1, none⟩ = false := by
  obtain ⟨hu4, hg⟩ := own_step hgrow hat
  have hnb := h.nb
  have hgw : g ≠ tb := by
    rintro rfl
    rcases hg with e | e
    · exact hnb e
    · have := h.blk.lt; omega
  have h4 := h.blk.upd hu4 hnb
  have hu5 : Upd (tb :: blockOf NA) w (w4.setCell ⟨tb, 1, none⟩ (.slice (some ⟨g, 0, none⟩) (ns.length + 1) cap')) := (hu4.mono (by intro b hb; simp [hb])).put (.inl (by simp)) _
  refine ⟨⟨?_, ?_, ?_, h.t0, below_upd h.low hu5 (Nat.le_refl _) (fun b hb => h.ge b ?_), ?_, h.we⟩, ⟨hu5.mono ?_, ?_⟩, h4.at_ rfl, h4.free 1⟩
  · have := h4.put 1 (.slice (some ⟨g, 0, none⟩) (ns.length + 1) cap')
    simpa using this
  · exact ownsRow_far (ownsRow_upd h.oe hu4 h.en) (p := ⟨tb, 1, none⟩) h.eb _
  · have := ownsRow_far hown (p := ⟨tb, 1, none⟩) (by simp [blockOf]; exact fun e => hgw e.symm) (.slice (some ⟨g, 0, none⟩) (ns.length + 1) cap')
    rw [i64s_snoc] at this
    simpa using this
  · simp only [List.mem_cons] at hb
    rcases hb with e | e
    · exact mem_tset.2 (.inl e)
    · exact mem_tset.2 (.inr (.inr e))
  · intro x hx
    rcases List.mem_append.1 hx with hx | hx
    · exact h.wn x hx
    · simp only [List.mem_singleton] at hx
      exact hx ▸ hv
  · intro b hb
    simp only [List.mem_cons] at hb
    rcases hb with e | e
    · exact mem_tset.2 (.inl e)
    · exact mem_tset.2 (.inr (.inr e))
  · intro b hb
    rcases mem_tset.1 hb with e | e | e
    · exact .inl (mem_tset.2 (.inl e))
    · exact .inl (mem_tset.2 (.inr (.inl e)))
    · simp only [blockOf, List.mem_singleton] at e
      subst e
      rcases hg with e | e
      · exact .inl (mem_tset.2 (.inr (.inr e)))
      · exact .inr (by omega)
/-- An entry is put behind the others. -/
theorem TreeAt.pushE (h : TreeAt w w0 tb es ns n EA ec NA nc) (o : Obj) {g cap' : Nat} {v : EntV} (hv : WfI v.lo ∧ WfI v.stop ∧ WfI v.h)
    (hown : w4.ownsRow w0.heap.size 47 3 (.slice (some ⟨g, 0, none⟩) (es.length + 1) cap') (es.length + 1) (es.flatMap entCells ++ [.int .i64 v.lo, .int .i64 v.stop, .int .i64 v.h])) (hgrow : (w.alloc o).grownBy w4 (Value.slice EA es.length ec).ownBlock) (hat : (Value.slice EA es.length ec).ownBlock = some g ∨ g = w.heap.size + 1) :
    TreeAt (w4.setCell ⟨tb, 0, none⟩ (.slice (some ⟨g, 0, none⟩) (es.length + 1) cap')) w0 tb (es ++ [v]) ns n (some ⟨g, 0, none⟩) cap' NA nc ∧
      Moves (tset tb EA NA) (tset tb (some ⟨g, 0, none⟩) NA) w (w4.setCell ⟨tb, 0, none⟩ (.slice (some ⟨g, 0, none⟩) (es.length + 1) cap')) ∧
      w4.cell? ⟨tb, 0, none⟩ = some (.slice EA es.length ec) ∧ w4.frozen? ⟨tb, 0, none⟩ = false := by
  obtain ⟨hu4, hg⟩ := own_step hgrow hat
  have hnb := h.eb
  have hgw : g ≠ tb := by
    rintro rfl
    rcases hg with e | e
    · exact hnb e
    · have := h.blk.lt; omega
  have h4 := h.blk.upd hu4 hnb
  have hu5 : Upd (tb :: blockOf EA) w (w4.setCell ⟨tb, 0, none⟩ (.slice (some ⟨g, 0, none⟩) (es.length + 1) cap')) := (hu4.mono (by intro b hb; simp [hb])).put (.inl (by simp)) _
  refine ⟨⟨?_, ?_, ?_, h.t0, below_upd h.low hu5 (Nat.le_refl _) (fun b hb => h.ge b ?_), h.wn, ?_⟩, ⟨hu5.mono ?_, ?_⟩, h4.at_ rfl, h4.free 0⟩
  · have := h4.put 0 (.slice (some ⟨g, 0, none⟩) (es.length + 1) cap')
    simpa using this
  · have := ownsRow_far hown (p := ⟨tb, 0, none⟩) (by simp [blockOf]; exact fun e => hgw e.symm) (.slice (some ⟨g, 0, none⟩) (es.length + 1) cap')
    rw [ent_snoc] at this
    simpa using this
  · exact ownsRow_far (ownsRow_upd h.on hu4 (fun b hb hb2 => h.en b hb2 hb)) (p := ⟨tb, 0, none⟩) h.nb _
  · simp only [List.mem_cons] at hb
    rcases hb with e | e
    · exact mem_tset.2 (.inl e)
    · exact mem_tset.2 (.inr (.inl e))
  · intro x hx
    rcases List.mem_append.1 hx with hx | hx
    · exact h.we x hx
    · simp only [List.mem_singleton] at hx
      exact hx ▸ hv
  · intro b hb
    simp only [List.mem_cons] at hb
    rcases hb with e | e
    · exact mem_tset.2 (.inl e)
    · exact mem_tset.2 (.inr (.inl e))
  · intro b hb
    rcases mem_tset.1 hb with e | e | e
    · exact .inl (mem_tset.2 (.inl e))
    · simp only [blockOf, List.mem_singleton] at e
      subst e
      rcases hg with e | e
      · exact .inl (mem_tset.2 (.inr (.inl e)))
      · exact .inr (by omega)
    · exact .inl (mem_tset.2 (.inr (.inr e)))
end
/-- What Down leaves. -/
def DownPost17 (q : DownQ) (n : Nat) (w0 w : World) (tb : Nat) (EA NA : Option Addr) (e : Ending) (w' : World) : Prop :=
  ∃ n' EA' ec' NA' nc', e = .returned (.bool q.1) ∧ n' = n + q.2.2.2 ∧ TreeAt w' w0 tb q.2.1 q.2.2.1 n' EA' ec' NA' nc' ∧ Moves (tset tb EA NA) (tset tb EA' NA') w w'
/-- Where the walk is. -/
structure DAt17 (q0 : DownQ) (n0 : Nat) (w w0 wr : World) (tb : Nat) (EA NA : Option Addr) (q : DownQ) (es : List EntV) (ns : List Int) (n : Nat) (EA' : Option Addr) (ec' : Nat) (NA' : Option Addr) (nc' : Nat) : Prop where
  cont : Cont q0 n0 q n
  tr : TreeAt wr w0 tb es ns n EA' ec' NA' nc'
  mv : Moves (tset tb EA NA) (tset tb EA' NA') w wr
section
variable {q0 q q' : DownQ} {n0 n n' : Nat} {w w0 wr w3 : World} {tb : Nat} {EA NA EA' NA' EA2 NA2 : Option Addr} {ec' nc' ec2 nc2 : Nat} {es es2 : List EntV} {ns ns2 : List Int}
theorem DAt17.thru (h : DAt17 q0 n0 w w0 wr tb EA NA q es ns n EA' ec' NA' nc') (hb : Below wr.heap.size wr w3) : DAt17 q0 n0 w w0 w3 tb EA NA q es ns n EA' ec' NA' nc' := ⟨h.cont, h.tr.thru hb, h.mv.thru hb⟩
theorem DAt17.to (h : DAt17 q0 n0 w w0 wr tb EA NA q es ns n EA' ec' NA' nc') (hc : Cont q n q' n') (ht : TreeAt w3 w0 tb es2 ns2 n' EA2 ec2 NA2 nc2) (hm : Moves (tset tb EA' NA') (tset tb EA2 NA2) wr w3) : DAt17 q0 n0 w w0 w3 tb EA NA q' es2 ns2 n' EA2 ec2 NA2 nc2 := ⟨h.cont.trans hc, ht, h.mv.trans hm⟩
theorem DAt17.eq (h : DAt17 q0 n0 w w0 wr tb EA NA q es ns n EA' ec' NA' nc') (e : q = q') : DAt17 q0 n0 w w0 wr tb EA NA q' es ns n EA' ec' NA' nc' := e ▸ h
theorem DAt17.ends {b : Bool} (h : DAt17 q0 n0 w w0 wr tb EA NA (b, es, ns, 0) es ns n EA' ec' NA' nc') : DownPost17 q0 n0 w0 w tb EA NA (.returned (.bool b)) wr := by
  obtain ⟨h1, h2, h3, h4⟩ := h.cont
  simp only [Nat.add_zero] at h1 h2 h3 h4
  exact ⟨n, EA', ec', NA', nc', by rw [h1], h4.symm, by rw [h2, h3]; exact h.tr, h.mv⟩
end
end Go.Proofs.Ytldccemgfjmcdaa
