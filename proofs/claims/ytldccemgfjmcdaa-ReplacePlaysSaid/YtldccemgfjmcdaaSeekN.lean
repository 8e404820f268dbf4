/- Layer 16's seek: Node, as a task on a land. -/
import Derived.Test.YtldccemgfjmcdaaRowsAt
namespace Go.Proofs.Ytldccemgfjmcdaa
open Go.RowKit
set_option linter.unusedSimpArgs false
set_option linter.unusedVariables false

def entriesR (hd : Int) (i : Nat) : Nat → List Int → List Int → List Int → Res LandS (List Int × List Int × List Int)
  | 0, es, hs, gs => .ret (es, hs, gs)
  | k + 1, es, hs, gs => (readR hd (2 + (i : Int))).bind fun e => (readR hd (10 + (i : Int))).bind fun h => (readR hd (18 + (i : Int))).bind fun g => entriesR hd (i + 1) k (es ++ [e]) (hs ++ [h]) (gs ++ [g])
def nodeAns (inner : Bool) (lo : Int) (q : List Int × List Int × List Int) : Option NodeV := if NodeV.formedB ⟨inner, lo, q.1, q.2.1, q.2.2⟩ = true then some ⟨inner, lo, q.1, q.2.1, q.2.2⟩ else none
def nodeR (hd : Int) : Res LandS (Option NodeV) := (headR hd).bind fun b => if b.2 = 0 then .ret none else (readR hd 1).bind fun lo => (entriesR hd 0 b.2 [] [] []).bind fun q => .ret (nodeAns b.1 lo q)
theorem entries_good (hd : Int) : ∀ k i es hs gs, (entriesR hd i k es hs gs).Good WfL
  | 0, _, _, _, _ => trivial
  | k + 1, i, _, _, _ => Good.bind (read_good _ _) fun _ => Good.bind (read_good _ _) fun _ => Good.bind (read_good _ _) fun _ => entries_good hd k (i + 1) _ _ _
theorem entries_free (hd : Int) : ∀ k i es hs gs, (entriesR hd i k es hs gs).free
  | 0, _, _, _, _ => trivial
  | k + 1, i, _, _, _ => Res.bind_free (readR_free _ _) fun _ => Res.bind_free (readR_free _ _) fun _ => Res.bind_free (readR_free _ _) fun _ => entries_free hd k (i + 1) _ _ _
theorem node_good (hd : Int) : (nodeR hd).Good WfL := Good.bind (head_good _) fun b => by
  split
  · trivial
  · exact Good.bind (read_good _ _) fun _ => Good.bind (entries_good _ _ _ _ _ _) fun _ => trivial
theorem node_free (hd : Int) : (nodeR hd).free := Res.bind_free (head_free _) fun b => by
  split
  · trivial
  · exact Res.bind_free (readR_free _ _) fun _ => Res.bind_free (entries_free _ _ _ _ _ _) fun _ => trivial

/-- How a node that is answered lies: its rows are new since w, and apart from what is avoided. -/
structure NodeNew (w w' : World) (avoid : List Nat) (n : NodeV) (g1 g2 g3 c1 c2 c3 : Nat) : Prop where
  r1 : Row w' 2 1 g1 n.ends.length c1 (i64s n.ends)
  r2 : Row w' 2 1 g2 n.slots.length c2 (i64s n.slots)
  r3 : Row w' 2 1 g3 n.gaps.length c3 (i64s n.gaps)
  f1 : g1 ∉ avoid
  f2 : g2 ∉ avoid
  f3 : g3 ∉ avoid
  n1 : w.heap.size ≤ g1
  n2 : w.heap.size ≤ g2
  n3 : w.heap.size ≤ g3
  wf : (∀ x ∈ n.ends, WfI x) ∧ (∀ x ∈ n.slots, WfI x) ∧ (∀ x ∈ n.gaps, WfI x) ∧ WfI n.lo
  ok : n.formedB = true
def NV (w w' : World) (avoid : List Nat) (v : Option NodeV) (x : Value) : Prop :=
  (v = none ∧ x = .tuple #[.agg #[.bool false, .int .i64 0, .slice none 0 0, .slice none 0 0, .slice none 0 0], .bool false]) ∨
  ∃ n g1 g2 g3 c1 c2 c3, v = some n ∧ x = .tuple #[.agg #[.bool n.inner, .int .i64 n.lo, .slice (some ⟨g1, 0, none⟩) n.ends.length c1, .slice (some ⟨g2, 0, none⟩) n.slots.length c2, .slice (some ⟨g3, 0, none⟩) n.gaps.length c3], .bool true] ∧ NodeNew w w' avoid n g1 g2 g3 c1 c2 c3
def NodeDoes (w : World) (p : Pl) (σ : LandS) (s : TrS) (F : List Nat) (r : Res LandS (Option NodeV)) (e : Ending) (w' : World) : Prop :=
  ∃ v x σ' s' F', e = .returned x ∧ NV w w' (p.all F') v x ∧ Sim (r.run σ s) (v, σ', s') ∧ TL w' p σ' s' F' ∧ Keeps w w' p F F'

/-- Where the walk of Node is. -/
structure NodeInv (w wr : World) (p : Pl) (σ : LandS) (s : TrS) (F : List Nat) (n : Nat) (hd : Int) (rb nb : Nat) (inner : Bool) (lo : Int) (rest : Res LandS (Option NodeV)) (σ' : LandS) (s' : TrS) (F' : List Nat) (rows : List RowV3) : Prop where
  at_ : AtL w wr p σ' s' F F' n
  keep : Keeps w wr p F F'
  goes : GoesL (nodeR hd) σ s rest σ' s'
  res : Blk wr rb 50 #[.bool false, .int .i64 0, .slice none 0 0, .slice none 0 0, .slice none 0 0]
  rws : RowsAt wr w.heap.size nb 50 [.bool inner, .int .i64 lo] rows (p.all F')
  n1 : rb ∉ p.all F'
  ne : rb ≠ nb
  newr : w.heap.size ≤ rb
  newn : w.heap.size ≤ nb
  wf : ∀ r : RowV3, r ∈ rows → ∀ x ∈ r.xs, WfI x
section
variable {w wr w3 w4 : World} {p : Pl} {σ σ' : LandS} {s s' : TrS} {F F' : List Nat} {n : Nat} {hd : Int} {rb nb : Nat} {inner : Bool} {lo : Int} {rows : List RowV3} {rest : Res LandS (Option NodeV)}
theorem Keeps.refl (w : World) (p : Pl) (F : List Nat) : Keeps w w p F F := ⟨Upd.refl _ _, fun _ h => .inl h⟩
theorem Keeps.trans {w1 w2 w3 : World} {F1 F2 F3 : List Nat} (h : Keeps w1 w2 p F1 F2) (k : Keeps w2 w3 p F2 F3) : Keeps w1 w3 p F1 F3 := by
  refine ⟨h.1.trans_new k.1 fun b hb => ?_, fun b hb => ?_⟩
  · simp only [Pl.all, List.mem_cons] at hb ⊢
    rcases hb with e | e | e | e | e
    · simp [e]
    · simp [e]
    · simp [e]
    · simp [e]
    · rcases h.2 b e with h | h
      · simp [h]
      · exact .inr h
  · rcases k.2 b hb with e | e
    · exact h.2 b e
    · exact .inr (Nat.le_trans h.1.size e)
theorem Keeps.thru {w1 w2 w3 : World} {F1 F2 : List Nat} (h : Keeps w1 w2 p F1 F2) (hb : Below w2.heap.size w2 w3) : Keeps w1 w3 p F1 F2 := ⟨h.1.trans (Upd.of_below hb), h.2⟩
theorem Keeps.own {w1 w2 w3 : World} {F1 F2 G : List Nat} (h : Keeps w1 w2 p F1 F2) (hu : Upd G w2 w3) (hG : ∀ b ∈ G, w1.heap.size ≤ b) : Keeps w1 w3 p F1 F2 :=
  ⟨h.1.trans_new hu fun b hb => .inr (hG b hb), h.2⟩
theorem NodeInv.drewN (h : NodeInv w wr p σ s F n hd rb nb inner lo rest σ' s' F' rows) (k : Nat) : NodeInv w (wr.drewN k) p σ s F n hd rb nb inner lo rest σ' s' F' rows :=
  ⟨h.at_.drewN k, ⟨h.keep.1.drewN k, h.keep.2⟩, h.goes, h.res.drewN k, h.rws.upd ((Upd.refl [] wr).drewN k) (by simp) (by simp), h.n1, h.ne, h.newr, h.newn, h.wf⟩
theorem NodeInv.drew (h : NodeInv w wr p σ s F n hd rb nb inner lo rest σ' s' F' rows) : NodeInv w wr.drew p σ s F n hd rb nb inner lo rest σ' s' F' rows := h.drewN 1
theorem NodeInv.thru (h : NodeInv w wr p σ s F n hd rb nb inner lo rest σ' s' F' rows) (hb : Below wr.heap.size wr w3) : NodeInv w w3 p σ s F n hd rb nb inner lo rest σ' s' F' rows :=
  ⟨h.at_.thru hb, ⟨h.keep.1.trans (Upd.of_below hb), h.keep.2⟩, h.goes, h.res.thru hb, h.rws.thru hb, h.n1, h.ne, h.newr, h.newn, h.wf⟩
theorem NodeInv.read {q : Int} {f : Int → Res LandS (Option NodeV)} {e : Ending} (h : NodeInv w wr p σ s F n hd rb nb inner lo ((readR hd q).bind f) σ' s' F' rows) (hd3 : DoesL RV wr p σ' s' F' (readR hd q) e w3) :
    ∃ v σ3 s3 F3, e = .returned (.int .i64 v) ∧ WfI v ∧ NodeInv w w3 p σ s F n hd rb nb inner lo (f v) σ3 s3 F3 rows := by
  obtain ⟨v, x, σ3, s3, F3, rfl, ⟨rfl, hwf⟩, hsim, a3, hk⟩ := h.at_.doesK hd3
  exact ⟨v, σ3, s3, F3, rfl, hwf, a3, h.keep.trans hk, h.goes.trans (GoesL.bind hsim), hk.blk h.res h.n1, h.rws.keep hk, hk.notin h.res.lt h.n1, h.ne, h.newr, h.newn, h.wf⟩
theorem NodeInv.push (h : NodeInv w wr p σ s F n hd rb nb inner lo rest σ' s' F' rows) {k : Nat} {r : RowV3} (hr : rows[k]? = some r) (o : Obj) {g cap' : Nat} {v : Int} (hv : WfI v)
    (hown : w4.ownsRow w.heap.size 2 1 (.slice (some ⟨g, 0, none⟩) (r.xs.length + 1) cap') (r.xs.length + 1) (i64s r.xs ++ [.int .i64 v])) (hgrow : (wr.alloc o).grownBy w4 r.val.ownBlock) (hat : r.val.ownBlock = some g ∨ g = wr.heap.size + 1) :
    NodeInv w (w4.setCell ⟨nb, 2 + k, none⟩ (.slice (some ⟨g, 0, none⟩) (r.xs.length + 1) cap')) p σ s F n hd rb nb inner lo rest σ' s' F' (rows.set k ⟨some ⟨g, 0, none⟩, cap', r.xs ++ [v]⟩) := by
  have hmem : r ∈ rows := List.mem_of_getElem? hr
  obtain ⟨h1, h2, h3, h4⟩ := h.rws.append hr o hown hgrow hat (fun b hb => h.at_.tl.lt b hb)
  have hnotin : ∀ b ∈ p.all F', b ∉ nb :: blockOf r.a := by
    intro b hb hb2
    simp only [List.mem_cons] at hb2
    rcases hb2 with rfl | hb2
    · exact h.rws.nfar hb
    · exact h.rws.far r hmem b hb2 hb
  have hnew : ∀ b ∈ nb :: blockOf r.a, w.heap.size ≤ b := by
    intro b hb
    simp only [List.mem_cons] at hb
    rcases hb with rfl | hb
    · exact h.newn
    · obtain ⟨A, cap, xs⟩ := r
      cases A with
      | none => simp [blockOf] at hb
      | some a =>
        simp [blockOf] at hb
        subst hb
        exact ((h.rws.own _ hmem).lt a.block rfl).1
  have hrbn : rb ∉ nb :: blockOf r.a := by
    simp only [List.mem_cons, not_or]
    exact ⟨h.ne, blk_notin (h.rws.own r hmem) h.res (by decide)⟩
  refine ⟨⟨h.at_.tl.upd h2 hnotin, h.at_.sub, h.at_.upd.trans_new h2 (fun b hb => .inr (hnew b hb)), h.at_.inn, h.at_.over⟩, h.keep.own h2 hnew, h.goes, h.res.upd h2 hrbn, h1, h.n1, h.ne, h.newr, h.newn, ?_⟩
  intro q hq x hx
  rcases List.mem_or_eq_of_mem_set hq with hq | rfl
  · exact h.wf q hq x hx
  · rcases List.mem_append.1 hx with hx | hx
    · exact h.wf r hmem x hx
    · simp only [List.mem_singleton] at hx
      exact hx ▸ hv
/-- What the store finds. -/
theorem NodeInv.push_at (h : NodeInv w wr p σ s F n hd rb nb inner lo rest σ' s' F' rows) {k : Nat} {r : RowV3} (hr : rows[k]? = some r) (o : Obj) {g cap' : Nat} {v : Int}
    (hown : w4.ownsRow w.heap.size 2 1 (.slice (some ⟨g, 0, none⟩) (r.xs.length + 1) cap') (r.xs.length + 1) (i64s r.xs ++ [.int .i64 v])) (hgrow : (wr.alloc o).grownBy w4 r.val.ownBlock) (hat : r.val.ownBlock = some g ∨ g = wr.heap.size + 1) :
    w4.cell? ⟨nb, 2 + k, none⟩ = some r.val ∧ w4.frozen? ⟨nb, 2 + k, none⟩ = false := by
  obtain ⟨h1, h2, h3, h4⟩ := h.rws.append hr o hown hgrow hat (fun b hb => h.at_.tl.lt b hb)
  exact ⟨h3, h4⟩
end
theorem own_ints {w : World} {B : Nat} {A : Option Addr} {cap : Nat} {xs : List Int} (h : w.ownsRow B 2 1 (.slice A xs.length cap) xs.length (i64s xs)) (hw : ∀ x ∈ xs, WfI x) : Ints w A xs.length cap xs := by
  rcases h.2 with ⟨hv, h0⟩ | ⟨g, cap', cur, hv, hlo, hb, h3, h4, h1, h5⟩
  · injection hv with e1 e2 e3
    subst e1 e3
    have : xs = [] := List.eq_nil_of_length_eq_zero e2
    subst this
    exact ⟨rfl, Nat.le_refl _, Nat.zero_le _, by simp, .inl rfl⟩
  · injection hv with e1 e2 e3
    subst e1 e3
    exact ArgInts.ofRow ⟨cur, hb, h1, h.1, h3, h4, h5⟩ hw
theorem own_rowX {w : World} {B : Nat} {A : Option Addr} {cap : Nat} {xs : List Int} (h : w.ownsRow B 2 1 (.slice A xs.length cap) xs.length (i64s xs)) (h0 : 0 < xs.length) : ∃ g, A = some ⟨g, 0, none⟩ ∧ B ≤ g ∧ Row w 2 1 g xs.length cap (i64s xs) := by
  rcases h.2 with ⟨hv, h0'⟩ | ⟨g, cap', cur, hv, hlo, hb, h3, h4, h1, h5⟩
  · injection hv with e1 e2 e3
    omega
  · injection hv with e1 e2 e3
    subst e1 e3
    exact ⟨g, rfl, hlo, cur, hb, h1, h.1, h3, h4, h5⟩

theorem node_step (hd : Int) (inner : Bool) (lo : Int) (j k : Nat) (es hs gs : List Int) (hjk : j < k) :
    ((entriesR hd j (k - j) es hs gs).bind fun q => Res.ret (nodeAns inner lo q)) = (readR hd (2 + (j : Int))).bind fun e => (readR hd (10 + (j : Int))).bind fun h => (readR hd (18 + (j : Int))).bind fun g => (entriesR hd (j + 1) (k - (j + 1)) (es ++ [e]) (hs ++ [h]) (gs ++ [g])).bind fun q => Res.ret (nodeAns inner lo q) := by
  rw [show k - j = (k - (j + 1)) + 1 by omega]
  rfl
/-- The head of a round: rows of j each. -/
def NodeAt' (w wr : World) (p : Pl) (σ : LandS) (s : TrS) (F : List Nat) (n : Nat) (hd : Int) (rb nb : Nat) (inner : Bool) (lo : Int) (rest : List Int → List Int → List Int → Res LandS (Option NodeV)) (l1 l2 l3 : Nat) : Prop :=
  ∃ σ' s' F' r1 r2 r3, r1.xs.length = l1 ∧ r2.xs.length = l2 ∧ r3.xs.length = l3 ∧ NodeInv w wr p σ s F n hd rb nb inner lo (rest r1.xs r2.xs r3.xs) σ' s' F' [r1, r2, r3]
theorem NodeDoes.end_none {w w' : World} {p : Pl} {σ σ' : LandS} {s s' : TrS} {F F' : List Nat} {n : Nat} {hd : Int} (a : AtL w w' p σ' s' F F' n) (hk : Keeps w w' p F F') (hs : Sim ((nodeR hd).run σ s) (none, σ', s')) :
    NodeDoes w p σ s F (nodeR hd) (.returned (.tuple #[.agg #[.bool false, .int .i64 0, .slice none 0 0, .slice none 0 0, .slice none 0 0], .bool false])) w' :=
  ⟨none, _, σ', s', F', rfl, .inl ⟨rfl, rfl⟩, hs, a.tl, hk⟩
theorem AtL.put5 {w0 w : World} {p : Pl} {σ : LandS} {s : TrS} {F0 F : List Nat} {n : Nat} (a : AtL w0 w p σ s F0 F n) {b : Nat} (hq : b ∉ p.all F) (hnew : w0.heap.size ≤ b) (v0 v1 v2 v3 v4 : Value) :
    AtL w0 (((((w.setCell ⟨b, 0, none⟩ v0).setCell ⟨b, 1, none⟩ v1).setCell ⟨b, 2, none⟩ v2).setCell ⟨b, 3, none⟩ v3).setCell ⟨b, 4, none⟩ v4) p σ s F0 F n :=
  ((((a.put (q := ⟨b, 0, none⟩) hq hnew v0).put (q := ⟨b, 1, none⟩) hq hnew v1).put (q := ⟨b, 2, none⟩) hq hnew v2).put (q := ⟨b, 3, none⟩) hq hnew v3).put (q := ⟨b, 4, none⟩) hq hnew v4
theorem upd_put5 (w : World) (b : Nat) (v0 v1 v2 v3 v4 : Value) : Upd [b] w (((((w.setCell ⟨b, 0, none⟩ v0).setCell ⟨b, 1, none⟩ v1).setCell ⟨b, 2, none⟩ v2).setCell ⟨b, 3, none⟩ v3).setCell ⟨b, 4, none⟩ v4) :=
  (((((Upd.refl _ _).put (.inl (by simp)) _).put (.inl (by simp)) _).put (.inl (by simp)) _).put (.inl (by simp)) _).put (.inl (by simp)) _
/-- What the node that is answered is, where it lies. -/
theorem NodeNew.of {w w4 w5 : World} {avoid : List Nat} {nb rb : Nat} {inner : Bool} {lo : Int} {r1 r2 r3 : RowV3} {cs : Array Value} (h : RowsAt w4 w.heap.size nb 50 [.bool inner, .int .i64 lo] [r1, r2, r3] avoid) (hlo : WfI lo) (hwf : ∀ r : RowV3, r ∈ [r1, r2, r3] → ∀ x ∈ r.xs, WfI x)
    (hf : NodeV.formedB ⟨inner, lo, r1.xs, r2.xs, r3.xs⟩ = true) (hres : Blk w4 rb 50 cs) (hu : Upd [rb] w4 w5) :
    ∃ g1 g2 g3, r1.a = some ⟨g1, 0, none⟩ ∧ r2.a = some ⟨g2, 0, none⟩ ∧ r3.a = some ⟨g3, 0, none⟩ ∧ NodeNew w w5 avoid ⟨inner, lo, r1.xs, r2.xs, r3.xs⟩ g1 g2 g3 r1.cap r2.cap r3.cap := by
  obtain ⟨k1, k2, k3, k4, -⟩ := NodeV.formed_iff hf
  simp only at k1 k2 k3 k4
  obtain ⟨g1, e1, n1, q1⟩ := own_rowX (h.own r1 (by simp)) (by omega)
  obtain ⟨g2, e2, n2, q2⟩ := own_rowX (h.own r2 (by simp)) (by omega)
  obtain ⟨g3, e3, n3, q3⟩ := own_rowX (h.own r3 (by simp)) (by omega)
  have ne : ∀ {g n c : Nat} {xs : List Value}, Row w4 2 1 g n c xs → g ∉ [rb] := by
    rintro g n c xs ⟨cur, hb, -⟩ hin
    simp only [List.mem_singleton] at hin
    subst hin
    exact absurd (hb.inj hres).1 (by decide)
  exact ⟨g1, g2, g3, e1, e2, e3, q1.upd hu (ne q1), q2.upd hu (ne q2), q3.upd hu (ne q3), h.far r1 (by simp) g1 (by rw [e1]; simp [blockOf]), h.far r2 (by simp) g2 (by rw [e2]; simp [blockOf]), h.far r3 (by simp) g3 (by rw [e3]; simp [blockOf]), n1, n2, n3,
    ⟨hwf r1 (by simp), hwf r2 (by simp), hwf r3 (by simp), hlo⟩, hf⟩
set_option maxRecDepth 100000 in
set_option maxHeartbeats 4000000 in
theorem seek_node (hd : Int) (p : Pl) (σ : LandS) (s : TrS) (F : List Nat) (n : Nat) (w : World) (h : TL w p σ s F) (hi : s.In n) (hn : n ≤ 1000000) (hov : s.over = false) (hh : hd < 9223372036854775808) :
    Calls Try.prog 80 #[.pointer (some ⟨p.t, 0, none⟩), .pointer (some ⟨p.a, 0, none⟩), .int .i64 hd] w (NodeDoes w p σ s F (nodeR hd)) := by
  have A0 := Lib.hid (AtL.first h hi hov)
  have HLT := Lib.hid h.lt
  have HK0 := Lib.hid (Keeps.refl w p F)
  clear h hi hov
  go_enter Try.func80, Try.ntmps80
  replace A0 := Lib.hid (A0.out.thru (below_alloc0 w (.cells #[.bool false, .int .i64 0, .slice none 0 0, .slice none 0 0, .slice none 0 0] 50)))
  replace HK0 := Lib.hid (HK0.out.thru (below_alloc0 w (.cells #[.bool false, .int .i64 0, .slice none 0 0, .slice none 0 0, .slice none 0 0] 50)))
  have HRB := Lib.hid (Blk.new w 50 #[.bool false, .int .i64 0, .slice none 0 0, .slice none 0 0, .slice none 0 0])
  go_upto_region 1 with fail
  have HZ := Lib.hid (World.size_alloc w (.cells #[.bool false, .int .i64 0, .slice none 0 0, .slice none 0 0, .slice none 0 0] 50))
  obtain ⟨rb, hrb⟩ : ∃ x, w.heap.size = x := ⟨_, rfl⟩
  simp only [hrb] at HRB HZ ⊢
  replace hrb := Lib.hid hrb
  generalize w.alloc (.cells #[.bool false, .int .i64 0, .slice none 0 0, .slice none 0 0, .slice none 0 0] 50) = w1 at *
  have HNW := Lib.hid (show w.heap.size ≤ rb by rw [hrb.out]; exact Nat.le_refl _)
  have HN1 := Lib.hid (show rb ∉ p.all F from fun hin => by have := HLT.out _ hin; have := hrb.out; omega)
  have HR := Lib.hid (seek_head hd p σ s F n w1 A0.out.tl A0.out.inn hn A0.out.over hh)
  clear HZ
  go_wp2_with fail
  refine HR.out.mono ?_
  rintro e w2 hd2
  obtain ⟨⟨inner, k⟩, x, σ2, s2, F2, rfl, ⟨rfl, hk8⟩, hsim, a2, hk2⟩ := A0.out.doesK hd2
  have HX := Lib.hid (GoesL.bind (f := fun b => if b.2 = 0 then Res.ret none else (readR hd 1).bind fun lo => (entriesR hd 0 b.2 [] [] []).bind fun q => .ret (nodeAns b.1 lo q)) hsim)
  have HK := Lib.hid (HK0.out.trans hk2)
  have HRB2 := Lib.hid (hk2.blk HRB.out HN1.out)
  have HN2 := Lib.hid (hk2.notin HRB.out.lt HN1.out)
  have A := Lib.hid a2
  have hk8i : (k : Int) ≤ 8 := by simp only at hk8; omega
  simp only at hk8
  clear hsim a2 hd2 HR hk2 HRB HN1 A0 HK0
  by_cases hk0 : k = 0
  · subst hk0
    have HS := Lib.hid (show Sim ((nodeR hd).run σ s) (none, σ2, s2) from (HX.out.eq (if_pos rfl)).end_ret)
    clear HX
    obtain ⟨m0, m1, m2, m3, m4⟩ := HRB2.out.at5
    obtain ⟨f0, f1, f2, f3, f4⟩ := HRB2.out.fr5
    go_wp2
    have hz := put5 HRB2.out (.bool false) (.int .i64 0) (.slice none 0 0) (.slice none 0 0) (.slice none 0 0)
    have HAF := Lib.hid (A.out.put5 HN2.out HNW.out (.bool false) (.int .i64 0) (.slice none 0 0) (.slice none 0 0) (.slice none 0 0))
    have HKF := Lib.hid (HK.out.own (upd_put5 w2 rb (.bool false) (.int .i64 0) (.slice none 0 0) (.slice none 0 0) (.slice none 0 0)) (by simpa using HNW.out))
    generalize (((((w2.setCell ⟨rb, 0, none⟩ (.bool false)).setCell ⟨rb, 1, none⟩ (.int .i64 0)).setCell ⟨rb, 2, none⟩ (.slice none 0 0)).setCell ⟨rb, 3, none⟩ (.slice none 0 0)).setCell ⟨rb, 4, none⟩ (.slice none 0 0)) = wz at *
    obtain ⟨z0, z1, z2, z3, z4⟩ := hz.at5
    exact bodyPost_ret (v := .tuple #[.agg #[.bool false, .int .i64 0, .slice none 0 0, .slice none 0 0, .slice none 0 0], .bool false]) (by simp [results, Try.results80, go_sem, z0, z1, z2, z3, z4]) rfl (NodeDoes.end_none HAF.out HKF.out HS.out)
  · have hk0i : (k : Int) ≠ 0 := by omega
    have hkb : ((k : Int) == 0) = false := by rw [beq_eq_false_iff_ne]; exact hk0i
    have HX2 := Lib.hid (HX.out.eq (if_neg hk0))
    have HR := Lib.hid (seek_read hd 1 p σ2 s2 F2 w2 A.out.tl (A.out.ok hn) hh)
    clear HX hk0i
    go_wp2_with fail
    refine HR.out.mono ?_
    rintro e w3 hd3
    obtain ⟨lo, x, σ3, s3, F3, rfl, ⟨rfl, hwf⟩, hsim, a3, hk3⟩ := A.out.doesK hd3
    have HX := Lib.hid (HX2.out.trans (GoesL.bind hsim))
    have HLO := Lib.hid hwf
    have HK3 := Lib.hid (HK.out.trans hk3)
    have HR3 := Lib.hid (hk3.blk HRB2.out HN2.out)
    have HN3 := Lib.hid (hk3.notin HRB2.out.lt HN2.out)
    have A3 := Lib.hid a3
    have HLT3 := Lib.hid a3.tl.lt
    clear hsim a3 hd3 HR hk3 HRB2 HN2 A HK HX2 hwf HLT
    have HS3 := Lib.hid (show rb < w3.heap.size ∧ w.heap.size ≤ w3.heap.size from ⟨HR3.out.lt, HK3.out.1.size⟩)
    replace A3 := Lib.hid (A3.out.thru (below_alloc0 w3 (.cells #[.bool inner, .int .i64 lo, .slice none 0 0, .slice none 0 0, .slice none 0 0] 50)))
    replace HK3 := Lib.hid (HK3.out.thru (below_alloc0 w3 (.cells #[.bool inner, .int .i64 lo, .slice none 0 0, .slice none 0 0, .slice none 0 0] 50)))
    replace HR3 := Lib.hid (HR3.out.thru (below_alloc0 w3 (.cells #[.bool inner, .int .i64 lo, .slice none 0 0, .slice none 0 0, .slice none 0 0] 50)))
    have HNB := Lib.hid (Blk.new w3 50 #[.bool inner, .int .i64 lo, .slice none 0 0, .slice none 0 0, .slice none 0 0])
    go_upto_region 5 with fail
    have HZ := Lib.hid (World.size_alloc w3 (.cells #[.bool inner, .int .i64 lo, .slice none 0 0, .slice none 0 0, .slice none 0 0] 50))
    obtain ⟨nb, hnb⟩ : ∃ x, w3.heap.size = x := ⟨_, rfl⟩
    simp only [hnb] at HNB HZ ⊢
    replace hnb := Lib.hid hnb
    generalize w3.alloc (.cells #[.bool inner, .int .i64 lo, .slice none 0 0, .slice none 0 0, .slice none 0 0] 50) = w4 at *
    have H0 := Lib.hid (show NodeAt' w w4 p σ s F n hd rb nb inner lo (fun es hs gs => (entriesR hd 0 (k - 0) es hs gs).bind fun q => Res.ret (nodeAns inner lo q)) 0 0 0 from
      ⟨σ3, s3, F3, ⟨none, 0, []⟩, ⟨none, 0, []⟩, ⟨none, 0, []⟩, rfl, rfl, rfl, A3.out, HK3.out, HX.out, HR3.out,
        ⟨HNB.out, by simp [RowV3.val, i64s, World.ownsRow_nil], by intro i l x y hx hy hil b hb; have hx2 := List.mem_of_getElem? hx; simp at hx2; subst hx2; simp [blockOf] at hb, by simp [blockOf], (fun hin => by have := HLT3.out _ hin; have := hnb.out; omega), by decide⟩,
        HN3.out, (by have := HS3.out; have := hnb.out; intro e; omega), HNW.out, (by have := HS3.out; have := hnb.out; omega), by simp⟩)
    clear A3 HK3 HR3 HNB HN3 HX HLT3 HZ HS3
    go_wp2_with fail
    go_loopw [29] (fun i wr => ∃ j : Nat, j ≤ k ∧ i = .int .i64 j ∧ NodeAt' w wr p σ s F n hd rb nb inner lo (fun es hs gs => (entriesR hd j (k - j) es hs gs).bind fun q => Res.ret (nodeAns inner lo q)) j j j) (fun i _ => k - (intOf i).toNat)
    case atStart => exact ⟨0, Nat.zero_le _, rfl, H0.out⟩
    case round =>
      clear H0
      obtain ⟨j, hj, rfl, σ', s', F', r1, r2, r3, l1, l2, l3, hI⟩ := hrel
      by_cases hlt : j < k
      · simp only at hI
        rw [node_step hd inner lo j k _ _ _ hlt] at hI
        have HI := Lib.hid hI
        have L1 := Lib.hid l1
        have L2 := Lib.hid l2
        have L3 := Lib.hid l3
        have b1 : r1.xs.length ≤ 9 := by omega
        have b2 : r2.xs.length ≤ 9 := by omega
        have b3 : r3.xs.length ≤ 9 := by omega
        clear hI l1 l2 l3
        go_upto_region 8 with fail
        go_cut [] (fun wc => NodeAt' w wc p σ s F n hd rb nb inner lo (fun es hs gs => (readR hd (10 + (j : Int))).bind fun h => (readR hd (18 + (j : Int))).bind fun g => (entriesR hd (j + 1) (k - (j + 1)) es (hs ++ [h]) (gs ++ [g])).bind fun q => Res.ret (nodeAns inner lo q)) (j + 1) j j)
        case first =>
          obtain ⟨i0, hi, hz0, hz1, hz2⟩ := info_parts info_i64
          have HIk := Lib.hid (HI.out.drew)
          have HQ := Lib.hid (show IntKind.i64.wrap (2 + (j : Int)) = 2 + (j : Int) from IntWalk.i64_in _ (by omega))
          have HR := Lib.hid (seek_read hd (IntKind.i64.wrap (2 + (j : Int))) p σ' s' F' wr.drew HIk.out.at_.tl (HIk.out.at_.ok hn) hh)
          have c0 : wr.drew.cell? ⟨nb, 2, none⟩ = some (.slice r1.a r1.xs.length r1.cap) := HIk.out.rws.field (k := 0) rfl
          clear HI
          go_region_law
            (first
              | (refine step_append_lies _ (by rfl) _ _ _ (by rfl) w.heap.size 2 i0 _ 1 8 Try.underlying31 hi hz0 hz1 hz2 rfl (by omega) (.slice r1.a r1.xs.length r1.cap) r1.xs.length (i64s r1.xs) (by rfl) ((HI3.out.rws.own r1 (by simp)).alloc _)
                  ⟨w3.heap.size, 0, none⟩ 1 1 [.int .i64 v] (by rfl) (by rfl) (World.news_of_block (cs := #[.int .i64 v]) (t := 2) (fr := (0, 0)) (heap_alloc_new w3 _)) (by simp [Value.oneCell'])
                  (by omega) (by unfold maxLen; omega) (by omega) (by simp; have := HI3.out.keep.1.size; omega) (w3.heap.size + 1) (by simp) ?_; intro g cap' w4 hown' hgrow hat hlt'; obtain ⟨c8, f8⟩ := HI3.out.push_at (k := 0) rfl _ hown' hgrow hat; replace c8 : w4.cell? ⟨nb, 2, none⟩ = some (.slice r1.a r1.xs.length r1.cap) := c8; replace f8 : w4.frozen? ⟨nb, 2, none⟩ = false := f8)
              | (go_simp; go_at_call 81; refine HR.out.mono ?_; rintro e w3 hd3; rw [HQ.out] at hd3; obtain ⟨v, σ3, s3, F3, rfl, hwf, hI3⟩ := HIk.out.read hd3; have c3 : w3.cell? ⟨nb, 2, none⟩ = some (.slice r1.a r1.xs.length r1.cap) := hI3.rws.field (k := 0) rfl; have c3a : (w3.alloc (.cells #[.int .i64 v] 2)).cell? ⟨nb, 2, none⟩ = some (.slice r1.a r1.xs.length r1.cap) := (hI3.thru (below_alloc0 _ _)).rws.field (k := 0) rfl; have HI3 := Lib.hid hI3; have HV := Lib.hid hwf; clear hI3 hwf hd3))
          all_goals
            have hfin := HI3.out.push (k := 0) rfl _ HV.out hown' hgrow hat
            have HFIN := Lib.hid (show NodeAt' w (w4.setCell ⟨nb, 2, none⟩ (.slice (some ⟨g, 0, none⟩) (r1.xs.length + 1) cap')) p σ s F n hd rb nb inner lo (fun es hs gs => (readR hd (10 + (j : Int))).bind fun h => (readR hd (18 + (j : Int))).bind fun g => (entriesR hd (j + 1) (k - (j + 1)) es (hs ++ [h]) (gs ++ [g])).bind fun q => Res.ret (nodeAns inner lo q)) (j + 1) j j from
              ⟨σ3, s3, F3, ⟨some ⟨g, 0, none⟩, cap', r1.xs ++ [v]⟩, r2, r3, by simp [L1.out], L2.out, L3.out, hfin⟩)
            clear hfin hown' hgrow hat hlt' c8 f8 c3 c3a c0 HI3 HIk HR HQ
            go_wp2_with fail
            go_meet
            exact HFIN.out
        case rest =>
        clear HI L1 L2 L3 b1 b2 b3
        obtain ⟨σ', s', F', r1, r2, r3, l1, l2, l3, hI⟩ := hcut
        have HI := Lib.hid hI
        have L1 := Lib.hid l1
        have L2 := Lib.hid l2
        have L3 := Lib.hid l3
        have b1 : r1.xs.length ≤ 9 := by omega
        have b2 : r2.xs.length ≤ 9 := by omega
        have b3 : r3.xs.length ≤ 9 := by omega
        clear hI l1 l2 l3
        simp only at HI
        go_upto_region 9 with fail
        go_cut [] (fun wc => NodeAt' w wc p σ s F n hd rb nb inner lo (fun es hs gs => (readR hd (18 + (j : Int))).bind fun g => (entriesR hd (j + 1) (k - (j + 1)) es hs (gs ++ [g])).bind fun q => Res.ret (nodeAns inner lo q)) (j + 1) (j + 1) j)
        case first =>
          obtain ⟨i0, hi, hz0, hz1, hz2⟩ := info_parts info_i64
          have HIk := Lib.hid (HI.out.drew)
          have HQ := Lib.hid (show IntKind.i64.wrap (10 + (j : Int)) = 10 + (j : Int) from IntWalk.i64_in _ (by omega))
          have HR := Lib.hid (seek_read hd (IntKind.i64.wrap (10 + (j : Int))) p σ' s' F' wc.drew HIk.out.at_.tl (HIk.out.at_.ok hn) hh)
          have c0 : wc.drew.cell? ⟨nb, 3, none⟩ = some (.slice r2.a r2.xs.length r2.cap) := HIk.out.rws.field (k := 1) rfl
          clear HI
          go_region_law
            (first
              | (refine step_append_lies _ (by rfl) _ _ _ (by rfl) w.heap.size 2 i0 _ 1 8 Try.underlying31 hi hz0 hz1 hz2 rfl (by omega) (.slice r2.a r2.xs.length r2.cap) r2.xs.length (i64s r2.xs) (by rfl) ((HI3.out.rws.own r2 (by simp)).alloc _)
                  ⟨w3.heap.size, 0, none⟩ 1 1 [.int .i64 v] (by rfl) (by rfl) (World.news_of_block (cs := #[.int .i64 v]) (t := 2) (fr := (0, 0)) (heap_alloc_new w3 _)) (by simp [Value.oneCell'])
                  (by omega) (by unfold maxLen; omega) (by omega) (by simp; have := HI3.out.keep.1.size; omega) (w3.heap.size + 1) (by simp) ?_; intro g cap' w4 hown' hgrow hat hlt'; obtain ⟨c8, f8⟩ := HI3.out.push_at (k := 1) rfl _ hown' hgrow hat; replace c8 : w4.cell? ⟨nb, 3, none⟩ = some (.slice r2.a r2.xs.length r2.cap) := c8; replace f8 : w4.frozen? ⟨nb, 3, none⟩ = false := f8)
              | (go_simp; go_at_call 81; refine HR.out.mono ?_; rintro e w3 hd3; rw [HQ.out] at hd3; obtain ⟨v, σ3, s3, F3, rfl, hwf, hI3⟩ := HIk.out.read hd3; have c3 : w3.cell? ⟨nb, 3, none⟩ = some (.slice r2.a r2.xs.length r2.cap) := hI3.rws.field (k := 1) rfl; have c3a : (w3.alloc (.cells #[.int .i64 v] 2)).cell? ⟨nb, 3, none⟩ = some (.slice r2.a r2.xs.length r2.cap) := (hI3.thru (below_alloc0 _ _)).rws.field (k := 1) rfl; have HI3 := Lib.hid hI3; have HV := Lib.hid hwf; clear hI3 hwf hd3))
          all_goals
            have hfin := HI3.out.push (k := 1) rfl _ HV.out hown' hgrow hat
            have HFIN := Lib.hid (show NodeAt' w (w4.setCell ⟨nb, 3, none⟩ (.slice (some ⟨g, 0, none⟩) (r2.xs.length + 1) cap')) p σ s F n hd rb nb inner lo (fun es hs gs => (readR hd (18 + (j : Int))).bind fun g => (entriesR hd (j + 1) (k - (j + 1)) es hs (gs ++ [g])).bind fun q => Res.ret (nodeAns inner lo q)) (j + 1) (j + 1) j from
              ⟨σ3, s3, F3, r1, ⟨some ⟨g, 0, none⟩, cap', r2.xs ++ [v]⟩, r3, L1.out, by simp [L2.out], L3.out, hfin⟩)
            clear hfin hown' hgrow hat hlt' c8 f8 c3 c3a c0 HI3 HIk HR HQ
            go_wp2_with fail
            go_meet
            exact HFIN.out
        case rest =>
        clear HI L1 L2 L3 b1 b2 b3
        obtain ⟨σ', s', F', r1, r2, r3, l1, l2, l3, hI⟩ := hcut
        have HI := Lib.hid hI
        have L1 := Lib.hid l1
        have L2 := Lib.hid l2
        have L3 := Lib.hid l3
        have b1 : r1.xs.length ≤ 9 := by omega
        have b2 : r2.xs.length ≤ 9 := by omega
        have b3 : r3.xs.length ≤ 9 := by omega
        clear hI l1 l2 l3
        simp only at HI
        go_upto_region 10 with fail
        obtain ⟨i0, hi, hz0, hz1, hz2⟩ := info_parts info_i64
        have HIk := Lib.hid (HI.out.drew)
        have HQ := Lib.hid (show IntKind.i64.wrap (18 + (j : Int)) = 18 + (j : Int) from IntWalk.i64_in _ (by omega))
        have HR := Lib.hid (seek_read hd (IntKind.i64.wrap (18 + (j : Int))) p σ' s' F' wc.drew HIk.out.at_.tl (HIk.out.at_.ok hn) hh)
        have c0 : wc.drew.cell? ⟨nb, 4, none⟩ = some (.slice r3.a r3.xs.length r3.cap) := HIk.out.rws.field (k := 2) rfl
        clear HI
        go_region_law
          (first
            | (refine step_append_lies _ (by rfl) _ _ _ (by rfl) w.heap.size 2 i0 _ 1 8 Try.underlying31 hi hz0 hz1 hz2 rfl (by omega) (.slice r3.a r3.xs.length r3.cap) r3.xs.length (i64s r3.xs) (by rfl) ((HI3.out.rws.own r3 (by simp)).alloc _)
                ⟨w3.heap.size, 0, none⟩ 1 1 [.int .i64 v] (by rfl) (by rfl) (World.news_of_block (cs := #[.int .i64 v]) (t := 2) (fr := (0, 0)) (heap_alloc_new w3 _)) (by simp [Value.oneCell'])
                (by omega) (by unfold maxLen; omega) (by omega) (by simp; have := HI3.out.keep.1.size; omega) (w3.heap.size + 1) (by simp) ?_; intro g cap' w4 hown' hgrow hat hlt'; obtain ⟨c8, f8⟩ := HI3.out.push_at (k := 2) rfl _ hown' hgrow hat; replace c8 : w4.cell? ⟨nb, 4, none⟩ = some (.slice r3.a r3.xs.length r3.cap) := c8; replace f8 : w4.frozen? ⟨nb, 4, none⟩ = false := f8)
            | (go_simp; go_at_call 81; refine HR.out.mono ?_; rintro e w3 hd3; rw [HQ.out] at hd3; obtain ⟨v, σ3, s3, F3, rfl, hwf, hI3⟩ := HIk.out.read hd3; have c3 : w3.cell? ⟨nb, 4, none⟩ = some (.slice r3.a r3.xs.length r3.cap) := hI3.rws.field (k := 2) rfl; have c3a : (w3.alloc (.cells #[.int .i64 v] 2)).cell? ⟨nb, 4, none⟩ = some (.slice r3.a r3.xs.length r3.cap) := (hI3.thru (below_alloc0 _ _)).rws.field (k := 2) rfl; have HI3 := Lib.hid hI3; have HV := Lib.hid hwf; clear hI3 hwf hd3))
        all_goals
          have hfin := HI3.out.push (k := 2) rfl _ HV.out hown' hgrow hat
          have HFIN := Lib.hid (show NodeAt' w (w4.setCell ⟨nb, 4, none⟩ (.slice (some ⟨g, 0, none⟩) (r3.xs.length + 1) cap')) p σ s F n hd rb nb inner lo (fun es hs gs => (entriesR hd (j + 1) (k - (j + 1)) es hs gs).bind fun q => Res.ret (nodeAns inner lo q)) (j + 1) (j + 1) (j + 1) from
            ⟨σ3, s3, F3, r1, r2, ⟨some ⟨g, 0, none⟩, cap', r3.xs ++ [v]⟩, L1.out, L2.out, by simp [L3.out], hfin⟩)
          clear hfin hown' hgrow hat hlt' c8 f8 c3 c3a c0 HI3 HIk HR HQ
          go_wp2
          go_roundw
          case rel => exact ⟨j + 1, by omega, by go_num, HFIN.out⟩
          case measure => simp [intOf]; omega
      · obtain rfl : j = k := by omega
        have HI := Lib.hid hI
        have HS0 := Lib.hid (show GoesL (nodeR hd) σ s (.ret (nodeAns inner lo (r1.xs, r2.xs, r3.xs))) σ' s' from hI.goes.eq (by rw [Nat.sub_self]; rfl))
        have A := Lib.hid hI.at_
        have HK := Lib.hid hI.keep
        have HRES := Lib.hid hI.res
        have HN1 := Lib.hid hI.n1
        have HNN := Lib.hid (show Blk wr nb 50 #[.bool inner, .int .i64 lo, .slice r1.a r1.xs.length r1.cap, .slice r2.a r2.xs.length r2.cap, .slice r3.a r3.xs.length r3.cap] from hI.rws.blk)
        have HNR := Lib.hid (show NodeR wr ⟨inner, lo, r1.xs, r2.xs, r3.xs⟩ r1.a r2.a r3.a r1.cap r2.cap r3.cap from
          ⟨HLO.out, own_ints (hI.rws.own r1 (by simp)) (hI.wf r1 (by simp)), own_ints (hI.rws.own r2 (by simp)) (hI.wf r2 (by simp)), own_ints (hI.rws.own r3 (by simp)) (hI.wf r3 (by simp))⟩)
        have HD := Lib.hid (t_dry p.m p.c p.t σ'.mu s' F' wr hI.at_.tl.tm)
        rw [hI.at_.over, Bool.not_false, Bool.and_true] at HD
        have HRW := Lib.hid hI.rws
        have HWF := Lib.hid hI.wf
        clear hI l1 l2 l3
        cases hdry : s'.dry with
        | true =>
          rw [hdry] at HD
          have HS := Lib.hid (HS0.out.end_dry hdry none)
          clear hdry
          go_wp2_with fail
          refine HD.out.mono ?_
          rintro e wx ⟨rfl, rfl⟩
          obtain ⟨m0, m1, m2, m3, m4⟩ := HRES.out.at5
          obtain ⟨f0, f1, f2, f3, f4⟩ := HRES.out.fr5
          go_wp2
          have hz := put5 HRES.out (.bool false) (.int .i64 0) (.slice none 0 0) (.slice none 0 0) (.slice none 0 0)
          have HAF := Lib.hid (A.out.put5 HN1.out HNW.out (.bool false) (.int .i64 0) (.slice none 0 0) (.slice none 0 0) (.slice none 0 0))
          have HKF := Lib.hid (HK.out.own (upd_put5 wr rb (.bool false) (.int .i64 0) (.slice none 0 0) (.slice none 0 0) (.slice none 0 0)) (by simpa using HNW.out))
          generalize (((((wr.setCell ⟨rb, 0, none⟩ (.bool false)).setCell ⟨rb, 1, none⟩ (.int .i64 0)).setCell ⟨rb, 2, none⟩ (.slice none 0 0)).setCell ⟨rb, 3, none⟩ (.slice none 0 0)).setCell ⟨rb, 4, none⟩ (.slice none 0 0)) = wz at *
          obtain ⟨z0, z1, z2, z3, z4⟩ := hz.at5
          exact bodyPost_ret (v := .tuple #[.agg #[.bool false, .int .i64 0, .slice none 0 0, .slice none 0 0, .slice none 0 0], .bool false]) (by simp [results, Try.results80, go_sem, z0, z1, z2, z3, z4]) rfl (NodeDoes.end_none HAF.out HKF.out HS.out)
        | false =>
          rw [hdry] at HD
          clear hdry
          have HFO := slot_formed ⟨inner, lo, r1.xs, r2.xs, r3.xs⟩ r1.a r2.a r3.a r1.cap r2.cap r3.cap wr HNR.out
          simp only [nodeCells] at HFO
          cases hf : NodeV.formedB ⟨inner, lo, r1.xs, r2.xs, r3.xs⟩ with
          | false =>
            rw [hf] at HFO
            have HFO := Lib.hid HFO
            have HS := Lib.hid (show Sim ((nodeR hd).run σ s) (none, σ', s') by
              have := HS0.out.end_ret
              unfold nodeAns at this
              rw [if_neg (by simp only; rw [hf]; simp)] at this
              exact this)
            clear hf HNR HS0 HRW HWF
            go_wp2_with fail
            refine HD.out.mono ?_
            rintro e wx ⟨rfl, rfl⟩
            obtain ⟨k0, k1, k2, k3, k4⟩ := HNN.out.at5
            go_wp2_with fail
            refine (HFO.out).mono ?_
            rintro e w5 ⟨rfl, hb⟩
            clear k0 k1 k2 k3 k4
            replace A := Lib.hid (A.out.thru hb)
            replace HK := Lib.hid (HK.out.thru hb)
            replace HRES := Lib.hid (HRES.out.thru hb)
            clear hb
            obtain ⟨k0, k1, k2, k3, k4⟩ := HNN.out.at5
            clear k0 k1 k2 k3 k4
            obtain ⟨m0, m1, m2, m3, m4⟩ := HRES.out.at5
            obtain ⟨f0, f1, f2, f3, f4⟩ := HRES.out.fr5
            go_wp2
            have hz := put5 HRES.out (.bool false) (.int .i64 0) (.slice none 0 0) (.slice none 0 0) (.slice none 0 0)
            have HAF := Lib.hid (A.out.put5 HN1.out HNW.out (.bool false) (.int .i64 0) (.slice none 0 0) (.slice none 0 0) (.slice none 0 0))
            have HKF := Lib.hid (HK.out.own (upd_put5 w5 rb (.bool false) (.int .i64 0) (.slice none 0 0) (.slice none 0 0) (.slice none 0 0)) (by simpa using HNW.out))
            generalize (((((w5.setCell ⟨rb, 0, none⟩ (.bool false)).setCell ⟨rb, 1, none⟩ (.int .i64 0)).setCell ⟨rb, 2, none⟩ (.slice none 0 0)).setCell ⟨rb, 3, none⟩ (.slice none 0 0)).setCell ⟨rb, 4, none⟩ (.slice none 0 0)) = wz at *
            obtain ⟨z0, z1, z2, z3, z4⟩ := hz.at5
            exact bodyPost_ret (v := .tuple #[.agg #[.bool false, .int .i64 0, .slice none 0 0, .slice none 0 0, .slice none 0 0], .bool false]) (by simp [results, Try.results80, go_sem, z0, z1, z2, z3, z4]) rfl (NodeDoes.end_none HAF.out HKF.out HS.out)
          | true =>
            rw [hf] at HFO
            have HFO := Lib.hid HFO
            have HFT := Lib.hid hf
            have HS := Lib.hid (show Sim ((nodeR hd).run σ s) (some ⟨inner, lo, r1.xs, r2.xs, r3.xs⟩, σ', s') by
              have := HS0.out.end_ret
              unfold nodeAns at this
              rw [if_pos hf] at this
              exact this)
            clear hf HNR HS0
            go_wp2_with fail
            refine HD.out.mono ?_
            rintro e wx ⟨rfl, rfl⟩
            obtain ⟨k0, k1, k2, k3, k4⟩ := HNN.out.at5
            go_wp2_with fail
            refine (HFO.out).mono ?_
            rintro e w5 ⟨rfl, hb⟩
            clear k0 k1 k2 k3 k4
            replace A := Lib.hid (A.out.thru hb)
            replace HK := Lib.hid (HK.out.thru hb)
            replace HRES := Lib.hid (HRES.out.thru hb)
            replace HNN := Lib.hid (HNN.out.thru hb)
            replace HRW := Lib.hid (HRW.out.thru hb)
            clear hb
            obtain ⟨k0, k1, k2, k3, k4⟩ := HNN.out.at5
            obtain ⟨m0, m1, m2, m3, m4⟩ := HRES.out.at5
            obtain ⟨f0, f1, f2, f3, f4⟩ := HRES.out.fr5
            go_wp2
            have hz := put5 HRES.out (.bool inner) (.int .i64 lo) (.slice r1.a r1.xs.length r1.cap) (.slice r2.a r2.xs.length r2.cap) (.slice r3.a r3.xs.length r3.cap)
            have HAF := Lib.hid (A.out.put5 HN1.out HNW.out (.bool inner) (.int .i64 lo) (.slice r1.a r1.xs.length r1.cap) (.slice r2.a r2.xs.length r2.cap) (.slice r3.a r3.xs.length r3.cap))
            have HKF := Lib.hid (HK.out.own (upd_put5 w5 rb (.bool inner) (.int .i64 lo) (.slice r1.a r1.xs.length r1.cap) (.slice r2.a r2.xs.length r2.cap) (.slice r3.a r3.xs.length r3.cap)) (by simpa using HNW.out))
            obtain ⟨g1, g2, g3, e1, e2, e3, hnew⟩ := NodeNew.of HRW.out HLO.out HWF.out HFT.out HRES.out (upd_put5 w5 rb (.bool inner) (.int .i64 lo) (.slice r1.a r1.xs.length r1.cap) (.slice r2.a r2.xs.length r2.cap) (.slice r3.a r3.xs.length r3.cap))
            have HNEW := Lib.hid hnew
            have E1 := Lib.hid e1
            have E2 := Lib.hid e2
            have E3 := Lib.hid e3
            clear hnew e1 e2 e3
            generalize (((((w5.setCell ⟨rb, 0, none⟩ (.bool inner)).setCell ⟨rb, 1, none⟩ (.int .i64 lo)).setCell ⟨rb, 2, none⟩ (.slice r1.a r1.xs.length r1.cap)).setCell ⟨rb, 3, none⟩ (.slice r2.a r2.xs.length r2.cap)).setCell ⟨rb, 4, none⟩ (.slice r3.a r3.xs.length r3.cap)) = wz at *
            obtain ⟨z0, z1, z2, z3, z4⟩ := hz.at5
            exact bodyPost_ret (v := .tuple #[.agg #[.bool inner, .int .i64 lo, .slice r1.a r1.xs.length r1.cap, .slice r2.a r2.xs.length r2.cap, .slice r3.a r3.xs.length r3.cap], .bool true]) (by simp [results, Try.results80, go_sem, z0, z1, z2, z3, z4]) rfl
              ⟨_, _, _, _, _, rfl, .inr ⟨⟨inner, lo, r1.xs, r2.xs, r3.xs⟩, g1, g2, g3, _, _, _, rfl, by rw [E1.out, E2.out, E3.out], HNEW.out⟩, HS.out, HAF.out.tl, HKF.out⟩
end Go.Proofs.Ytldccemgfjmcdaa
