/- Layer 17's walk: going through what is below a node: words. -/
import Derived.Test.YtldccemgfjmcdaaWalk
namespace Go.Proofs.Ytldccemgfjmcdaa
open Go.RowKit
set_option linter.unusedSimpArgs false
set_option linter.unusedVariables false

structure EntV where
  lo : Int
  stop : Int
  h : Int
def entCells (e : EntV) : List Value := [.int .i64 e.lo, .int .i64 e.stop, .int .i64 e.h]
def goR (rec : Int → List EntV → List Int → Res LandS (Bool × List EntV × List Int)) (inner : Bool) : List (Int × Int) → Int → List EntV → List Int → Res LandS (Bool × List EntV × List Int)
  | [], _, es, ns => .ret (true, es, ns)
  | (e, s) :: l, lo, es, ns => if inner = false then goR rec inner l e (es ++ [⟨lo, e, s⟩]) ns else (rec s es ns).bind fun q => if q.1 = true then goR rec inner l e q.2.1 q.2.2 else .ret (false, q.2.1, q.2.2)
def downGo (rec : Int → List EntV → List Int → Res LandS (Bool × List EntV × List Int)) (h : Int) (es : List EntV) (ns : List Int) : Option NodeV → Res LandS (Bool × List EntV × List Int)
  | none => .ret (false, es, ns ++ [h])
  | some n => goR rec n.inner (n.ends.zip n.slots) n.lo es (ns ++ [h])
def downR : Nat → Int → List EntV → List Int → Res LandS (Bool × List EntV × List Int)
  | 0, _, es, ns => .ret (false, es, ns)
  | k + 1, h, es, ns => if ns.length = 64 then .ret (false, es, ns) else (nodeR h).bind fun o => downGo (downR k) h es ns o
theorem go_good {rec : Int → List EntV → List Int → Res LandS (Bool × List EntV × List Int)} (hr : ∀ h es ns, (rec h es ns).Good WfL) (inner : Bool) : ∀ l lo es ns, (goR rec inner l lo es ns).Good WfL
  | [], _, _, _ => trivial
  | (e, s) :: l, lo, es, ns => by
    unfold goR
    split
    · exact go_good hr inner l e _ _
    · exact Good.bind (hr _ _ _) fun q => by
        split
        · exact go_good hr inner l e _ _
        · trivial
theorem down_good : ∀ k h es ns, (downR k h es ns).Good WfL
  | 0, _, _, _ => trivial
  | k + 1, h, es, ns => by
    unfold downR
    split
    · trivial
    · exact Good.bind (node_good h) fun o => by
        cases o with
        | none => trivial
        | some n => exact go_good (down_good k) _ _ _ _ _
theorem go_free {rec : Int → List EntV → List Int → Res LandS (Bool × List EntV × List Int)} (hr : ∀ h es ns, (rec h es ns).free) (inner : Bool) : ∀ l lo es ns, (goR rec inner l lo es ns).free
  | [], _, _, _ => trivial
  | (e, s) :: l, lo, es, ns => by
    unfold goR
    split
    · exact go_free hr inner l e _ _
    · exact Res.bind_free (hr _ _ _) fun q => by
        split
        · exact go_free hr inner l e _ _
        · trivial
theorem down_free : ∀ k h es ns, (downR k h es ns).free
  | 0, _, _, _ => trivial
  | k + 1, h, es, ns => by
    unfold downR
    split
    · trivial
    · exact Res.bind_free (node_free h) fun o => by
        cases o with
        | none => trivial
        | some n => exact go_free (down_free k) _ _ _ _ _

/-- What may change, and what it becomes. -/
structure Moves (X X' : List Nat) (w w' : World) : Prop where
  upd : Upd X w w'
  sub : ∀ b ∈ X', b ∈ X ∨ w.heap.size ≤ b
section
variable {X X' X'' : List Nat} {w w' w'' : World}
theorem Moves.refl (X : List Nat) (w : World) : Moves X X w w := ⟨Upd.refl _ _, fun _ h => .inl h⟩
theorem Moves.trans (h : Moves X X' w w') (k : Moves X' X'' w' w'') : Moves X X'' w w'' :=
  ⟨h.upd.trans_new k.upd h.sub, fun b hb => (k.sub b hb).elim (h.sub b) fun e => .inr (Nat.le_trans h.upd.size e)⟩
theorem Moves.thru (h : Moves X X' w w') (hb : Below w'.heap.size w' w'') : Moves X X' w w'' := ⟨h.upd.trans (Upd.of_below hb), h.sub⟩
theorem Moves.notin (h : Moves X X' w w') {b : Nat} (hlt : b < w.heap.size) (hn : b ∉ X) : b ∉ X' := fun hin => (h.sub b hin).elim hn fun e => by omega
theorem Moves.blk (h : Moves X X' w w') {b : Nat} {ty : TypeId} {cs : Array Value} (hb : Blk w b ty cs) (hn : b ∉ X) : Blk w' b ty cs := hb.upd h.upd hn
theorem Moves.row (h : Moves X X' w w') {b n c z : Nat} {ty : TypeId} {xs : List Value} (hb : Row w ty z b n c xs) (hn : b ∉ X) : Row w' ty z b n c xs := hb.upd h.upd hn
end

/-- The walker's struct, and its two rows. -/
structure WalkerAt (w : World) (B wb : Nat) (p : Pl) (es : List EntV) (ns : List Int) (EA : Option Addr) (ec : Nat) (NA : Option Addr) (nc : Nat) (F : List Nat) : Prop where
  blk : Blk w wb 168 #[.pointer (some ⟨p.t, 0, none⟩), .pointer (some ⟨p.a, 0, none⟩), .slice EA es.length ec, .slice NA ns.length nc]
  oe : w.ownsRow B 47 3 (.slice EA es.length ec) es.length (es.flatMap entCells)
  on : w.ownsRow B 2 1 (.slice NA ns.length nc) ns.length (i64s ns)
  fw : wb ∉ p.all F
  fe : ∀ b ∈ blockOf EA, b ∉ p.all F
  fn : ∀ b ∈ blockOf NA, b ∉ p.all F
  wn : ∀ x ∈ ns, WfI x
  we : ∀ e ∈ es, WfI e.lo ∧ WfI e.stop ∧ WfI e.h
def wset (wb : Nat) (EA NA : Option Addr) (p : Pl) (F : List Nat) : List Nat := wb :: (blockOf EA ++ (blockOf NA ++ p.all F))
section
variable {w w' w4 : World} {B wb : Nat} {p : Pl} {es : List EntV} {ns : List Int} {EA NA : Option Addr} {ec nc : Nat} {F F' G : List Nat}
theorem mem_wset {b : Nat} : b ∈ wset wb EA NA p F ↔ b = wb ∨ b ∈ blockOf EA ∨ b ∈ blockOf NA ∨ b ∈ p.all F := by simp [wset]
theorem WalkerAt.lt (h : WalkerAt w B wb p es ns EA ec NA nc F) (hF : ∀ b ∈ p.all F, b < w.heap.size) : ∀ b ∈ wset wb EA NA p F, b < w.heap.size := by
  intro b hb
  rcases mem_wset.1 hb with rfl | hb | hb | hb
  · exact h.blk.lt
  · exact ownsRow_blockLt h.oe b hb
  · exact ownsRow_blockLt h.on b hb
  · exact hF b hb
theorem WalkerAt.eb (h : WalkerAt w B wb p es ns EA ec NA nc F) : wb ∉ blockOf EA := blk_notin h.oe h.blk (by decide)
theorem WalkerAt.nb (h : WalkerAt w B wb p es ns EA ec NA nc F) : wb ∉ blockOf NA := blk_notin h.on h.blk (by decide)
theorem WalkerAt.en (h : WalkerAt w B wb p es ns EA ec NA nc F) : ∀ b ∈ blockOf EA, b ∉ blockOf NA := by
  intro b hb hb2
  have := rows_apart h.oe h.on (by decide)
  cases EA with
  | none => simp [blockOf] at hb
  | some a =>
    cases NA with
    | none => simp [blockOf] at hb2
    | some c =>
      simp [blockOf] at hb hb2
      simp [Value.ownBlock] at this
      exact this (hb ▸ hb2 ▸ rfl)
theorem WalkerAt.upd (h : WalkerAt w B wb p es ns EA ec NA nc F) (hu : Upd G w w') (h1 : wb ∉ G) (h2 : ∀ b ∈ blockOf EA, b ∉ G) (h3 : ∀ b ∈ blockOf NA, b ∉ G) : WalkerAt w' B wb p es ns EA ec NA nc F :=
  ⟨h.blk.upd hu h1, ownsRow_upd h.oe hu h2, ownsRow_upd h.on hu h3, h.fw, h.fe, h.fn, h.wn, h.we⟩
theorem WalkerAt.thru (h : WalkerAt w B wb p es ns EA ec NA nc F) (hb : Below w.heap.size w w') : WalkerAt w' B wb p es ns EA ec NA nc F := h.upd (Upd.of_below hb (F := [])) (by simp) (by simp) (by simp)
theorem WalkerAt.keep (h : WalkerAt w B wb p es ns EA ec NA nc F) (hk : Keeps w w' p F F') : WalkerAt w' B wb p es ns EA ec NA nc F' :=
  ⟨hk.blk h.blk h.fw, ownsRow_upd h.oe hk.1 h.fe, ownsRow_upd h.on hk.1 h.fn, hk.notin h.blk.lt h.fw, fun b hb => hk.notin (ownsRow_blockLt h.oe b hb) (h.fe b hb), fun b hb => hk.notin (ownsRow_blockLt h.on b hb) (h.fn b hb), h.wn, h.we⟩
theorem Keeps.moves (hk : Keeps w w' p F F') : Moves (wset wb EA NA p F) (wset wb EA NA p F') w w' := by
  refine ⟨hk.1.mono fun b hb => mem_wset.2 (.inr (.inr (.inr hb))), fun b hb => ?_⟩
  rcases mem_wset.1 hb with h | h | h | h
  · exact .inl (mem_wset.2 (.inl h))
  · exact .inl (mem_wset.2 (.inr (.inl h)))
  · exact .inl (mem_wset.2 (.inr (.inr (.inl h))))
  · simp only [Pl.all, List.mem_cons] at h
    rcases h with e | e | e | e | e
    · exact .inl (mem_wset.2 (.inr (.inr (.inr (by simp [Pl.all, e])))))
    · exact .inl (mem_wset.2 (.inr (.inr (.inr (by simp [Pl.all, e])))))
    · exact .inl (mem_wset.2 (.inr (.inr (.inr (by simp [Pl.all, e])))))
    · exact .inl (mem_wset.2 (.inr (.inr (.inr (by simp [Pl.all, e])))))
    · rcases hk.2 b e with h | h
      · exact .inl (mem_wset.2 (.inr (.inr (.inr (by simp [Pl.all, h])))))
      · exact .inr h
theorem own_step {A : Option Addr} {n cap : Nat} {g : Nat} {o : Obj} (hgrow : (w.alloc o).grownBy w4 (Value.slice A n cap).ownBlock) (hat : (Value.slice A n cap).ownBlock = some g ∨ g = w.heap.size + 1) :
    Upd (blockOf A) w w4 ∧ (g ∈ blockOf A ∨ g = w.heap.size + 1) := by
  constructor
  · exact ((Upd.refl _ _).alloc o).grown hgrow (fun b hb => by
      left
      cases A with
      | none => simp [Value.ownBlock] at hb
      | some a => simp [Value.ownBlock] at hb; simp [blockOf, hb])
  · rcases hat with e | e
    · left
      cases A with
      | none => simp [Value.ownBlock] at e
      | some a => simp [Value.ownBlock] at e; simp [blockOf, e]
    · exact .inr e
/-- A node's handle is put behind the others. -/
theorem WalkerAt.pushN (h : WalkerAt w B wb p es ns EA ec NA nc F) (o : Obj) {g cap' : Nat} {v : Int} (hv : WfI v) (hF : ∀ b ∈ p.all F, b < w.heap.size)
    (hown : w4.ownsRow B 2 1 (.slice (some ⟨g, 0, none⟩) (ns.length + 1) cap') (ns.length + 1) (i64s ns ++ [.int .i64 v])) (hgrow : (w.alloc o).grownBy w4 (Value.slice NA ns.length nc).ownBlock) (hat : (Value.slice NA ns.length nc).ownBlock = some g ∨ g = w.heap.size + 1) :
    WalkerAt (w4.setCell ⟨wb, 3, none⟩ (.slice (some ⟨g, 0, none⟩) (ns.length + 1) cap')) B wb p es (ns ++ [v]) EA ec (some ⟨g, 0, none⟩) cap' F ∧
      Moves (wset wb EA NA p F) (wset wb EA (some ⟨g, 0, none⟩) p F) w (w4.setCell ⟨wb, 3, none⟩ (.slice (some ⟨g, 0, none⟩) (ns.length + 1) cap')) ∧
      Upd (wb :: blockOf NA) w (w4.setCell ⟨wb, 3, none⟩ (.slice (some ⟨g, 0, none⟩) (ns.length + 1) cap')) ∧
      w4.cell? ⟨wb, 3, none⟩ = some (.slice NA ns.length nc) ∧ w4.frozen? ⟨wb, 3, none⟩ = false := by
  obtain ⟨hu4, hg⟩ := own_step hgrow hat
  have hnb := h.nb
  have hgw : g ≠ wb := by
    rintro rfl
    rcases hg with e | e
    · exact hnb e
    · have := h.blk.lt; omega
  have h4 := h.blk.upd hu4 hnb
  have hu5 : Upd (wb :: blockOf NA) w (w4.setCell ⟨wb, 3, none⟩ (.slice (some ⟨g, 0, none⟩) (ns.length + 1) cap')) := (hu4.mono (by intro b hb; simp [hb])).put (.inl (by simp)) _
  refine ⟨⟨?_, ?_, ?_, h.fw, h.fe, ?_, ?_, h.we⟩, ⟨hu5.mono ?_, ?_⟩, hu5, h4.at_ rfl, h4.free 3⟩
  · have := h4.put 3 (.slice (some ⟨g, 0, none⟩) (ns.length + 1) cap')
    simpa using this
  · exact ownsRow_far (ownsRow_upd h.oe hu4 h.en) (p := ⟨wb, 3, none⟩) h.eb _
  · have := ownsRow_far hown (p := ⟨wb, 3, none⟩) (by simp [blockOf]; exact fun e => hgw e.symm) (.slice (some ⟨g, 0, none⟩) (ns.length + 1) cap')
    rw [i64s_snoc] at this
    simpa using this
  · intro b hb hin
    simp only [blockOf, List.mem_singleton] at hb
    subst hb
    rcases hg with e | e
    · exact h.fn _ e hin
    · have := hF _ hin; omega
  · intro x hx
    rcases List.mem_append.1 hx with hx | hx
    · exact h.wn x hx
    · simp only [List.mem_singleton] at hx
      exact hx ▸ hv
  · intro b hb
    simp only [List.mem_cons] at hb
    rcases hb with e | e
    · exact mem_wset.2 (.inl e)
    · exact mem_wset.2 (.inr (.inr (.inl e)))
  · intro b hb
    rcases mem_wset.1 hb with e | e | e | e
    · exact .inl (mem_wset.2 (.inl e))
    · exact .inl (mem_wset.2 (.inr (.inl e)))
    · simp only [blockOf, List.mem_singleton] at e
      subst e
      rcases hg with e | e
      · exact .inl (mem_wset.2 (.inr (.inr (.inl e))))
      · exact .inr (by omega)
    · exact .inl (mem_wset.2 (.inr (.inr (.inr e))))
theorem ent_snoc (es : List EntV) (e : EntV) : es.flatMap entCells ++ [.int .i64 e.lo, .int .i64 e.stop, .int .i64 e.h] = (es ++ [e]).flatMap entCells := by simp [entCells]
/-- An entry is put behind the others. -/
theorem WalkerAt.pushE (h : WalkerAt w B wb p es ns EA ec NA nc F) (o : Obj) {g cap' : Nat} {v : EntV} (hv : WfI v.lo ∧ WfI v.stop ∧ WfI v.h) (hF : ∀ b ∈ p.all F, b < w.heap.size)
    (hown : w4.ownsRow B 47 3 (.slice (some ⟨g, 0, none⟩) (es.length + 1) cap') (es.length + 1) (es.flatMap entCells ++ [.int .i64 v.lo, .int .i64 v.stop, .int .i64 v.h])) (hgrow : (w.alloc o).grownBy w4 (Value.slice EA es.length ec).ownBlock) (hat : (Value.slice EA es.length ec).ownBlock = some g ∨ g = w.heap.size + 1) :
    WalkerAt (w4.setCell ⟨wb, 2, none⟩ (.slice (some ⟨g, 0, none⟩) (es.length + 1) cap')) B wb p (es ++ [v]) ns (some ⟨g, 0, none⟩) cap' NA nc F ∧
      Moves (wset wb EA NA p F) (wset wb (some ⟨g, 0, none⟩) NA p F) w (w4.setCell ⟨wb, 2, none⟩ (.slice (some ⟨g, 0, none⟩) (es.length + 1) cap')) ∧
      Upd (wb :: blockOf EA) w (w4.setCell ⟨wb, 2, none⟩ (.slice (some ⟨g, 0, none⟩) (es.length + 1) cap')) ∧
      w4.cell? ⟨wb, 2, none⟩ = some (.slice EA es.length ec) ∧ w4.frozen? ⟨wb, 2, none⟩ = false := by
  obtain ⟨hu4, hg⟩ := own_step hgrow hat
  have hnb := h.eb
  have hgw : g ≠ wb := by
    rintro rfl
    rcases hg with e | e
    · exact hnb e
    · have := h.blk.lt; omega
  have h4 := h.blk.upd hu4 hnb
  have hu5 : Upd (wb :: blockOf EA) w (w4.setCell ⟨wb, 2, none⟩ (.slice (some ⟨g, 0, none⟩) (es.length + 1) cap')) := (hu4.mono (by intro b hb; simp [hb])).put (.inl (by simp)) _
  refine ⟨⟨?_, ?_, ?_, h.fw, ?_, h.fn, h.wn, ?_⟩, ⟨hu5.mono ?_, ?_⟩, hu5, h4.at_ rfl, h4.free 2⟩
  · have := h4.put 2 (.slice (some ⟨g, 0, none⟩) (es.length + 1) cap')
    simpa using this
  · have := ownsRow_far hown (p := ⟨wb, 2, none⟩) (by simp [blockOf]; exact fun e => hgw e.symm) (.slice (some ⟨g, 0, none⟩) (es.length + 1) cap')
    rw [ent_snoc] at this
    simpa using this
  · exact ownsRow_far (ownsRow_upd h.on hu4 (fun b hb hb2 => h.en b hb2 hb)) (p := ⟨wb, 2, none⟩) h.nb _
  · intro b hb hin
    simp only [blockOf, List.mem_singleton] at hb
    subst hb
    rcases hg with e | e
    · exact h.fe _ e hin
    · have := hF _ hin; omega
  · intro x hx
    rcases List.mem_append.1 hx with hx | hx
    · exact h.we x hx
    · simp only [List.mem_singleton] at hx
      exact hx ▸ hv
  · intro b hb
    simp only [List.mem_cons] at hb
    rcases hb with e | e
    · exact mem_wset.2 (.inl e)
    · exact mem_wset.2 (.inr (.inl e))
  · intro b hb
    rcases mem_wset.1 hb with e | e | e | e
    · exact .inl (mem_wset.2 (.inl e))
    · simp only [blockOf, List.mem_singleton] at e
      subst e
      rcases hg with e | e
      · exact .inl (mem_wset.2 (.inr (.inl e)))
      · exact .inr (by omega)
    · exact .inl (mem_wset.2 (.inr (.inr (.inl e))))
    · exact .inl (mem_wset.2 (.inr (.inr (.inr e))))
end
end Go.Proofs.Ytldccemgfjmcdaa
