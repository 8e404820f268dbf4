/- Layer 17's walk: down, and All. -/
import Derived.Test.YtldccemgfjmcdaaWalkD
namespace Go.Proofs.Ytldccemgfjmcdaa
open Go.RowKit
set_option linter.unusedSimpArgs false
set_option linter.unusedVariables false

/-- What down leaves. -/
def DownPost (k : Nat) (h : Int) (es : List EntV) (ns : List Int) (w : World) (p : Pl) (σ : LandS) (s : TrS) (F : List Nat) (B wb : Nat) (EA NA : Option Addr) (e : Ending) (w' : World) : Prop :=
  ∃ v es' ns' EA' ec' NA' nc' σ' s' F', e = .returned (.bool v) ∧ Sim ((downR k h es ns).run σ s) ((v, es', ns'), σ', s') ∧ TL w' p σ' s' F' ∧ WalkerAt w' B wb p es' ns' EA' ec' NA' nc' F' ∧
    Moves (wset wb EA NA p F) (wset wb EA' NA' p F') w w' ∧ ns.length ≤ ns'.length ∧ ns'.length ≤ 64 ∧ es'.length + 8 * ns.length ≤ es.length + 8 * ns'.length ∧ (∀ b ∈ F', b ∈ F ∨ w.heap.size ≤ b)
/-- Where the walk of down is. -/
structure DownAt (k : Nat) (h : Int) (es : List EntV) (ns : List Int) (w wr : World) (p : Pl) (σ : LandS) (s : TrS) (F : List Nat) (n B wb : Nat) (EA NA : Option Addr) (rest : Res LandS (Bool × List EntV × List Int)) (σ' : LandS) (s' : TrS) (F' : List Nat) (es' : List EntV) (ns' : List Int) (EA' : Option Addr) (ec' : Nat) (NA' : Option Addr) (nc' : Nat) : Prop where
  tl : TL wr p σ' s' F'
  inn : s'.In n
  over : s'.over = false
  goes : GoesL (downR k h es ns) σ s rest σ' s'
  wk : WalkerAt wr B wb p es' ns' EA' ec' NA' nc' F'
  mv : Moves (wset wb EA NA p F) (wset wb EA' NA' p F') w wr
  fs : ∀ b ∈ F', b ∈ F ∨ w.heap.size ≤ b
section
variable {k : Nat} {h : Int} {es es' : List EntV} {ns ns' : List Int} {w wr w3 : World} {p : Pl} {σ σ' : LandS} {s s' : TrS} {F F' : List Nat} {n B wb : Nat} {EA NA EA' NA' : Option Addr} {ec' nc' : Nat} {rest rest' : Res LandS (Bool × List EntV × List Int)}
theorem DownAt.thru (d : DownAt k h es ns w wr p σ s F n B wb EA NA rest σ' s' F' es' ns' EA' ec' NA' nc') (hb : Below wr.heap.size wr w3) : DownAt k h es ns w w3 p σ s F n B wb EA NA rest σ' s' F' es' ns' EA' ec' NA' nc' :=
  ⟨d.tl.thru hb, d.inn, d.over, d.goes, d.wk.thru hb, d.mv.thru hb, d.fs⟩
theorem DownAt.eq (d : DownAt k h es ns w wr p σ s F n B wb EA NA rest σ' s' F' es' ns' EA' ec' NA' nc') (e : rest = rest') : DownAt k h es ns w wr p σ s F n B wb EA NA rest' σ' s' F' es' ns' EA' ec' NA' nc' := e ▸ d
theorem DownAt.ends (d : DownAt k h es ns w wr p σ s F n B wb EA NA (.ret (true, es', ns')) σ' s' F' es' ns' EA' ec' NA' nc') (h1 : ns.length ≤ ns'.length) (h2 : ns'.length ≤ 64) (h3 : es'.length + 8 * ns.length ≤ es.length + 8 * ns'.length) :
    DownPost k h es ns w p σ s F B wb EA NA (.returned (.bool true)) wr := ⟨true, es', ns', EA', ec', NA', nc', σ', s', F', rfl, d.goes.end_ret, d.tl, d.wk, d.mv, h1, h2, h3, d.fs⟩
theorem DownAt.fails (d : DownAt k h es ns w wr p σ s F n B wb EA NA (.ret (false, es', ns')) σ' s' F' es' ns' EA' ec' NA' nc') (h1 : ns.length ≤ ns'.length) (h2 : ns'.length ≤ 64) (h3 : es'.length + 8 * ns.length ≤ es.length + 8 * ns'.length) :
    DownPost k h es ns w p σ s F B wb EA NA (.returned (.bool false)) wr := ⟨false, es', ns', EA', ec', NA', nc', σ', s', F', rfl, d.goes.end_ret, d.tl, d.wk, d.mv, h1, h2, h3, d.fs⟩
theorem DownAt.moved {w5 : World} {es2 : List EntV} {ns2 : List Int} {EA2 NA2 : Option Addr} {ec2 nc2 : Nat} {G : List Nat} (d : DownAt k h es ns w wr p σ s F n B wb EA NA rest σ' s' F' es' ns' EA' ec' NA' nc') (hwk : WalkerAt w5 B wb p es2 ns2 EA2 ec2 NA2 nc2 F')
    (hm : Moves (wset wb EA' NA' p F') (wset wb EA2 NA2 p F') wr w5) (hu : Upd G wr w5) (hG : ∀ b ∈ p.all F', b ∉ G) : DownAt k h es ns w w5 p σ s F n B wb EA NA rest σ' s' F' es2 ns2 EA2 ec2 NA2 nc2 :=
  ⟨d.tl.upd hu hG, d.inn, d.over, d.goes, hwk, d.mv.trans hm, d.fs⟩
theorem WalkerAt.apartN {ec nc : Nat} (h : WalkerAt w B wb p es ns EA ec NA nc F) : ∀ b ∈ p.all F, b ∉ wb :: blockOf NA := by
  intro b hb hin
  simp only [List.mem_cons] at hin
  rcases hin with rfl | hin
  · exact h.fw hb
  · exact h.fn b hin hb
theorem WalkerAt.apartE {ec nc : Nat} (h : WalkerAt w B wb p es ns EA ec NA nc F) : ∀ b ∈ p.all F, b ∉ wb :: blockOf EA := by
  intro b hb hin
  simp only [List.mem_cons] at hin
  rcases hin with rfl | hin
  · exact h.fw hb
  · exact h.fe b hin hb
/-- A node that is told, cell by cell. -/
def NVc (w w' : World) (avoid : List Nat) (v : Option NodeV) (d0 d1 d2 d3 d4 : Value) : Prop :=
  (v = none ∧ d0 = .bool false ∧ d1 = .int .i64 0 ∧ d2 = .slice none 0 0 ∧ d3 = .slice none 0 0 ∧ d4 = .slice none 0 0) ∨
  ∃ m g1 g2 g3 c1 c2 c3, v = some m ∧ d0 = .bool m.inner ∧ d1 = .int .i64 m.lo ∧ d2 = .slice (some ⟨g1, 0, none⟩) m.ends.length c1 ∧ d3 = .slice (some ⟨g2, 0, none⟩) m.slots.length c2 ∧ d4 = .slice (some ⟨g3, 0, none⟩) m.gaps.length c3 ∧ NodeNew w w' avoid m g1 g2 g3 c1 c2 c3
theorem NV.cells {w w' : World} {avoid : List Nat} {v : Option NodeV} {x : Value} (h : NV w w' avoid v x) : ∃ b lo A1 n1 c1 A2 n2 c2 A3 n3 c3, x = .tuple #[.agg #[.bool b, .int .i64 lo, .slice A1 n1 c1, .slice A2 n2 c2, .slice A3 n3 c3], .bool v.isSome] ∧ NVc w w' avoid v (.bool b) (.int .i64 lo) (.slice A1 n1 c1) (.slice A2 n2 c2) (.slice A3 n3 c3) := by
  rcases h with ⟨rfl, rfl⟩ | ⟨m, g1, g2, g3, c1, c2, c3, rfl, rfl, hn⟩
  · exact ⟨_, _, _, _, _, _, _, _, _, _, _, rfl, .inl ⟨rfl, rfl, rfl, rfl, rfl, rfl⟩⟩
  · exact ⟨_, _, _, _, _, _, _, _, _, _, _, rfl, .inr ⟨m, g1, g2, g3, c1, c2, c3, rfl, rfl, rfl, rfl, rfl, rfl, hn⟩⟩
/-- The node is read. -/
theorem DownAt.node {q : Int} {f : Option NodeV → Res LandS (Bool × List EntV × List Int)} (d : DownAt k h es ns w wr p σ s F n B wb EA NA ((nodeR q).bind f) σ' s' F' es' ns' EA' ec' NA' nc') {e : Ending} (hd : NodeDoes wr p σ' s' F' (nodeR q) e w3) :
    ∃ v x σ2 s2 F2, e = .returned x ∧ NV wr w3 (p.all F2) v x ∧ DownAt k h es ns w w3 p σ s F n B wb EA NA (f v) σ2 s2 F2 es' ns' EA' ec' NA' nc' ∧ Moves (wset wb EA' NA' p F') (wset wb EA' NA' p F2) wr w3 := by
  obtain ⟨v, x, σ2, s2, F2, he, hv, hs, ht, hk⟩ := hd
  exact ⟨v, x, σ2, s2, F2, he, hv, ⟨ht, hs.in_ (run_in _ σ' s' d.inn), hs.over_eq.trans ((run_over _ σ' s').trans d.over), d.goes.trans (GoesL.bind hs), d.wk.keep hk, d.mv.trans hk.moves, fun b hb => (hk.2 b hb).elim (d.fs b) fun e => .inr (Nat.le_trans d.mv.upd.size e)⟩, hk.moves⟩
/-- What is below an entry is gone through. -/
theorem DownAt.down {j : Nat} {q : Int} {f : Bool × List EntV × List Int → Res LandS (Bool × List EntV × List Int)} (d : DownAt k h es ns w wr p σ s F n B wb EA NA ((downR j q es' ns').bind f) σ' s' F' es' ns' EA' ec' NA' nc') {e : Ending} (hd : DownPost j q es' ns' wr p σ' s' F' B wb EA' NA' e w3) :
    ∃ v es2 ns2 EA2 ec2 NA2 nc2 σ2 s2 F2, e = .returned (.bool v) ∧ DownAt k h es ns w w3 p σ s F n B wb EA NA (f (v, es2, ns2)) σ2 s2 F2 es2 ns2 EA2 ec2 NA2 nc2 ∧ Moves (wset wb EA' NA' p F') (wset wb EA2 NA2 p F2) wr w3 ∧
      ns'.length ≤ ns2.length ∧ ns2.length ≤ 64 ∧ es2.length + 8 * ns'.length ≤ es'.length + 8 * ns2.length := by
  obtain ⟨v, es2, ns2, EA2, ec2, NA2, nc2, σ2, s2, F2, he, hs, ht, hk, hm, h1, h2, h3, hf⟩ := hd
  exact ⟨v, es2, ns2, EA2, ec2, NA2, nc2, σ2, s2, F2, he, ⟨ht, hs.in_ (run_in _ σ' s' d.inn), hs.over_eq.trans ((run_over _ σ' s').trans d.over), d.goes.trans (GoesL.bind hs), hk, d.mv.trans hm, fun b hb => (hf b hb).elim (d.fs b) fun e => .inr (Nat.le_trans d.mv.upd.size e)⟩, hm, h1, h2, h3⟩
end
set_option maxRecDepth 100000 in
set_option maxHeartbeats 4000000 in
theorem walk_down0 (h : Int) (es : List EntV) (ns : List Int) (p : Pl) (σ : LandS) (s : TrS) (F : List Nat) (B wb : Nat) (EA NA : Option Addr) (ec nc : Nat) (w : World) (ht : TL w p σ s F) (hwk : WalkerAt w B wb p es ns EA ec NA nc F) (hns : ns.length ≤ 64) :
    Calls Try.prog 93 #[.pointer (some ⟨wb, 0, none⟩), .int .i64 h, .int .i64 0] w (DownPost 0 h es ns w p σ s F B wb EA NA) := by
  have HE := Lib.hid (show DownPost 0 h es ns w p σ s F B wb EA NA (.returned (.bool false)) w from ⟨false, es, ns, EA, ec, NA, nc, σ, s, F, rfl, Sim.refl _, ht, hwk, Moves.refl _ _, Nat.le_refl _, hns, Nat.le_refl _, fun _ h => .inl h⟩)
  clear ht hwk
  go_enter Try.func93, Try.ntmps93
  go_wp2
  go_ret
  exact HE.out

theorem goR_cons (rec : Int → List EntV → List Int → Res LandS (Bool × List EntV × List Int)) (m : NodeV) (hs : m.slots.length = m.ends.length) {i : Nat} (hi : i < m.ends.length) (lo : Int) (es : List EntV) (ns : List Int) :
    goR rec m.inner ((m.ends.zip m.slots).drop i) lo es ns = if m.inner = false then goR rec m.inner ((m.ends.zip m.slots).drop (i + 1)) (m.ends.getD i 0) (es ++ [⟨lo, m.ends.getD i 0, m.slots.getD i 0⟩]) ns
      else (rec (m.slots.getD i 0) es ns).bind fun q => if q.1 = true then goR rec m.inner ((m.ends.zip m.slots).drop (i + 1)) (m.ends.getD i 0) q.2.1 q.2.2 else .ret (false, q.2.1, q.2.2) := by
  have hz : i < (m.ends.zip m.slots).length := by simp; omega
  rw [List.drop_eq_getElem_cons hz]
  have e : (m.ends.zip m.slots)[i] = (m.ends.getD i 0, m.slots.getD i 0) := by
    simp [List.getD_eq_getElem?_getD, List.getElem?_eq_getElem hi, List.getElem?_eq_getElem (show i < m.slots.length by omega)]
  rw [e, goR]
/-- Behind the reading of the node. -/
def NodeRead (k : Nat) (h : Int) (es : List EntV) (ns : List Int) (w : World) (p : Pl) (σ : LandS) (s : TrS) (F : List Nat) (n B wb : Nat) (EA NA : Option Addr) (ec : Nat) (rest : Option NodeV → Res LandS (Bool × List EntV × List Int)) (v7 v8 : Value) (wc : World) : Prop :=
  ∃ nb v d0 d1 d2 d3 d4 w0 NA' nc' σ' s' F', v7 = .pointer (some ⟨nb, 0, none⟩) ∧ v8 = .bool (Option.isSome v) ∧ Blk wc nb 50 #[d0, d1, d2, d3, d4] ∧ nb ∉ wset wb EA NA' p F' ∧ NVc w0 wc (wset wb EA NA' p F') v d0 d1 d2 d3 d4 ∧
    DownAt k h es ns w wc p σ s F n B wb EA NA (rest v) σ' s' F' es (ns ++ [h]) EA ec NA' nc' ∧ w.heap.size ≤ w0.heap.size
theorem NVc.more {w w' w'' : World} {avoid avoid' : List Nat} {v : Option NodeV} {d0 d1 d2 d3 d4 : Value} {G : List Nat} (h : NVc w w' avoid v d0 d1 d2 d3 d4) (hu : Upd G w' w'') (hG : ∀ g n c xs, Row w' 2 1 g n c xs → w.heap.size ≤ g → g ∉ avoid → g ∉ G ∧ g ∉ avoid') : NVc w w'' avoid' v d0 d1 d2 d3 d4 := by
  rcases h with h | ⟨m, g1, g2, g3, c1, c2, c3, e1, e2, e3, e4, e5, e6, hn⟩
  · exact .inl h
  · obtain ⟨q1, q1'⟩ := hG _ _ _ _ hn.r1 hn.n1 hn.f1
    obtain ⟨q2, q2'⟩ := hG _ _ _ _ hn.r2 hn.n2 hn.f2
    obtain ⟨q3, q3'⟩ := hG _ _ _ _ hn.r3 hn.n3 hn.f3
    exact .inr ⟨m, g1, g2, g3, c1, c2, c3, e1, e2, e3, e4, e5, e6, hn.r1.upd hu q1, hn.r2.upd hu q2, hn.r3.upd hu q3, q1', q2', q3', hn.n1, hn.n2, hn.n3, hn.wf, hn.ok⟩
theorem NVc.moves {w0 w w' : World} {X X' : List Nat} {v : Option NodeV} {d0 d1 d2 d3 d4 : Value} (h : NVc w0 w X v d0 d1 d2 d3 d4) (hm : Moves X X' w w') : NVc w0 w' X' v d0 d1 d2 d3 d4 :=
  h.more hm.upd fun _ _ _ _ hr _ hn => ⟨hn, hm.notin (by obtain ⟨_, hb, _⟩ := hr; exact hb.lt) hn⟩
theorem NodeNew.moves {w0 w w' : World} {X X' : List Nat} {m : NodeV} {g1 g2 g3 c1 c2 c3 : Nat} (h : NodeNew w0 w X m g1 g2 g3 c1 c2 c3) (hm : Moves X X' w w') : NodeNew w0 w' X' m g1 g2 g3 c1 c2 c3 :=
  ⟨hm.row h.r1 h.f1, hm.row h.r2 h.f2, hm.row h.r3 h.f3, hm.notin (by obtain ⟨_, hb, _⟩ := h.r1; exact hb.lt) h.f1, hm.notin (by obtain ⟨_, hb, _⟩ := h.r2; exact hb.lt) h.f2, hm.notin (by obtain ⟨_, hb, _⟩ := h.r3; exact hb.lt) h.f3, h.n1, h.n2, h.n3, h.wf, h.ok⟩
theorem DownAt.own {k : Nat} {h : Int} {es es' : List EntV} {ns ns' : List Int} {w wr w3 : World} {p : Pl} {σ σ' : LandS} {s s' : TrS} {F F' : List Nat} {n B wb : Nat} {EA NA EA' NA' : Option Addr} {ec' nc' : Nat} {rest : Res LandS (Bool × List EntV × List Int)} {b : Nat}
    (d : DownAt k h es ns w wr p σ s F n B wb EA NA rest σ' s' F' es' ns' EA' ec' NA' nc') (hu : Upd [b] wr w3) (hb : b ∉ wset wb EA' NA' p F') (hn : w.heap.size ≤ b) : DownAt k h es ns w w3 p σ s F n B wb EA NA rest σ' s' F' es' ns' EA' ec' NA' nc' :=
  ⟨d.tl.upd hu (fun x hx hin => hb (by simp only [List.mem_singleton] at hin; exact hin ▸ mem_wset.2 (.inr (.inr (.inr hx))))), d.inn, d.over, d.goes,
    d.wk.upd hu (fun hin => hb (by simp only [List.mem_singleton] at hin; exact hin ▸ mem_wset.2 (.inl rfl))) (fun x hx hin => hb (by simp only [List.mem_singleton] at hin; exact hin ▸ mem_wset.2 (.inr (.inl hx)))) (fun x hx hin => hb (by simp only [List.mem_singleton] at hin; exact hin ▸ mem_wset.2 (.inr (.inr (.inl hx))))),
    ⟨d.mv.upd.trans_new hu (fun x hx => .inr (by simp only [List.mem_singleton] at hx; omega)), d.mv.sub⟩, d.fs⟩
section
variable {k : Nat} {h : Int} {es : List EntV} {ns : List Int} {w w5 w6 : World} {p : Pl} {σ σ' σ2 : LandS} {s s' s2 : TrS} {F F' F2 : List Nat} {n B wb : Nat} {EA NA NA' : Option Addr} {ec nc' : Nat} {rest0 : Res LandS (Bool × List EntV × List Int)} {rest : Option NodeV → Res LandS (Bool × List EntV × List Int)} {v : Option NodeV} {d0 d1 d2 d3 d4 : Value} {cs0 : Array Value}
/-- What is new since the reading began lies apart. -/
theorem NVc.apart {w0 : World} (hnc : NVc w0 w6 (p.all F2) v d0 d1 d2 d3 d4) (hlt : ∀ b ∈ wset wb EA NA' p F, b < w0.heap.size) : NVc w0 w6 (wset wb EA NA' p F2) v d0 d1 d2 d3 d4 := by
  refine hnc.more (Upd.refl [] w6) fun g _ _ _ _ hn hav => ⟨by simp, fun hin => ?_⟩
  rcases mem_wset.1 hin with e | e | e | e
  · have := hlt g (mem_wset.2 (.inl e)); omega
  · have := hlt g (mem_wset.2 (.inr (.inl e))); omega
  · have := hlt g (mem_wset.2 (.inr (.inr (.inl e)))); omega
  · exact hav e
theorem NodeRead.of1 (D2 : DownAt k h es ns w w5 p σ s F n B wb EA NA rest0 σ' s' F' es (ns ++ [h]) EA ec NA' nc') (D3 : DownAt k h es ns w w6 p σ s F n B wb EA NA (rest v) σ2 s2 F2 es (ns ++ [h]) EA ec NA' nc')
    (hnc : NVc w5.drew w6 (p.all F2) v d0 d1 d2 d3 d4) :
    NodeRead k h es ns w p σ s F n B wb EA NA ec rest (.pointer (some ⟨w6.heap.size, 0, none⟩)) (.bool v.isSome) (w6.alloc (.cells #[d0, d1, d2, d3, d4] 50)) :=
  ⟨w6.heap.size, v, d0, d1, d2, d3, d4, w5.drew, NA', nc', σ2, s2, F2, rfl, rfl, Blk.new _ _ _, fun hin => Nat.lt_irrefl _ (D3.wk.lt D3.tl.lt _ hin),
    (hnc.apart (D2.wk.lt D2.tl.lt)).more (Upd.of_below (below_alloc0 w6 _) (F := [])) (fun _ _ _ _ _ _ hn => ⟨by simp, hn⟩), D3.thru (below_alloc0 w6 _), D2.mv.upd.size⟩
theorem NodeRead.of2 (D2 : DownAt k h es ns w w5 p σ s F n B wb EA NA rest0 σ' s' F' es (ns ++ [h]) EA ec NA' nc') (D3 : DownAt k h es ns w w6 p σ s F n B wb EA NA (rest v) σ2 s2 F2 es (ns ++ [h]) EA ec NA' nc')
    {o : Obj} {a0 a1 a2 a3 a4 : Value} (hz : Blk w6 w5.heap.size 50 #[a0, a1, a2, a3, a4]) (hm : Moves (wset wb EA NA' p F') (wset wb EA NA' p F2) (w5.alloc o).drew w6)
    (hnc : NVc (w5.alloc o).drew w6 (p.all F2) v d0 d1 d2 d3 d4) :
    NodeRead k h es ns w p σ s F n B wb EA NA ec rest (.pointer (some ⟨w5.heap.size, 0, none⟩)) (.bool v.isSome)
      (((((w6.setCell ⟨w5.heap.size, 0, none⟩ d0).setCell ⟨w5.heap.size, 1, none⟩ d1).setCell ⟨w5.heap.size, 2, none⟩ d2).setCell ⟨w5.heap.size, 3, none⟩ d3).setCell ⟨w5.heap.size, 4, none⟩ d4) := by
  have hs : (w5.alloc o).drew.heap.size = w5.heap.size + 1 := World.size_alloc _ _
  have hnb : w5.heap.size ∉ wset wb EA NA' p F2 := hm.notin (by omega) fun hin => Nat.lt_irrefl _ (D2.wk.lt D2.tl.lt _ hin)
  have hle := D2.mv.upd.size
  refine ⟨w5.heap.size, v, d0, d1, d2, d3, d4, (w5.alloc o).drew, NA', nc', σ2, s2, F2, rfl, rfl, put5 hz _ _ _ _ _, hnb, ?_, D3.own (upd_put5 w6 w5.heap.size d0 d1 d2 d3 d4) hnb hle, by omega⟩
  refine (hnc.apart (fun b hb => by have := D2.wk.lt D2.tl.lt b hb; omega)).more (upd_put5 w6 w5.heap.size d0 d1 d2 d3 d4) fun g _ _ _ hr hn hav => ⟨?_, hav⟩
  simp only [List.mem_singleton]
  omega
end
theorem info_entry : (Try.prog.info? 47).map (fun i => (i.zero, i.size, i.bytes)) = some (some (.agg #[.int .i64 0, .int .i64 0, .int .i64 0]), 3, 24) := by kernel_rfl
theorem under_entries : Try.prog.underlying 30 = some (.slice 47) := by kernel_rfl
theorem getD_mem {xs : List Int} {i : Nat} (h : i < xs.length) : xs.getD i 0 ∈ xs := by
  rw [List.getD_eq_getElem?_getD, List.getElem?_eq_getElem h]
  exact List.getElem_mem h
theorem row_int {w : World} {g n cap i : Nat} {ys : List Int} (h : Row w 2 1 g n cap (i64s ys)) (hi : i < ys.length) : w.cell? ⟨g, i, none⟩ = some (.int .i64 (ys.getD i 0)) :=
  h.cell (by unfold i64s; rw [List.getElem?_map, List.getElem?_eq_getElem hi, List.getD_eq_getElem?_getD, List.getElem?_eq_getElem hi]; rfl)
/-- Where the loop over a node's entries is. -/
structure LoopAt (k : Nat) (h : Int) (es : List EntV) (ns : List Int) (w wr : World) (p : Pl) (σ : LandS) (s : TrS) (F : List Nat) (n B wb : Nat) (EA NA : Option Addr) (nb : Nat) (m : NodeV) (g1 g2 g3 c1 c2 c3 i : Nat) (lo : Int) (esj : List EntV) (nsj : List Int) (σ' : LandS) (s' : TrS) (F' : List Nat) (EA' : Option Addr) (ec' : Nat) (NA' : Option Addr) (nc' : Nat) : Prop where
  d : DownAt (k + 1) h es ns w wr p σ s F n B wb EA NA (goR (downR k) m.inner ((m.ends.zip m.slots).drop i) lo esj nsj) σ' s' F' esj nsj EA' ec' NA' nc'
  blk : Blk wr nb 50 #[.bool m.inner, .int .i64 m.lo, .slice (some ⟨g1, 0, none⟩) m.ends.length c1, .slice (some ⟨g2, 0, none⟩) m.slots.length c2, .slice (some ⟨g3, 0, none⟩) m.gaps.length c3]
  nf : nb ∉ wset wb EA' NA' p F'
  nn : NodeNew w wr (wset wb EA' NA' p F') m g1 g2 g3 c1 c2 c3
  n1 : ns.length + 1 ≤ nsj.length
  n2 : nsj.length ≤ 64
  le : esj.length + 8 * ns.length + 8 ≤ es.length + 8 * nsj.length + (if m.inner = true then 0 else i)
  wf : WfI lo
section
variable {k : Nat} {h : Int} {es esj : List EntV} {ns nsj : List Int} {w wr w3 : World} {p : Pl} {σ σ' : LandS} {s s' : TrS} {F F' : List Nat} {n B wb nb : Nat} {EA NA EA' NA' : Option Addr} {ec' nc' : Nat} {m : NodeV} {g1 g2 g3 c1 c2 c3 i : Nat} {lo : Int}
theorem LoopAt.thru (l : LoopAt k h es ns w wr p σ s F n B wb EA NA nb m g1 g2 g3 c1 c2 c3 i lo esj nsj σ' s' F' EA' ec' NA' nc') (hb : Below wr.heap.size wr w3) : LoopAt k h es ns w w3 p σ s F n B wb EA NA nb m g1 g2 g3 c1 c2 c3 i lo esj nsj σ' s' F' EA' ec' NA' nc' :=
  ⟨l.d.thru hb, l.blk.thru hb, l.nf, ⟨l.nn.r1.thru hb, l.nn.r2.thru hb, l.nn.r3.thru hb, l.nn.f1, l.nn.f2, l.nn.f3, l.nn.n1, l.nn.n2, l.nn.n3, l.nn.wf, l.nn.ok⟩, l.n1, l.n2, l.le, l.wf⟩
theorem LoopAt.end' (l : LoopAt k h es ns w wr p σ s F n B wb EA NA nb m g1 g2 g3 c1 c2 c3 i lo esj nsj σ' s' F' EA' ec' NA' nc') (hi : i = m.ends.length) : DownPost (k + 1) h es ns w p σ s F B wb EA NA (.returned (.bool true)) wr := by
  obtain ⟨-, h8, hs, -⟩ := NodeV.formed_iff l.nn.ok
  have e : (m.ends.zip m.slots).drop i = [] := List.drop_eq_nil_of_le (by simp; omega)
  have hle := l.le
  have h1 := l.n1
  refine (l.d.eq (show goR (downR k) m.inner ((m.ends.zip m.slots).drop i) lo esj nsj = .ret (true, esj, nsj) by rw [e]; rfl)).ends (by omega) l.n2 ?_
  split at hle <;> omega
end
set_option maxRecDepth 100000 in
set_option maxHeartbeats 8000000 in
theorem walk_down_succ (k : Nat) (hk8 : k < 8)
    (ih : ∀ (h : Int) (es : List EntV) (ns : List Int) (p : Pl) (σ : LandS) (s : TrS) (F : List Nat) (n B wb : Nat) (EA NA : Option Addr) (ec nc : Nat) (w : World), TL w p σ s F → s.In n → n ≤ 1000000 → s.over = false → WalkerAt w B wb p es ns EA ec NA nc F → ns.length ≤ 64 → es.length ≤ 8 * ns.length → B ≤ w.heap.size → WfI h →
      Calls Try.prog 93 #[.pointer (some ⟨wb, 0, none⟩), .int .i64 h, .int .i64 k] w (DownPost k h es ns w p σ s F B wb EA NA))
    (h : Int) (es : List EntV) (ns : List Int) (p : Pl) (σ : LandS) (s : TrS) (F : List Nat) (n B wb : Nat) (EA NA : Option Addr) (ec nc : Nat) (w : World) (ht : TL w p σ s F) (hi : s.In n) (hn : n ≤ 1000000) (hov : s.over = false) (hwk : WalkerAt w B wb p es ns EA ec NA nc F) (hns : ns.length ≤ 64) (hes : es.length ≤ 8 * ns.length) (hB : B ≤ w.heap.size) (hw : WfI h) :
    Calls Try.prog 93 #[.pointer (some ⟨wb, 0, none⟩), .int .i64 h, .int .i64 ((k : Int) + 1)] w (DownPost (k + 1) h es ns w p σ s F B wb EA NA) := by
  have IH := Lib.hid ih
  have HWK := Lib.hid hwk
  have HW := Lib.hid hw
  have HB := Lib.hid hB
  have hkb : (((k : Int) + 1) == 0) = false := by rw [beq_eq_false_iff_ne]; omega
  have D0 := Lib.hid (show DownAt (k + 1) h es ns w w p σ s F n B wb EA NA (downR (k + 1) h es ns) σ s F es ns EA ec NA nc from ⟨ht, hi, hov, GoesL.refl _ _ _, hwk, Moves.refl _ _, fun _ h => .inl h⟩)
  clear ih ht hi hov hwk hw
  obtain ⟨k0, k1, k2, k3⟩ := HWK.out.blk.at4
  by_cases h64 : ns.length = 64
  · have HE := Lib.hid (show DownPost (k + 1) h es ns w p σ s F B wb EA NA (.returned (.bool false)) w from (D0.out.eq (by unfold downR; rw [if_pos h64])).fails (Nat.le_refl _) (by omega) (Nat.le_refl _))
    have h64b : ((ns.length : Int) == 64) = true := by rw [beq_iff_eq]; omega
    clear h64
    go_enter Try.func93, Try.ntmps93
    go_wp2
    go_ret
    exact HE.out
  · have h64b : ((ns.length : Int) == 64) = false := by rw [beq_eq_false_iff_ne]; omega
    have D1 := Lib.hid (D0.out.eq (show downR (k + 1) h es ns = (nodeR h).bind fun o => downGo (downR k) h es ns o by rw [downR, if_neg h64]))
    have hns63 : ns.length ≤ 63 := by omega
    have f3 := HWK.out.blk.free 3
    obtain ⟨i0, hi0, hz0, hz1, hz2⟩ := info_parts info_i64
    have hown := HWK.out.on
    clear h64 D0
    go_enter Try.func93, Try.ntmps93
    go_upto_region 3 with fail
    go_wp2_with (at_builtin; refine wpList_append_lies (P := Try.prog) _ rfl (.tmp 26) (.tmp 28) 31 rfl B 2 i0 _ 1 8 Try.underlying31 hi0 hz0 hz1 hz2 rfl (by decide) (.slice NA ns.length nc) ns.length (i64s ns) rfl (hown.alloc _) ⟨w.heap.size, 0, none⟩ 1 1 [.int .i64 h] rfl rfl (World.news_of_block (cs := #[.int .i64 h]) (t := 2) (fr := (0, 0)) (heap_alloc_new w _)) (by simp [Value.oneCell']) (by omega) (by unfold maxLen; omega) (by omega) (by simp; omega) (w.heap.size + 1) (by simp) ?_; intro g cap' w4 hown' hgrow hat hlt'; have hps := HWK.out.pushN _ HW.out D1.out.tl.lt hown' hgrow hat; have c8 := hps.2.2.2.1; have f8 := hps.2.2.2.2; have PS := Lib.hid hps; clear hps hown hown' hgrow hat k0 k1 k2 k3 f3)
    have D2 := Lib.hid (D1.out.moved PS.out.1 PS.out.2.1 PS.out.2.2.1 HWK.out.apartN)
    clear c8 f8 PS D1 HWK hlt'
    generalize w4.setCell ⟨wb, 3, none⟩ (.slice (some ⟨g, 0, none⟩) (ns.length + 1) cap') = w5 at *
    obtain ⟨k0, k1, k2, k3⟩ := D2.out.wk.blk.at4
    have ka := (D2.out.thru (below_alloc0 w5 (.cells #[.bool false, .int .i64 0, .slice none 0 0, .slice none 0 0, .slice none 0 0] 50))).wk.blk.at4
    have ka0 : (w5.alloc (.cells #[.bool false, .int .i64 0, .slice none 0 0, .slice none 0 0, .slice none 0 0] 50)).drew.cell? ⟨wb, 0, none⟩ = some (.pointer (some ⟨p.t, 0, none⟩)) := ka.1
    have ka1 : (w5.alloc (.cells #[.bool false, .int .i64 0, .slice none 0 0, .slice none 0 0, .slice none 0 0] 50)).drew.cell? ⟨wb, 1, none⟩ = some (.pointer (some ⟨p.a, 0, none⟩)) := ka.2.1
    have kd0 : w5.drew.cell? ⟨wb, 0, none⟩ = some (.pointer (some ⟨p.t, 0, none⟩)) := k0
    have kd1 : w5.drew.cell? ⟨wb, 1, none⟩ = some (.pointer (some ⟨p.a, 0, none⟩)) := k1
    have D2d := Lib.hid (D2.out.thru (show Below w5.heap.size w5 w5.drew from below_drewN0 w5 1))
    have D2a := Lib.hid (D2.out.thru (show Below w5.heap.size w5 (w5.alloc (.cells #[.bool false, .int .i64 0, .slice none 0 0, .slice none 0 0, .slice none 0 0] 50)).drew from below_drewN (below_alloc0 w5 (.cells #[.bool false, .int .i64 0, .slice none 0 0, .slice none 0 0, .slice none 0 0] 50)) 1))
    have HZA := Lib.hid (show Blk (w5.alloc (.cells #[.bool false, .int .i64 0, .slice none 0 0, .slice none 0 0, .slice none 0 0] 50)).drew w5.heap.size 50 #[.bool false, .int .i64 0, .slice none 0 0, .slice none 0 0, .slice none 0 0] from (Blk.new w5 50 #[.bool false, .int .i64 0, .slice none 0 0, .slice none 0 0, .slice none 0 0]).drewN 1)
    have hw63 := HW.out.bounds.2
    have HN := Lib.hid (seek_node h p σ s F n w5.drew D2d.out.tl D2d.out.inn hn D2d.out.over (by omega))
    have HN2 := Lib.hid (seek_node h p σ s F n (w5.alloc (.cells #[.bool false, .int .i64 0, .slice none 0 0, .slice none 0 0, .slice none 0 0] 50)).drew D2a.out.tl D2a.out.inn hn D2a.out.over (by omega))
    clear ka k0 k1 k2 k3
    go_cut [7, 8] (NodeRead (k + 1) h es ns w p σ s F n B wb EA NA ec (downGo (downR k) h es ns))
    case first =>
      go_region_held3 (fun x => x.cell? ⟨wb, 0, none⟩ = some (.pointer (some ⟨p.t, 0, none⟩)) ∧ x.cell? ⟨wb, 1, none⟩ = some (.pointer (some ⟨p.a, 0, none⟩))) (first | with_reducible exact ⟨ka0, ka1⟩ | with_reducible exact ⟨ef0, ef1⟩ | with_reducible exact ⟨ea0, ea1⟩ | with_reducible exact ⟨e0, e1⟩ | with_reducible exact ⟨kd0, kd1⟩ | exact ⟨kd0, kd1⟩)
        (first
          | ((go_at_call 80); refine HN.out.mono ?_; rintro e w6 hd; obtain ⟨v, x, σ2, s2, F2, rfl, hnv, d3, hm3⟩ := D2d.out.node hd; obtain ⟨b0, lo, A1, n1, c1, A2, n2, c2, A3, n3, c3, rfl, hnc⟩ := hnv.cells; have e0 := d3.wk.blk.at4.1; have e1 := d3.wk.blk.at4.2.1; have ea := (d3.thru (below_alloc0 w6 (.cells #[.bool false, .int .i64 0, .slice none 0 0, .slice none 0 0, .slice none 0 0] 50))).wk.blk.at4; have ea0 := ea.1; have ea1 := ea.2.1; clear ea; have HZ6 := Lib.hid (Blk.new w6 50 #[.bool false, .int .i64 0, .slice none 0 0, .slice none 0 0, .slice none 0 0]); have eb := (d3.thru (below_alloc0 w6 (.cells #[.bool b0, .int .i64 lo, .slice A1 n1 c1, .slice A2 n2 c2, .slice A3 n3 c3] 50))).wk.blk.at4; have ef0 := eb.1; have ef1 := eb.2.1; clear eb; obtain ⟨z0, z1, z2, z3, z4⟩ := HZ6.out.at5; obtain ⟨y0, y1, y2, y3, y4⟩ := HZ6.out.fr5; have D3 := Lib.hid d3; have HNC := Lib.hid hnc; have HM3 := Lib.hid hm3; clear d3 hd hnv hnc hm3)
          | ((go_at_call 80); refine HN2.out.mono ?_; rintro e w6 hd; obtain ⟨v, x, σ2, s2, F2, rfl, hnv, d3, hm3⟩ := D2a.out.node hd; obtain ⟨b0, lo, A1, n1, c1, A2, n2, c2, A3, n3, c3, rfl, hnc⟩ := hnv.cells; have e0 := d3.wk.blk.at4.1; have e1 := d3.wk.blk.at4.2.1; have HZ6 := Lib.hid (hm3.blk HZA.out (fun hin => Nat.lt_irrefl _ ((D2.out.wk.lt D2.out.tl.lt) _ hin))); have eb := (d3.wk.blk.upd (upd_put5 w6 w5.heap.size (.bool b0) (.int .i64 lo) (.slice A1 n1 c1) (.slice A2 n2 c2) (.slice A3 n3 c3)) (by have := D2.out.wk.blk.lt; simp; omega)).at4; have ef0 := eb.1; have ef1 := eb.2.1; clear eb; obtain ⟨z0, z1, z2, z3, z4⟩ := HZ6.out.at5; obtain ⟨y0, y1, y2, y3, y4⟩ := HZ6.out.fr5; have D3 := Lib.hid d3; have HNC := Lib.hid hnc; have HM3 := Lib.hid hm3; clear d3 hd hnv hnc hm3))
      all_goals go_wp2_with fail
      all_goals go_meet
      · exact NodeRead.of1 D2.out D3.out HNC.out
      · exact NodeRead.of2 D2.out D3.out HZ6.out HM3.out HNC.out
    case rest =>
      obtain ⟨nb, v, d0, d1, d2, d3, d4, w0, NA', nc', σ', s', F', rfl, hv8, hz, hnf, hnc, d, hw0⟩ := hcut
      clear D2 D2d D2a HN HN2 HZA ka0 ka1 kd0 kd1
      rcases hnc with ⟨rfl, -⟩ | ⟨m, g1, g2, g3, c1, c2, c3, rfl, rfl, rfl, rfl, rfl, rfl, hn'⟩
      · have HE := Lib.hid ((d.eq (show downGo (downR k) h es ns none = .ret (false, es, ns ++ [h]) from rfl)).fails (by simp) (by simp; omega) (by simp; omega))
        replace hv8 : u8 = .bool false := hv8
        subst hv8
        clear d hz hnf hw0
        go_wp2
        go_ret
        exact HE.out
      · replace hv8 : u8 = .bool true := hv8
        subst hv8
        obtain ⟨hm1, hm8, hms, -⟩ := NodeV.formed_iff hn'.ok
        have L0 := Lib.hid (show LoopAt k h es ns w wc p σ s F n B wb EA NA nb m g1 g2 g3 c1 c2 c3 0 m.lo es (ns ++ [h]) σ' s' F' EA ec NA' nc' from
          ⟨d.eq rfl, hz, hnf, ⟨hn'.r1, hn'.r2, hn'.r3, hn'.f1, hn'.f2, hn'.f3, Nat.le_trans hw0 hn'.n1, Nat.le_trans hw0 hn'.n2, Nat.le_trans hw0 hn'.n3, hn'.wf, hn'.ok⟩, by simp, by simp; omega, by simp; omega, hn'.wf.2.2.2⟩)
        have HMS := Lib.hid hms
        clear d hz hnf hw0 hn' hms
        obtain ⟨z0, z1, z2, z3, z4⟩ := L0.out.blk.at5
        go_wp2_with fail
        clear z0 z1 z2 z3 z4
        go_loopw [52, 9] (fun v l wr => ∃ (i : Nat) (lo : Int) (esj : List EntV) (nsj : List Int) (σ' : LandS) (s' : TrS) (F' : List Nat) (EA' : Option Addr) (ec' : Nat) (NA' : Option Addr) (nc' : Nat), i ≤ m.ends.length ∧ v = .int .i64 i ∧ l = .int .i64 lo ∧
          LoopAt k h es ns w wr p σ s F n B wb EA NA nb m g1 g2 g3 c1 c2 c3 i lo esj nsj σ' s' F' EA' ec' NA' nc') (fun v _ _ => m.ends.length - (intOf v).toNat)
        case atStart => exact ⟨0, m.lo, es, ns ++ [h], _, _, _, _, _, _, _, Nat.zero_le _, rfl, rfl, L0.out⟩
        case round =>
          clear L0
          obtain ⟨i, lo, esj, nsj, σ1, s1, F1, EA1, ec1, NA1, nc1, hi, rfl, rfl, hl⟩ := hrel
          have L := Lib.hid hl
          clear hl
          by_cases hlt : i < m.ends.length
          · have hlt' : i < m.slots.length := by have := HMS.out; omega
            obtain ⟨z0, z1, z2, z3, z4⟩ := L.out.blk.at5
            have x1 := row_int L.out.nn.r1 hlt
            have x2 := row_int L.out.nn.r2 hlt'
            have hgc := goR_cons (downR k) m HMS.out hlt lo esj nsj
            have hve := L.out.nn.wf.1 _ (getD_mem hlt)
            have hvs := L.out.nn.wf.2.1 _ (getD_mem hlt')
            obtain ⟨ee, hee⟩ : ∃ x, m.ends.getD i 0 = x := ⟨_, rfl⟩
            obtain ⟨sl, hsl⟩ : ∃ x, m.slots.getD i 0 = x := ⟨_, rfl⟩
            rw [hee] at x1 hgc hve
            rw [hsl] at x2 hgc hvs
            have HGC := Lib.hid hgc
            have HVE := Lib.hid hve
            have HVS := Lib.hid hvs
            clear hgc hve hvs hee hsl
            cases hin : m.inner with
            | false =>
              rw [hin] at z0
              have hle := L.out.le
              rw [hin] at hle
              have hle2 : esj.length ≤ 600 := by have := L.out.n2; simp at hle; omega
              have hge : ns.length ≤ nsj.length := by have := L.out.n1; omega
              have HV := Lib.hid (show WfI lo ∧ WfI ee ∧ WfI sl from ⟨L.out.wf, HVE.out, HVS.out⟩)
              have HBB := Lib.hid (Nat.le_trans hB L.out.d.mv.upd.size)
              have HLE := Lib.hid hle
              obtain ⟨j0, hj0, hy0, hy1, hy2⟩ := info_parts info_entry
              have hown := L.out.d.wk.oe
              have LD := Lib.hid (L.out.thru (show Below wr.heap.size wr wr.drew from below_drewN0 wr 1))
              have ka2 : (wr.alloc (.cells #[.int .i64 lo, .int .i64 ee, .int .i64 sl] 47)).drew.cell? ⟨wb, 2, none⟩ = some (.slice EA1 esj.length ec1) := (L.out.thru (below_alloc0 wr (.cells #[.int .i64 lo, .int .i64 ee, .int .i64 sl] 47))).d.wk.blk.at4.2.2.1
              have kd2 : wr.cell? ⟨wb, 2, none⟩ = some (.slice EA1 esj.length ec1) := L.out.d.wk.blk.at4.2.2.1
              clear hle hge L
              go_upto_region 12 with fail
              go_region_law
                ((refine step_append_lies _ (by rfl) _ _ _ (by rfl) B 47 j0 _ 3 24 under_entries hj0 hy0 hy1 hy2 rfl (by omega) (.slice EA1 esj.length ec1) esj.length (esj.flatMap entCells) (by rfl) ((hown.alloc _).drew)
                    ⟨wr.heap.size, 0, none⟩ 1 1 [.int .i64 lo, .int .i64 ee, .int .i64 sl] (by rfl) (by rfl) (World.news_of_block (cs := #[.int .i64 lo, .int .i64 ee, .int .i64 sl]) (t := 47) (fr := (0, 0)) (heap_alloc_new wr _)) (by simp [Value.oneCell'])
                    (by omega) (by unfold maxLen; omega) (by omega) (by simp; have := HBB.out; omega) (wr.heap.size + 1) (by simp) ?_; intro g cap' w4 hown' hgrow hat hlt2; have hps := LD.out.d.wk.pushE (.cells #[.int .i64 lo, .int .i64 ee, .int .i64 sl] 47) (v := ⟨lo, ee, sl⟩) HV.out LD.out.d.tl.lt hown' hgrow hat; have c8 := hps.2.2.2.1; have f8 := hps.2.2.2.2; have PS := Lib.hid hps; clear hps hown' hgrow hat))
              all_goals
                have hd := (LD.out.d.eq (HGC.out.trans (if_pos hin))).moved PS.out.1 PS.out.2.1 PS.out.2.2.1 LD.out.d.wk.apartE
                have L2 := Lib.hid (show LoopAt k h es ns w (w4.setCell ⟨wb, 2, none⟩ (.slice (some ⟨g, 0, none⟩) (esj.length + 1) cap')) p σ s F n B wb EA NA nb m g1 g2 g3 c1 c2 c3 (i + 1) ee (esj ++ [⟨lo, ee, sl⟩]) nsj σ1 s1 F1 (some ⟨g, 0, none⟩) cap' NA1 nc1 from
                  ⟨hd, PS.out.2.1.blk LD.out.blk LD.out.nf, PS.out.2.1.notin LD.out.blk.lt LD.out.nf, LD.out.nn.moves PS.out.2.1, LD.out.n1, LD.out.n2, by rw [hin]; have := HLE.out; simp at this ⊢; omega, HV.out.2.1⟩)
                clear hd LD PS c8 f8 hlt2 hown ka2 kd2 z0 z1 z2 z3 z4 x1 x2 HLE HBB
                go_wp2
                go_roundw
                case rel => exact ⟨i + 1, _, _, _, _, _, _, _, _, _, _, by omega, by go_num, rfl, L2.out⟩
                case measure => simp [intOf]; omega
            | true =>
              rw [hin] at z0
              have hle := L.out.le
              rw [hin, if_pos rfl] at hle
              have HLE := Lib.hid hle
              have HV := Lib.hid (show WfI ee ∧ WfI sl from ⟨HVE.out, HVS.out⟩)
              have HIH := Lib.hid (IH.out sl esj nsj p σ1 s1 F1 n B wb EA1 NA1 ec1 nc1 wr L.out.d.tl L.out.d.inn hn L.out.d.over L.out.d.wk L.out.n2 (by omega) (Nat.le_trans hB L.out.d.mv.upd.size) HV.out.2)
              have D2 := Lib.hid (L.out.d.eq (HGC.out.trans (if_neg (by rw [hin]; simp))))
              clear hle
              go_wp2_with fail
              refine HIH.out.mono ?_
              rintro e w3 hd
              obtain ⟨v, es2, ns2, EA2, ec2, NA2, nc2, σ2, s2, F2, rfl, d2, hm2, q1, q2, q3⟩ := D2.out.down hd
              have D3 := Lib.hid d2
              have HM2 := Lib.hid hm2
              have Q := Lib.hid (show ns.length + 1 ≤ ns2.length ∧ ns2.length ≤ 64 ∧ es2.length + 8 * ns.length + 8 ≤ es.length + 8 * ns2.length by have := HLE.out; have := L.out.n1; omega)
              clear hd d2 hm2 HIH D2 z0 z1 z2 z3 z4 x1 x2 q1 q2 q3 HLE
              cases v with
              | false =>
                have HE := Lib.hid ((D3.out.eq (if_neg (by simp))).fails (Nat.le_of_succ_le Q.out.1) Q.out.2.1 (Nat.le_trans (Nat.le_add_right _ 8) Q.out.2.2))
                clear D3 HM2 L Q
                go_wp2
                go_ret
                exact HE.out
              | true =>
                have L2 := Lib.hid (show LoopAt k h es ns w w3 p σ s F n B wb EA NA nb m g1 g2 g3 c1 c2 c3 (i + 1) ee es2 ns2 σ2 s2 F2 EA2 ec2 NA2 nc2 from
                  ⟨D3.out.eq (if_pos rfl), HM2.out.blk L.out.blk L.out.nf, HM2.out.notin L.out.blk.lt L.out.nf, L.out.nn.moves HM2.out, Q.out.1, Q.out.2.1, by rw [if_pos hin]; have := Q.out; omega, HV.out.1⟩)
                clear D3 HM2 L Q
                go_wp2
                go_roundw
                case rel => exact ⟨i + 1, _, _, _, _, _, _, _, _, _, _, by omega, by go_num, rfl, L2.out⟩
                case measure => simp [intOf]; omega
          · obtain rfl : i = m.ends.length := by omega
            have HE := Lib.hid (L.out.end' rfl)
            clear L
            go_wp2
            go_ret
            exact HE.out
theorem walk_down (k : Nat) (hk : k ≤ 8) : ∀ (h : Int) (es : List EntV) (ns : List Int) (p : Pl) (σ : LandS) (s : TrS) (F : List Nat) (n B wb : Nat) (EA NA : Option Addr) (ec nc : Nat) (w : World), TL w p σ s F → s.In n → n ≤ 1000000 → s.over = false → WalkerAt w B wb p es ns EA ec NA nc F → ns.length ≤ 64 → es.length ≤ 8 * ns.length → B ≤ w.heap.size → WfI h →
      Calls Try.prog 93 #[.pointer (some ⟨wb, 0, none⟩), .int .i64 h, .int .i64 k] w (DownPost k h es ns w p σ s F B wb EA NA) := by
  induction k with
  | zero => exact fun h es ns p σ s F n B wb EA NA ec nc w ht _ _ _ hwk hns _ _ _ => walk_down0 h es ns p σ s F B wb EA NA ec nc w ht hwk hns
  | succ k ih => exact fun h es ns p σ s F n B wb EA NA ec nc w ht hi hn hov hwk hns hes hB hw => walk_down_succ k (by omega) (ih (by omega)) h es ns p σ s F n B wb EA NA ec nc w ht hi hn hov hwk hns hes hB hw
end Go.Proofs.Ytldccemgfjmcdaa
/- Layer 17's walk: All. -/
namespace Go.Proofs.Ytldccemgfjmcdaa
open Go.RowKit
set_option linter.unusedSimpArgs false
set_option linter.unusedVariables false

def allAns (q : Bool × List EntV × List Int) : List EntV × List Int × Bool := if q.1 = true then (q.2.1, q.2.2, true) else ([], [], false)
def allR (root : Int) : Res LandS (List EntV × List Int × Bool) := (downR 8 root [] []).bind fun q => .ret (allAns q)
theorem all_good (root : Int) : (allR root).Good WfL := Good.bind (down_good _ _ _ _) fun _ => trivial
theorem all_free (root : Int) : (allR root).free := Res.bind_free (down_free _ _ _ _) fun _ => trivial
/-- What All answers: two rows of its own. -/
def AllRows (B : Nat) (p : Pl) (F' : List Nat) (w : World) (v : List EntV × List Int × Bool) (x : Value) : Prop :=
  ∃ EA ec NA nc, x = .tuple #[.slice EA v.1.length ec, .slice NA v.2.1.length nc, .bool v.2.2] ∧ w.ownsRow B 47 3 (.slice EA v.1.length ec) v.1.length (v.1.flatMap entCells) ∧ w.ownsRow B 2 1 (.slice NA v.2.1.length nc) v.2.1.length (i64s v.2.1) ∧
    (∀ b ∈ blockOf EA, b ∉ p.all F') ∧ (∀ b ∈ blockOf NA, b ∉ p.all F') ∧ (∀ x ∈ v.2.1, WfI x) ∧ (∀ e ∈ v.1, WfI e.lo ∧ WfI e.stop ∧ WfI e.h) ∧ v.2.1.length ≤ 64 ∧ v.1.length ≤ 512
def AllDoes (w : World) (p : Pl) (σ : LandS) (s : TrS) (F : List Nat) (r : Res LandS (List EntV × List Int × Bool)) (e : Ending) (w' : World) : Prop :=
  ∃ v x σ' s' F', e = .returned x ∧ AllRows w.heap.size p F' w' v x ∧ Sim (r.run σ s) (v, σ', s') ∧ TL w' p σ' s' F' ∧ Keeps w w' p F F'
theorem DownPost.all {w w' : World} {p : Pl} {σ : LandS} {s : TrS} {F : List Nat} {root : Int} {o : Obj} {e : Ending} (ht : TL w p σ s F) (h : DownPost 8 root [] [] (w.alloc o) p σ s F w.heap.size w.heap.size none none e w') :
    ∃ v es' ns' EA' ec' NA' nc' σ' s' F', e = .returned (.bool v) ∧ Sim ((allR root).run σ s) (allAns (v, es', ns'), σ', s') ∧ TL w' p σ' s' F' ∧ WalkerAt w' w.heap.size w.heap.size p es' ns' EA' ec' NA' nc' F' ∧ Keeps w w' p F F' ∧ ns'.length ≤ 64 ∧ es'.length ≤ 512 := by
  obtain ⟨v, es', ns', EA', ec', NA', nc', σ', s', F', he, hs, ht', hwk, hm, h1, h2, h3, hf⟩ := h
  refine ⟨v, es', ns', EA', ec', NA', nc', σ', s', F', he, ?_, ht', hwk, ⟨?_, ?_⟩, h2, by simp at h3; omega⟩
  · exact ((GoesL.refl (allR root) σ s).trans (GoesL.bind hs)).end_ret
  · refine ((Upd.refl (p.all F) w).alloc o).trans_new hm.upd fun b hb => ?_
    rcases mem_wset.1 hb with e | e | e | e
    · exact .inr (by omega)
    · simp [blockOf] at e
    · simp [blockOf] at e
    · exact .inl e
  · intro b hb
    exact (hf b hb).imp_right fun e => by rw [World.size_alloc] at e; omega
set_option maxRecDepth 100000 in
set_option maxHeartbeats 4000000 in
theorem walk_all (root : Int) (p : Pl) (σ : LandS) (s : TrS) (F : List Nat) (n : Nat) (w : World) (h : TL w p σ s F) (hi : s.In n) (hn : n ≤ 1000000) (hov : s.over = false) (hw : WfI root) :
    Calls Try.prog 75 #[.pointer (some ⟨p.t, 0, none⟩), .pointer (some ⟨p.a, 0, none⟩), .int .i64 root] w (AllDoes w p σ s F (allR root)) := by
  have HD : Hid (Calls Try.prog 93 #[.pointer (some ⟨w.heap.size, 0, none⟩), .int .i64 root, .int .i64 8] (w.alloc (.cells #[.pointer (some ⟨p.t, 0, none⟩), .pointer (some ⟨p.a, 0, none⟩), .slice none 0 0, .slice none 0 0] 168))
      (DownPost 8 root [] [] (w.alloc (.cells #[.pointer (some ⟨p.t, 0, none⟩), .pointer (some ⟨p.a, 0, none⟩), .slice none 0 0, .slice none 0 0] 168)) p σ s F w.heap.size w.heap.size none none)) :=
    Lib.hid (walk_down 8 (Nat.le_refl _) root [] [] p σ s F n w.heap.size w.heap.size none none 0 0 _ (h.thru (below_alloc0 w _)) hi hn hov
      ⟨Blk.new _ _ _, World.ownsRow_nil _ _ _ _, World.ownsRow_nil _ _ _ _, fun hin => Nat.lt_irrefl _ (h.lt _ hin), by simp [blockOf], by simp [blockOf], by simp, by simp⟩ (by simp) (by simp) (by rw [World.size_alloc]; omega) hw)
  have HT := Lib.hid h
  clear h hi hn hov hw
  go_enter Try.func75, Try.ntmps75
  go_wp2_with fail
  refine HD.out.mono ?_
  rintro e w2 hd
  obtain ⟨v, es, ns, EA, ec, NA, nc, σ', s', F', rfl, hs, ht, hwk, hk, h64, h512⟩ := DownPost.all HT.out hd
  clear hd HD HT
  cases v with
  | false =>
    have HE := Lib.hid (show AllDoes w p σ s F (allR root) (.returned (.tuple #[.slice none 0 0, .slice none 0 0, .bool false])) w2 from
      ⟨([], [], false), _, σ', s', F', rfl, ⟨none, 0, none, 0, rfl, World.ownsRow_nil _ _ _ _, World.ownsRow_nil _ _ _ _, by simp [blockOf], by simp [blockOf], by simp, by simp, by simp, by simp⟩, hs, ht, hk⟩)
    clear hs ht hwk hk
    go_wp2
    go_ret3
    exact HE.out
  | true =>
    have HE := Lib.hid (show ∀ nq, AllDoes w p σ s F (allR root) (.returned (.tuple #[.slice EA es.length ec, .slice NA ns.length nc, .bool true])) (w2.drewN nq) from fun nq =>
      have hb : Below w2.heap.size w2 (w2.drewN nq) := below_drewN0 w2 nq
      have hwd := hwk.thru hb
      ⟨(es, ns, true), _, σ', s', F', rfl, ⟨EA, ec, NA, nc, rfl, hwd.oe, hwd.on, hwd.fe, hwd.fn, hwd.wn, hwd.we, h64, h512⟩, hs, ht.thru hb, hk.thru hb⟩)
    obtain ⟨k0, k1, k2, k3⟩ := hwk.blk.at4
    clear hs ht hwk hk
    go_wp2_with fail
    go_quiet (fail)
    go_wp2
    go_ret3
    exact HE.out nq
end Go.Proofs.Ytldccemgfjmcdaa
