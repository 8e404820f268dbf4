/- SlotChanged, walked. -/
import Derived.Test.YtnglbgdokdcefaaWords15
import Derived.Test.YtnglbgdokdcefaaOpenArea
namespace Go.Proofs.Ytnglbgdokdcefaa
open Go.ChangeShapes Go.WideShapes Go.ChangeAt Go.RowKit
set_option linter.unusedSimpArgs false
set_option linter.unusedVariables false

theorem okWide_arr {P : Program} {w : World} {r : Reach} {base : Nat} {t e : TypeId} {v : Value} {n : Nat} (ht : P.underlying t = some (.array n e)) (h : Value.okWide P w r base t v) : ∃ cs, v = .agg cs ∧ cs.size = P.cellsOf t := by
  simp only [Value.okWide, ht] at h
  obtain ⟨cs, h1, h2, _⟩ := h
  exact ⟨cs, h1, h2⟩
theorem array2 {α : Type} {cs : Array α} (h : cs.size = 2) : ∃ c0 c1, cs = #[c0, c1] := by
  obtain ⟨l⟩ := cs
  match l, h with
  | [c0, c1], _ => exact ⟨c0, c1, rfl⟩
set_option maxRecDepth 100000 in
theorem open_pair {H : Type} {enc : TypeId × Value → H} {w : World} {r : Reach} {b0 : Nat} {v : Value} {d : DataW H} {p : List MemPlace}
    (hv : Value.okWide Try.prog w r b0 69 v) (h : DataW.Trod enc Try.prog w 0 (fun _ => true) true 69 v d p) :
    ∃ x0 x1, v = .agg #[.int .i64 x0, .int .i64 x1] ∧ ((Lit.int .i64 x0).wf = true ∧ (Lit.int .i64 x1).wf = true) := by
  obtain ⟨cs, rfl, hsz⟩ := okWide_arr Try.underlying69 hv
  obtain ⟨u0, u1, rfl⟩ := array2 (hsz.trans (by kernel_rfl))
  obtain ⟨fuel, hf⟩ := h
  have hf : DataW.trod enc Try.prog w 0 (fun _ => true) true fuel 69 [u0, u1] = some (d, p) := by simpa [Value.cells] using hf
  obtain ⟨xs, m, -, -, -, hxl, hfd⟩ := DataW.trod_array Try.underlying69 hf
  have hc : Try.prog.cellsOf 2 = 1 := by kernel_rfl
  have t0 := hfd 0 (by decide)
  have t1 := hfd 1 (by decide)
  rw [hc, List.getElem?_eq_getElem (show 0 < xs.length by omega)] at t0
  rw [hc, List.getElem?_eq_getElem (show 1 < xs.length by omega)] at t1
  obtain ⟨x0, k0, -, w0⟩ := DataW.trod_int Try.underlying2 t0
  obtain ⟨x1, k1, -, w1⟩ := DataW.trod_int Try.underlying2 t1
  simp at k0 k1
  subst k0 k1
  exact ⟨x0, x1, rfl, w0, w1⟩

/-- What the law's words are: nil, or a row of 28. -/
def WRow (B : Nat) (w : World) (a : Option Addr) (len cap : Nat) (ys : List Int) (f : Bool) : Prop :=
  (a = none ∧ len = 0 ∧ cap = 0 ∧ f = false) ∨ ∃ g, a = some ⟨g, 0, none⟩ ∧ len = 28 ∧ B ≤ g ∧ f = true ∧ ys.length = 28 ∧ (∀ x ∈ ys, (Lit.int .i64 x).wf = true) ∧ Row w 2 1 g 28 cap (i64s ys)
def WRowPost (w : World) (ys : List Int) (f : Bool) (e : Ending) (w' : World) : Prop :=
  Below w.heap.size w w' ∧ ∃ a len cap, e = .returned (.slice a len cap) ∧ WRow w.heap.size w' a len cap ys f
theorem WRow.thru {B : Nat} {w w' : World} {a : Option Addr} {len cap : Nat} {ys : List Int} {f : Bool} (h : WRow B w a len cap ys f) (hb : Below w.heap.size w w') : WRow B w' a len cap ys f := by
  rcases h with h | ⟨g, h1, h2, h3, h4, h5, h6, h7⟩
  · exact .inl h
  · exact .inr ⟨g, h1, h2, h3, h4, h5, h6, h7.thru hb⟩
theorem WRow.from {B C : Nat} {w : World} {a : Option Addr} {len cap : Nat} {ys : List Int} {f : Bool} (h : WRow B w a len cap ys f) (hC : C ≤ B) : WRow C w a len cap ys f := by
  rcases h with h | ⟨g, h1, h2, h3, h4⟩
  · exact .inl h
  · exact .inr ⟨g, h1, h2, Nat.le_trans hC h3, h4⟩
theorem pack_row (n : NodeV) (a1 a2 a3 : Option Addr) (c1 c2 c3 : Nat) (w : World) (h : NodeR w n a1 a2 a3 c1 c2 c3) :
    Calls Try.prog 36 #[.agg (nodeCells n.inner n.lo a1 a2 a3 n.ends.length n.slots.length n.gaps.length c1 c2 c3)] w (WRowPost w n.pack n.formedB) := by
  refine (slot_pack n a1 a2 a3 c1 c2 c3 w h).mono ?_
  rintro e w' ⟨hb, ⟨hf, rfl⟩ | ⟨hf, g, cap, rfl, hg, hr⟩⟩
  · exact ⟨hb, _, _, _, rfl, .inl ⟨rfl, rfl, rfl, hf⟩⟩
  · exact ⟨hb, _, _, _, rfl, .inr ⟨g, rfl, rfl, hg, hf, n.pack_len hf, h.pack_wf hf, hr⟩⟩
theorem packA_row (a : AreaV) (w : World) (ok : a.Ok) :
    Calls Try.prog 41 #[.agg (areaCells a), .bool false] w (WRowPost w (a.pack false) a.formedB) := by
  refine (slot_packArea a false w ok).mono ?_
  rintro e w' ⟨hb, ⟨hf, rfl⟩ | ⟨hf, g, cap, rfl, hg, hr⟩⟩
  · exact ⟨hb, _, _, _, rfl, .inl ⟨rfl, rfl, rfl, hf⟩⟩
  · exact ⟨hb, _, _, _, rfl, .inr ⟨g, rfl, rfl, hg, hf, a.pack_len false, AreaV.pack_i64 hf false, hr⟩⟩
theorem WRow.block {B : Nat} {w : World} {a : Option Addr} {len cap : Nat} {ys : List Int} {f : Bool} (h : WRow B w a len cap ys f) : ∀ g, a = some ⟨g, 0, none⟩ → B ≤ g ∧ g < w.heap.size := by
  rintro g rfl
  rcases h with ⟨h, -⟩ | ⟨g', h1, -, h3, -, -, -, h7⟩
  · cases h
  · injection h1 with h1
    injection h1 with h1
    subst h1
    exact ⟨h3, h7.lt⟩
theorem WRow.far1 {B : Nat} {w : World} {a : Option Addr} {len cap : Nat} {ys : List Int} {f : Bool} (h : WRow B w a len cap ys f) (g i : Nat) (hn : ∀ g2, a = some ⟨g2, 0, none⟩ → g ≠ g2) (v : Value) : WRow B (w.setCell ⟨g, i, none⟩ v) a len cap ys f := by
  rcases h with h | ⟨g2, h1, h2, h3, h4, h5, h6, h7⟩
  · exact .inl h
  · exact .inr ⟨g2, h1, h2, h3, h4, h5, h6, h7.far (p := ⟨g, i, none⟩) (fun e => hn g2 h1 e.symm) v⟩
/-- What is asked ahead of a change. -/
def Test15 (B : Nat) (w : World) (a : Option Addr) (len cap : Nat) (ys : List Int) (f : Bool) (i : Nat) (y : Int) (v : Value) (wc : World) : Prop :=
  w = wc ∧ (v = .bool false ∨ v = .bool true ∧ ∃ g, a = some ⟨g, 0, none⟩ ∧ len = 28 ∧ B ≤ g ∧ ys.length = 28 ∧ (∀ x ∈ ys, (Lit.int .i64 x).wf = true) ∧ Row w 2 1 g 28 cap (i64s ys) ∧ ys.getD i 0 ≠ y)
/-- Behind both packings. -/
def Mid15 (w0 : World) (nb : Nat) (nc ac : Array Value) (p1 p2 : List Int) (f1 f2 : Bool) (v9 v10 : Value) (wc : World) : Prop :=
  Below w0.heap.size w0 wc ∧ Blk wc nb 54 nc ∧ Blk wc (nb + 1 + 1) 62 ac ∧ ∃ b1 l1 d1 b2 l2 d2, v9 = .slice b1 l1 d1 ∧ v10 = .slice b2 l2 d2 ∧
    WRow (nb + 3) wc b1 l1 d1 p1 f1 ∧ WRow (nb + 3) wc b2 l2 d2 p2 f2 ∧ ∀ g1 g2, b1 = some ⟨g1, 0, none⟩ → b2 = some ⟨g2, 0, none⟩ → g1 ≠ g2
/-- Behind the first if. -/
def Late15 (w0 : World) (nb : Nat) (ac : Array Value) (p2 : List Int) (f2 : Bool) (b2 : Option Addr) (l2 d2 : Nat) (wc : World) : Prop :=
  Below w0.heap.size w0 wc ∧ Blk wc (nb + 1 + 1) 62 ac ∧ WRow (nb + 3) wc b2 l2 d2 p2 f2
theorem held15 {w : World} {b b' : Nat} {t t' : TypeId} {x0 x1 x2 x3 x4 y0 y1 y2 y3 y4 y5 : Value} (h : Blk w b t #[x0, x1, x2, x3, x4]) (k : Blk w b' t' #[y0, y1, y2, y3, y4, y5]) :
    w.cell? ⟨b, 0, none⟩ = some x0 ∧ w.cell? ⟨b, 1, none⟩ = some x1 ∧ w.cell? ⟨b, 2, none⟩ = some x2 ∧ w.cell? ⟨b, 3, none⟩ = some x3 ∧ w.cell? ⟨b, 4, none⟩ = some x4 ∧
    w.cell? ⟨b', 0, none⟩ = some y0 ∧ w.cell? ⟨b', 1, none⟩ = some y1 ∧ w.cell? ⟨b', 2, none⟩ = some y2 ∧ w.cell? ⟨b', 3, none⟩ = some y3 ∧ w.cell? ⟨b', 4, none⟩ = some y4 ∧ w.cell? ⟨b', 5, none⟩ = some y5 := by
  obtain ⟨a0, a1, a2, a3, a4⟩ := h.at5
  exact ⟨a0, a1, a2, a3, a4, k.at6⟩
theorem Mid15.mk1 {w0 w6 wa wb : World} {nb : Nat} {nc ac : Array Value} {p1 p2 : List Int} {f1 f2 : Bool} {b1 b2 : Option Addr} {l1 d1 l2 d2 : Nat} (hB : Below w0.heap.size w0 wa) (h1 : Blk wa nb 54 nc) (h3 : Blk wa (nb + 1 + 1) 62 ac) (hz : Lt (nb + 2) w6)
    (hra : WRow (w6.drewN 1).heap.size wa b1 l1 d1 p1 f1) (hbb : Below wa.heap.size wa wb) (hrb : WRow wa.heap.size wb b2 l2 d2 p2 f2) (hle : w6.heap.size ≤ wa.heap.size) : Mid15 w0 nb nc ac p1 p2 f1 f2 (.slice b1 l1 d1) (.slice b2 l2 d2) wb := by
  unfold Lt at hz
  refine ⟨below_thru hB hbb, h1.thru hbb, h3.thru hbb, _, _, _, _, _, _, rfl, rfl, (hra.thru hbb).from hz, hrb.from (Nat.le_trans hz hle), fun g1 g2 e1 e2 => ?_⟩
  have := (hra.block g1 e1).2
  have := (hrb.block g2 e2).1
  omega
theorem Row.putI {w : World} {g n cap i : Nat} {ys : List Int} (h : Row w 2 1 g n cap (i64s ys)) (hi : i < ys.length) (y : Int) : Row (w.setCell ⟨g, i, none⟩ (.int .i64 y)) 2 1 g n cap (i64s (ys.set i y)) := by
  have := h.put (j := i) (by unfold i64s; simpa using hi) (.int .i64 y)
  unfold i64s at this ⊢
  rw [List.map_set]
  exact this
theorem Row.cellI {w : World} {g n cap i : Nat} {ys : List Int} (h : Row w 2 1 g n cap (i64s ys)) (hi : i < ys.length) : w.cell? ⟨g, i, none⟩ = some (.int .i64 (ys.getD i 0)) :=
  h.cell (by unfold i64s; rw [List.getElem?_map, List.getElem?_eq_getElem hi, List.getD_eq_getElem?_getD, List.getElem?_eq_getElem hi]; rfl)
theorem wf_set {ys : List Int} {i : Nat} {y : Int} (h : ∀ x ∈ ys, (Lit.int .i64 x).wf = true) (hy : (Lit.int .i64 y).wf = true) : ∀ x ∈ ys.set i y, (Lit.int .i64 x).wf = true := by
  intro x hx
  rcases List.mem_or_eq_of_mem_set hx with h1 | rfl
  · exact h x h1
  · exact hy
theorem set_ne {ys : List Int} {i : Nat} {y : Int} (hi : i < ys.length) (h : ys.getD i 0 ≠ y) : ys.set i y ≠ ys := by
  intro e
  apply h
  conv => lhs; rw [← e]
  simp [List.getD_eq_getElem?_getD, hi]
theorem pack_not {n m : NodeV} {i : Nat} {y : Int} (hi : i < n.pack.length) (h : n.pack.getD i 0 ≠ y) (hm : unpackL (n.pack.set i y) = some m) : m.sameB n = false := by
  cases hs : m.sameB n with
  | false => rfl
  | true =>
    rw [NodeV.sameB_iff] at hs
    subst hs
    exact absurd (unpack_some hm).2.2.symm (set_ne hi h)
theorem packA_not {a b : AreaV} {d : Bool} {i : Nat} {y : Int} (hi : i < (a.pack false).length) (h : (a.pack false).getD i 0 ≠ y) (hm : unpackA ((a.pack false).set i y) = some (b, d)) : ¬ (b = a ∧ d = false) := by
  rintro ⟨rfl, rfl⟩
  exact absurd (unpackA_some hm).2.symm (set_ne hi h)
set_option maxRecDepth 100000 in
set_option maxHeartbeats 4000000 in
theorem changed15 (n : NodeV) (a1 a2 a3 : Option Addr) (c1 c2 c3 : Nat) (x0 x1 : Int) (ar : AreaV) (w : World) (h : NodeR w n a1 a2 a3 c1 c2 c3) (hx : (Lit.int .i64 x0).wf = true ∧ (Lit.int .i64 x1).wf = true) (ok : ar.Ok) (hfew : n.fewB = true) :
    Calls Try.prog 12 #[.agg (nodeCells n.inner n.lo a1 a2 a3 n.ends.length n.slots.length n.gaps.length c1 c2 c3), .agg #[.int .i64 x0, .int .i64 x1], .agg (areaCells ar)] w (LawTrue w) := by
  have HA := Lib.hid awake15
  have HF := Lib.hid (fun (w1 : World) (hB : Below w.heap.size w w1) => few15 n a1 a2 a3 c1 c2 c3 w1 (h.below hB))
  have HK := Lib.hid (fun (w1 : World) (hB : Below w.heap.size w w1) => pack_row n a1 a2 a3 c1 c2 c3 w1 (h.below hB))
  have HP := Lib.hid (fun (w1 : World) => packA_row ar w1 ok)
  rw [hfew] at HF
  have HSN := Lib.hid (fun (m : NodeV) (g1 g2 g3 : Nat) (e1 e2 e3 : Nat) (w1 : World) (hm : NodeR w1 m (some ⟨g1, 0, none⟩) (some ⟨g2, 0, none⟩) (some ⟨g3, 0, none⟩) e1 e2 e3) (hB : Below w.heap.size w w1) => ref15_sameNode m n _ _ _ e1 e2 e3 a1 a2 a3 c1 c2 c3 w1 hm (h.below hB))
  unfold nodeCells at *
  obtain ⟨start, stop, prot, shared, back, off⟩ := ar
  simp only [areaCells] at *
  have HB := Lib.hid (Below.refl w.heap.size w)
  have HN := Lib.hid h
  clear h hfew ok
  go_enter Try.func12, Try.ntmps12
  replace HB := Lib.hid (below_thru HB.out (below_alloc0 w (.cells #[.bool n.inner, .int .i64 n.lo, .slice a1 n.ends.length c1, .slice a2 n.slots.length c2, .slice a3 n.gaps.length c3] 54)))
  have H1 := Lib.hid (Blk.new w 54 #[.bool n.inner, .int .i64 n.lo, .slice a1 n.ends.length c1, .slice a2 n.slots.length c2, .slice a3 n.gaps.length c3])
  go_upto_region 1 with fail
  have HZ := Lib.hid (World.size_alloc w (.cells #[.bool n.inner, .int .i64 n.lo, .slice a1 n.ends.length c1, .slice a2 n.slots.length c2, .slice a3 n.gaps.length c3] 54))
  obtain ⟨nb, hnb⟩ : ∃ x, w.heap.size = x := ⟨_, rfl⟩
  simp only [hnb] at H1 HZ ⊢
  replace hnb := Lib.hid hnb
  generalize w.alloc (.cells #[.bool n.inner, .int .i64 n.lo, .slice a1 n.ends.length c1, .slice a2 n.slots.length c2, .slice a3 n.gaps.length c3] 54) = w1 at *
  replace HB := Lib.hid (below_thru HB.out (below_alloc0 w1 (.cells #[.int .i64 x0, .int .i64 x1] 69)))
  replace H1 := Lib.hid (H1.out.thru (below_alloc0 w1 (.cells #[.int .i64 x0, .int .i64 x1] 69)))
  have H2 := Lib.hid (Blk.new w1 69 #[.int .i64 x0, .int .i64 x1])
  rw [HZ.out] at H2
  replace HZ := Lib.hid (show (w1.alloc (.cells #[.int .i64 x0, .int .i64 x1] 69)).heap.size = nb + 1 + 1 by rw [World.size_alloc, HZ.out])
  generalize w1.alloc (.cells #[.int .i64 x0, .int .i64 x1] 69) = w2 at *
  replace HB := Lib.hid (below_thru HB.out (below_alloc0 w2 (.cells #[.int .i64 start, .int .i64 stop, .int .i64 prot, .bool shared, .int .i64 back, .int .i64 off] 62)))
  replace H1 := Lib.hid (H1.out.thru (below_alloc0 w2 (.cells #[.int .i64 start, .int .i64 stop, .int .i64 prot, .bool shared, .int .i64 back, .int .i64 off] 62)))
  replace H2 := Lib.hid (H2.out.thru (below_alloc0 w2 (.cells #[.int .i64 start, .int .i64 stop, .int .i64 prot, .bool shared, .int .i64 back, .int .i64 off] 62)))
  have H3 := Lib.hid (Blk.new w2 62 #[.int .i64 start, .int .i64 stop, .int .i64 prot, .bool shared, .int .i64 back, .int .i64 off])
  rw [HZ.out] at H3
  replace HZ := Lib.hid (show (w2.alloc (.cells #[.int .i64 start, .int .i64 stop, .int .i64 prot, .bool shared, .int .i64 back, .int .i64 off] 62)).heap.size = nb + 1 + 1 + 1 by rw [World.size_alloc, HZ.out])
  generalize w2.alloc (.cells #[.int .i64 start, .int .i64 stop, .int .i64 prot, .bool shared, .int .i64 back, .int .i64 off] 62) = w3 at *
  have HZ' := Lib.hid (show Lt (nb + 2) w3 by unfold Lt; rw [HZ.out]; omega)
  obtain ⟨p0, p1⟩ := H2.out.at2
  go_quiet (fail)
  go_upto_region 2 with fail
  clear p0 p1
  replace HB := Lib.hid (below_thru HB.out (below_drewN0 w3 nq))
  replace H1 := Lib.hid (H1.out.thru (below_drewN0 w3 nq))
  replace H2 := Lib.hid (H2.out.thru (below_drewN0 w3 nq))
  replace H3 := Lib.hid (H3.out.thru (below_drewN0 w3 nq))
  replace HZ' := Lib.hid (HZ'.out.thru (below_drewN0 w3 nq))
  generalize w3.drewN nq = w4 at *
  obtain ⟨p0, p1⟩ := H2.out.at2
  clear p0 p1
  clear H2 HZ
  go_wp2_with fail
  refine (HA.out _).mono ?_
  rintro e w5 ⟨rfl, hb⟩
  replace HB := Lib.hid (below_thru HB.out hb)
  replace H1 := Lib.hid (H1.out.thru hb)
  replace H3 := Lib.hid (H3.out.thru hb)
  replace HZ' := Lib.hid (HZ'.out.thru hb)
  clear hb
  obtain ⟨k0, k1, k2, k3, k4⟩ := H1.out.at5
  go_wp2_with fail
  refine (HF.out _ HB.out).mono ?_
  rintro e w6 ⟨rfl, hb⟩
  clear k0 k1 k2 k3 k4
  replace HB := Lib.hid (below_thru HB.out hb)
  replace H1 := Lib.hid (H1.out.thru hb)
  replace H3 := Lib.hid (H3.out.thru hb)
  replace HZ' := Lib.hid (HZ'.out.thru hb)
  clear hb
  obtain ⟨k0, k1, k2, k3, k4⟩ := H1.out.at5
  go_upto_region 4 with fail
  clear k0 k1 k2 k3 k4
  go_cut [9, 10] (Mid15 w nb #[.bool n.inner, .int .i64 n.lo, .slice a1 n.ends.length c1, .slice a2 n.slots.length c2, .slice a3 n.gaps.length c3] #[.int .i64 start, .int .i64 stop, .int .i64 prot, .bool shared, .int .i64 back, .int .i64 off] n.pack (AreaV.pack ⟨start, stop, prot, shared, back, off⟩ false) n.formedB (AreaV.formedB ⟨start, stop, prot, shared, back, off⟩))
  case first =>
    go_region_held3 (fun x => x.cell? ⟨nb, 0, none⟩ = some (.bool n.inner) ∧ x.cell? ⟨nb, 1, none⟩ = some (.int .i64 n.lo) ∧ x.cell? ⟨nb, 2, none⟩ = some (.slice a1 n.ends.length c1) ∧ x.cell? ⟨nb, 3, none⟩ = some (.slice a2 n.slots.length c2) ∧ x.cell? ⟨nb, 4, none⟩ = some (.slice a3 n.gaps.length c3) ∧ x.cell? ⟨nb + 1 + 1, 0, none⟩ = some (.int .i64 start) ∧ x.cell? ⟨nb + 1 + 1, 1, none⟩ = some (.int .i64 stop) ∧ x.cell? ⟨nb + 1 + 1, 2, none⟩ = some (.int .i64 prot) ∧ x.cell? ⟨nb + 1 + 1, 3, none⟩ = some (.bool shared) ∧ x.cell? ⟨nb + 1 + 1, 4, none⟩ = some (.int .i64 back) ∧ x.cell? ⟨nb + 1 + 1, 5, none⟩ = some (.int .i64 off)) (first | exact held15 H1.out H3.out | exact held15 H1a.out H3a.out | exact held15 H1b.out H3b.out) (first
      | ((go_at_call 41); have tok := HBa.out; refine (HP.out _).mono ?_; rintro e wb ⟨hbb, b2, l2, d2, rfl, hrb⟩; have H1b := Lib.hid (H1a.out.thru hbb); have H3b := Lib.hid (H3a.out.thru hbb); clear tok)
      | ((go_at_call 36); refine (HK.out _ (below_thru HB.out (below_drewN0 _ _))).mono ?_; rintro e wa ⟨hba, b1, l1, d1, rfl, hra⟩; have hle := Lib.hid (show w6.heap.size ≤ wa.heap.size from hba.size); have HBa := Lib.hid (below_thru (below_thru HB.out (below_drewN0 w6 1)) hba); have H1a := Lib.hid ((H1.out.drewN 1).thru hba); have H3a := Lib.hid ((H3.out.drewN 1).thru hba)))
    go_wp2_with fail
    go_meet
    exact Mid15.mk1 HBa.out H1a.out H3a.out HZ'.out hra hbb hrb hle.out
  case rest =>
    have HR := hcut
    obtain ⟨hb, hn, ha, b1, l1, d1, b2, l2, d2, rfl, rfl, hr1, hr2, hne⟩ := hcut
    go_upto_region 5 with fail
    go_upto_region 6 with fail
    obtain ⟨i, hi, hi28⟩ : ∃ i : Nat, x0 % 256 % 28 = (i : Int) ∧ i < 28 := ⟨(x0 % 256 % 28).toNat, by omega, by omega⟩
    rw [hi]
    clear hi HR
    have hi28i : (i : Int) < 28 := by omega
    have HLE := Lib.hid (show w.heap.size ≤ nb + 3 by rw [hnb.out]; omega)
    have HNE := Lib.hid hne
    have HR2 := Lib.hid hr2
    have HW1 := Lib.hid hx.2
    clear HB H1 H3 hne hr2 hx
    have HB := Lib.hid hb
    have H1 := Lib.hid hn
    have H3 := Lib.hid ha
    clear hb hn ha
    go_cut [47] (Test15 (nb + 3) wc b1 l1 d1 n.pack n.formedB i x1)
    case first =>
      rcases hr1 with ⟨rfl, rfl, rfl, hf⟩ | ⟨g, rfl, rfl, hg, hf, hlen, hwf, hrow⟩
      · clear hf
        go_wp2
        go_meet
        exact ⟨rfl, .inl rfl⟩
      · have hc := hrow.cellI (i := i) (by omega)
        have HROW := Lib.hid hrow
        have HLEN := Lib.hid hlen
        have HWF := Lib.hid hwf
        clear hf hrow hlen hwf
        by_cases he : n.pack.getD i 0 = x1
        · have hne : (n.pack.getD i 0 != x1) = false := by rw [bne_eq_false_iff_eq]; exact he
          clear he
          generalize n.pack.getD i 0 = px at *
          go_wp2
          go_meet
          exact ⟨rfl, .inl rfl⟩
        · have hne : (n.pack.getD i 0 != x1) = true := bne_iff_ne.2 he
          have HNE' := Lib.hid he
          clear he
          obtain ⟨px, hpx⟩ : ∃ px, n.pack.getD i 0 = px := ⟨_, rfl⟩
          rw [hpx] at hc hne
          clear hpx
          go_wp2
          go_meet
          exact ⟨rfl, .inr ⟨rfl, g, rfl, rfl, hg, HLEN.out, HWF.out, HROW.out, HNE'.out⟩⟩
    case rest =>
    obtain ⟨rfl, hcase⟩ := hcut
    clear hr1
    go_upto_if 47 with fail
    go_cut [] (Late15 w nb #[.int .i64 start, .int .i64 stop, .int .i64 prot, .bool shared, .int .i64 back, .int .i64 off] (AreaV.pack ⟨start, stop, prot, shared, back, off⟩ false) (AreaV.formedB ⟨start, stop, prot, shared, back, off⟩) b2 l2 d2)
    case first =>
      rcases hcase with rfl | ⟨rfl, g, rfl, rfl, hg, hlen, hwf, hrow, he⟩
      · go_wp2
        go_meet
        exact ⟨HB.out, H3.out, HR2.out⟩
      · have hc := hrow.cellI (i := i) (by omega)
        have hfr := hrow.free i
        have HNO := Lib.hid (fun m => @pack_not n m i x1 (by omega) he)
        have HRN := Lib.hid (hrow.putI (show i < n.pack.length by omega) x1)
        have HWF := Lib.hid (wf_set (i := i) hwf HW1.out)
        have HPL := Lib.hid (show (n.pack.set i x1).length = 28 by simpa using hlen)
        have HBN := Lib.hid (HB.out.setCell (p := ⟨g, i, none⟩) (Nat.le_trans HLE.out hg) (.int .i64 x1))
        have H1N := Lib.hid (H1.out.far (p := ⟨g, i, none⟩) (show nb ≠ g by omega) (.int .i64 x1))
        have H3N := Lib.hid (H3.out.far (p := ⟨g, i, none⟩) (show nb + 1 + 1 ≠ g by omega) (.int .i64 x1))
        have HR2N := Lib.hid (HR2.out.far1 g i (HNE.out g · rfl) (.int .i64 x1))
        generalize n.pack.set i x1 = ys at *
        generalize n.pack.getD i 0 = px at *
        clear he hrow hwf hlen HB H1 H3 HR2
        go_upto_region 8 with fail
        have HB := HBN
        have H1 := H1N
        have H3 := H3N
        have HR2 := HR2N
        have HI := Lib.hid (HRN.out.intsB HWF.out)
        clear HBN H1N H3N HR2N HRN hc hfr
        generalize wc.setCell ⟨g, i, none⟩ (.int .i64 x1) = w7 at *
        have HU := Lib.hid (slot_unpack (some ⟨g, 0, none⟩) 28 d1 ys w7 HI.out)
        clear HI
        go_wp2_with fail
        refine (HU.out).mono ?_
        rintro e w8 ⟨hb, hcase⟩
        replace HB := Lib.hid (below_thru HB.out hb)
        replace H1 := Lib.hid (H1.out.thru hb)
        replace H3 := Lib.hid (H3.out.thru hb)
        replace HR2 := Lib.hid (HR2.out.thru hb)
        clear hb
        rcases hcase with ⟨-, rfl⟩ | ⟨m, hm, g1, g2, g3, e1, e2, e3, rfl, hg1, hg2, hg3, hr1, hr2, hr3⟩
        · unfold noNode
          replace HB := Lib.hid (below_thru HB.out (below_alloc0 w8 (.cells #[.bool false, .int .i64 0, .slice none 0 0, .slice none 0 0, .slice none 0 0] 54)))
          replace H1 := Lib.hid (H1.out.thru (below_alloc0 w8 (.cells #[.bool false, .int .i64 0, .slice none 0 0, .slice none 0 0, .slice none 0 0] 54)))
          replace H3 := Lib.hid (H3.out.thru (below_alloc0 w8 (.cells #[.bool false, .int .i64 0, .slice none 0 0, .slice none 0 0, .slice none 0 0] 54)))
          replace HR2 := Lib.hid (HR2.out.thru (below_alloc0 w8 (.cells #[.bool false, .int .i64 0, .slice none 0 0, .slice none 0 0, .slice none 0 0] 54)))
          have HM := Lib.hid (Blk.new w8 54 #[.bool false, .int .i64 0, .slice none 0 0, .slice none 0 0, .slice none 0 0])
          go_upto_region 9 with fail
          have HZ := Lib.hid (World.size_alloc w8 (.cells #[.bool false, .int .i64 0, .slice none 0 0, .slice none 0 0, .slice none 0 0] 54))
          obtain ⟨mb, hmb⟩ : ∃ x, w8.heap.size = x := ⟨_, rfl⟩
          simp only [hmb] at HM HZ ⊢
          replace hmb := Lib.hid hmb
          generalize w8.alloc (.cells #[.bool false, .int .i64 0, .slice none 0 0, .slice none 0 0, .slice none 0 0] 54) = w9 at *
          go_wp2
          go_meet
          exact ⟨HB.out, H3.out, HR2.out⟩
        · have HNS := Lib.hid (HNO.out m hm)
          have HMR := Lib.hid (node_back hm HWF.out hr1 hr2 hr3)
          simp only [nodeCells]
          clear hm hr1 hr2 hr3 hg1 hg2 hg3
          replace HB := Lib.hid (below_thru HB.out (below_alloc0 w8 (.cells #[.bool m.inner, .int .i64 m.lo, .slice (some ⟨g1, 0, none⟩) m.ends.length e1, .slice (some ⟨g2, 0, none⟩) m.slots.length e2, .slice (some ⟨g3, 0, none⟩) m.gaps.length e3] 54)))
          replace H1 := Lib.hid (H1.out.thru (below_alloc0 w8 (.cells #[.bool m.inner, .int .i64 m.lo, .slice (some ⟨g1, 0, none⟩) m.ends.length e1, .slice (some ⟨g2, 0, none⟩) m.slots.length e2, .slice (some ⟨g3, 0, none⟩) m.gaps.length e3] 54)))
          replace H3 := Lib.hid (H3.out.thru (below_alloc0 w8 (.cells #[.bool m.inner, .int .i64 m.lo, .slice (some ⟨g1, 0, none⟩) m.ends.length e1, .slice (some ⟨g2, 0, none⟩) m.slots.length e2, .slice (some ⟨g3, 0, none⟩) m.gaps.length e3] 54)))
          replace HR2 := Lib.hid (HR2.out.thru (below_alloc0 w8 (.cells #[.bool m.inner, .int .i64 m.lo, .slice (some ⟨g1, 0, none⟩) m.ends.length e1, .slice (some ⟨g2, 0, none⟩) m.slots.length e2, .slice (some ⟨g3, 0, none⟩) m.gaps.length e3] 54)))
          replace HMR := Lib.hid (HMR.out.thru (below_alloc0 w8 (.cells #[.bool m.inner, .int .i64 m.lo, .slice (some ⟨g1, 0, none⟩) m.ends.length e1, .slice (some ⟨g2, 0, none⟩) m.slots.length e2, .slice (some ⟨g3, 0, none⟩) m.gaps.length e3] 54)))
          have HM := Lib.hid (Blk.new w8 54 #[.bool m.inner, .int .i64 m.lo, .slice (some ⟨g1, 0, none⟩) m.ends.length e1, .slice (some ⟨g2, 0, none⟩) m.slots.length e2, .slice (some ⟨g3, 0, none⟩) m.gaps.length e3])
          go_upto_region 9 with fail
          have HZ := Lib.hid (World.size_alloc w8 (.cells #[.bool m.inner, .int .i64 m.lo, .slice (some ⟨g1, 0, none⟩) m.ends.length e1, .slice (some ⟨g2, 0, none⟩) m.slots.length e2, .slice (some ⟨g3, 0, none⟩) m.gaps.length e3] 54))
          obtain ⟨mb, hmb⟩ : ∃ x, w8.heap.size = x := ⟨_, rfl⟩
          simp only [hmb] at HM HZ ⊢
          replace hmb := Lib.hid hmb
          generalize w8.alloc (.cells #[.bool m.inner, .int .i64 m.lo, .slice (some ⟨g1, 0, none⟩) m.ends.length e1, .slice (some ⟨g2, 0, none⟩) m.slots.length e2, .slice (some ⟨g3, 0, none⟩) m.gaps.length e3] 54) = w9 at *
          obtain ⟨m0, m1, m2, m3, m4⟩ := HM.out.at5
          obtain ⟨k0, k1, k2, k3, k4⟩ := H1.out.at5
          go_wp2_with fail
          refine (HSN.out m _ _ _ _ _ _ _ HMR.out HB.out).mono ?_
          rintro e w10 ⟨rfl, hb⟩
          clear m0 m1 m2 m3 m4
          clear k0 k1 k2 k3 k4
          replace HB := Lib.hid (below_thru HB.out hb)
          replace H1 := Lib.hid (H1.out.thru hb)
          replace H3 := Lib.hid (H3.out.thru hb)
          replace HR2 := Lib.hid (HR2.out.thru hb)
          replace HMR := Lib.hid (HMR.out.thru hb)
          replace HM := Lib.hid (HM.out.thru hb)
          clear hb
          obtain ⟨m0, m1, m2, m3, m4⟩ := HM.out.at5
          obtain ⟨k0, k1, k2, k3, k4⟩ := H1.out.at5
          rw [HNS.out]
          go_wp2
          go_meet
          exact ⟨HB.out, H3.out, HR2.out⟩
    case rest =>
      obtain ⟨hb, ha, hr2⟩ := hcut
      clear HB H1 H3 HR2 HNE hcase HK HP HF HSN
      have HB := Lib.hid hb
      have H3 := Lib.hid ha
      clear hb ha
      go_upto_region 11 with fail
      go_cut [73] (Test15 (nb + 3) wc b2 l2 d2 (AreaV.pack ⟨start, stop, prot, shared, back, off⟩ false) (AreaV.formedB ⟨start, stop, prot, shared, back, off⟩) i x1)
      case first =>
        rcases hr2 with ⟨rfl, rfl, rfl, hf⟩ | ⟨g, rfl, rfl, hg, hf, hlen, hwf, hrow⟩
        · clear hf
          go_wp2
          go_meet
          exact ⟨rfl, .inl rfl⟩
        · have hc := hrow.cellI (i := i) (by omega)
          have HROW := Lib.hid hrow
          have HLEN := Lib.hid hlen
          have HWF := Lib.hid hwf
          clear hf hrow hlen hwf
          by_cases he : (AreaV.pack ⟨start, stop, prot, shared, back, off⟩ false).getD i 0 = x1
          · have hne : ((AreaV.pack ⟨start, stop, prot, shared, back, off⟩ false).getD i 0 != x1) = false := by rw [bne_eq_false_iff_eq]; exact he
            clear he
            generalize (AreaV.pack ⟨start, stop, prot, shared, back, off⟩ false).getD i 0 = px at *
            go_wp2
            go_meet
            exact ⟨rfl, .inl rfl⟩
          · have hne : ((AreaV.pack ⟨start, stop, prot, shared, back, off⟩ false).getD i 0 != x1) = true := bne_iff_ne.2 he
            have HNE' := Lib.hid he
            clear he
            obtain ⟨px, hpx⟩ : ∃ px, (AreaV.pack ⟨start, stop, prot, shared, back, off⟩ false).getD i 0 = px := ⟨_, rfl⟩
            rw [hpx] at hc hne
            clear hpx
            go_wp2
            go_meet
            exact ⟨rfl, .inr ⟨rfl, g, rfl, rfl, hg, HLEN.out, HWF.out, HROW.out, HNE'.out⟩⟩
      case rest =>
      obtain ⟨rfl, hcase⟩ := hcut
      clear hr2
      go_upto_if 73 with fail
      rcases hcase with rfl | ⟨rfl, g, rfl, rfl, hg, hlen, hwf, hrow, he⟩
      · go_wp2
        go_ret
        exact ⟨rfl, HB.out⟩
      · have hc := hrow.cellI (i := i) (by omega)
        have hfr := hrow.free i
        have HNO := Lib.hid (fun (b : AreaV) (d : Bool) => @packA_not ⟨start, stop, prot, shared, back, off⟩ b d i x1 (by omega) he)
        have HRN := Lib.hid (hrow.putI (show i < (AreaV.pack ⟨start, stop, prot, shared, back, off⟩ false).length by omega) x1)
        have HWF := Lib.hid (wf_set (i := i) hwf HW1.out)
        have HBN := Lib.hid (HB.out.setCell (p := ⟨g, i, none⟩) (Nat.le_trans HLE.out hg) (.int .i64 x1))
        have H3N := Lib.hid (H3.out.far (p := ⟨g, i, none⟩) (show nb + 1 + 1 ≠ g by omega) (.int .i64 x1))
        generalize (AreaV.pack ⟨start, stop, prot, shared, back, off⟩ false).set i x1 = ys at *
        generalize (AreaV.pack ⟨start, stop, prot, shared, back, off⟩ false).getD i 0 = px at *
        clear he hrow hwf hlen HB H3
        go_upto_region 13 with fail
        have HB := HBN
        have H3 := H3N
        have HI := Lib.hid (HRN.out.intsB HWF.out)
        clear HBN H3N HRN hc hfr
        generalize wc.setCell ⟨g, i, none⟩ (.int .i64 x1) = w7 at *
        have HU := Lib.hid (slot_unpackArea (some ⟨g, 0, none⟩) 28 d2 ys w7 HI.out)
        clear HI
        go_wp2_with fail
        refine (HU.out).mono ?_
        rintro e w8 ⟨hb, hcase⟩
        replace HB := Lib.hid (below_thru HB.out hb)
        replace H3 := Lib.hid (H3.out.thru hb)
        clear hb
        rcases hcase with ⟨-, rfl⟩ | ⟨⟨sa, so, pr, sh, ba, oo⟩, dd, hm, rfl⟩
        · unfold noArea
          replace HB := Lib.hid (below_thru HB.out (below_alloc0 w8 (.cells #[.int .i64 0, .int .i64 0, .int .i64 0, .bool false, .int .i64 0, .int .i64 0] 62)))
          replace H3 := Lib.hid (H3.out.thru (below_alloc0 w8 (.cells #[.int .i64 0, .int .i64 0, .int .i64 0, .bool false, .int .i64 0, .int .i64 0] 62)))
          have HM := Lib.hid (Blk.new w8 62 #[.int .i64 0, .int .i64 0, .int .i64 0, .bool false, .int .i64 0, .int .i64 0])
          go_upto_region 14 with fail
          have HZ := Lib.hid (World.size_alloc w8 (.cells #[.int .i64 0, .int .i64 0, .int .i64 0, .bool false, .int .i64 0, .int .i64 0] 62))
          obtain ⟨mb, hmb⟩ : ∃ x, w8.heap.size = x := ⟨_, rfl⟩
          simp only [hmb] at HM HZ ⊢
          replace hmb := Lib.hid hmb
          generalize w8.alloc (.cells #[.int .i64 0, .int .i64 0, .int .i64 0, .bool false, .int .i64 0, .int .i64 0] 62) = w9 at *
          go_wp2
          go_ret
          exact ⟨rfl, HB.out⟩
        · have HNS := Lib.hid (HNO.out _ _ hm)
          simp only [areaCells]
          clear hm
          replace HB := Lib.hid (below_thru HB.out (below_alloc0 w8 (.cells #[.int .i64 sa, .int .i64 so, .int .i64 pr, .bool sh, .int .i64 ba, .int .i64 oo] 62)))
          replace H3 := Lib.hid (H3.out.thru (below_alloc0 w8 (.cells #[.int .i64 sa, .int .i64 so, .int .i64 pr, .bool sh, .int .i64 ba, .int .i64 oo] 62)))
          have HM := Lib.hid (Blk.new w8 62 #[.int .i64 sa, .int .i64 so, .int .i64 pr, .bool sh, .int .i64 ba, .int .i64 oo])
          go_upto_region 14 with fail
          have HZ := Lib.hid (World.size_alloc w8 (.cells #[.int .i64 sa, .int .i64 so, .int .i64 pr, .bool sh, .int .i64 ba, .int .i64 oo] 62))
          obtain ⟨mb, hmb⟩ : ∃ x, w8.heap.size = x := ⟨_, rfl⟩
          simp only [hmb] at HM HZ ⊢
          replace hmb := Lib.hid hmb
          generalize w8.alloc (.cells #[.int .i64 sa, .int .i64 so, .int .i64 pr, .bool sh, .int .i64 ba, .int .i64 oo] 62) = w9 at *
          obtain ⟨m0, m1, m2, m3, m4, m5⟩ := HM.out.at6
          obtain ⟨k0, k1, k2, k3, k4, k5⟩ := H3.out.at6
          go_wp2
          all_goals first
            | (go_ret; exact ⟨rfl, HB.out⟩)
            | (exfalso; refine HNS.out ⟨?_, by simpa using ‹(!dd) = true›⟩; simp only [AreaV.mk.injEq]; exact ⟨‹sa = start›, ‹so = stop›, ‹pr = prot›, ‹sh = shared›, ‹ba = back›, ‹oo = off›⟩)
set_option maxRecDepth 100000 in
set_option maxHeartbeats 4000000 in
theorem changed_many (n : NodeV) (a1 a2 a3 : Option Addr) (c1 c2 c3 : Nat) (x0 x1 : Int) (ar : AreaV) (w : World) (h : NodeR w n a1 a2 a3 c1 c2 c3) (hfew : n.fewB = false) :
    Calls Try.prog 12 #[.agg (nodeCells n.inner n.lo a1 a2 a3 n.ends.length n.slots.length n.gaps.length c1 c2 c3), .agg #[.int .i64 x0, .int .i64 x1], .agg (areaCells ar)] w (LawTrue w) := by
  have HA := Lib.hid awake15
  have HF := Lib.hid (fun (w1 : World) (hB : Below w.heap.size w w1) => few15 n a1 a2 a3 c1 c2 c3 w1 (h.below hB))
  rw [hfew] at HF
  unfold nodeCells at *
  obtain ⟨start, stop, prot, shared, back, off⟩ := ar
  simp only [areaCells] at *
  have HB := Lib.hid (Below.refl w.heap.size w)
  clear h hfew
  go_enter Try.func12, Try.ntmps12
  replace HB := Lib.hid (below_thru HB.out (below_alloc0 w (.cells #[.bool n.inner, .int .i64 n.lo, .slice a1 n.ends.length c1, .slice a2 n.slots.length c2, .slice a3 n.gaps.length c3] 54)))
  have H1 := Lib.hid (Blk.new w 54 #[.bool n.inner, .int .i64 n.lo, .slice a1 n.ends.length c1, .slice a2 n.slots.length c2, .slice a3 n.gaps.length c3])
  go_upto_region 1 with fail
  have HZ := Lib.hid (World.size_alloc w (.cells #[.bool n.inner, .int .i64 n.lo, .slice a1 n.ends.length c1, .slice a2 n.slots.length c2, .slice a3 n.gaps.length c3] 54))
  obtain ⟨nb, hnb⟩ : ∃ x, w.heap.size = x := ⟨_, rfl⟩
  simp only [hnb] at H1 HZ ⊢
  replace hnb := Lib.hid hnb
  generalize w.alloc (.cells #[.bool n.inner, .int .i64 n.lo, .slice a1 n.ends.length c1, .slice a2 n.slots.length c2, .slice a3 n.gaps.length c3] 54) = w1 at *
  replace HB := Lib.hid (below_thru HB.out (below_alloc0 w1 (.cells #[.int .i64 x0, .int .i64 x1] 69)))
  replace H1 := Lib.hid (H1.out.thru (below_alloc0 w1 (.cells #[.int .i64 x0, .int .i64 x1] 69)))
  have H2 := Lib.hid (Blk.new w1 69 #[.int .i64 x0, .int .i64 x1])
  rw [HZ.out] at H2
  replace HZ := Lib.hid (show (w1.alloc (.cells #[.int .i64 x0, .int .i64 x1] 69)).heap.size = nb + 1 + 1 by rw [World.size_alloc, HZ.out])
  generalize w1.alloc (.cells #[.int .i64 x0, .int .i64 x1] 69) = w2 at *
  replace HB := Lib.hid (below_thru HB.out (below_alloc0 w2 (.cells #[.int .i64 start, .int .i64 stop, .int .i64 prot, .bool shared, .int .i64 back, .int .i64 off] 62)))
  replace H1 := Lib.hid (H1.out.thru (below_alloc0 w2 (.cells #[.int .i64 start, .int .i64 stop, .int .i64 prot, .bool shared, .int .i64 back, .int .i64 off] 62)))
  replace H2 := Lib.hid (H2.out.thru (below_alloc0 w2 (.cells #[.int .i64 start, .int .i64 stop, .int .i64 prot, .bool shared, .int .i64 back, .int .i64 off] 62)))
  have H3 := Lib.hid (Blk.new w2 62 #[.int .i64 start, .int .i64 stop, .int .i64 prot, .bool shared, .int .i64 back, .int .i64 off])
  rw [HZ.out] at H3
  replace HZ := Lib.hid (show (w2.alloc (.cells #[.int .i64 start, .int .i64 stop, .int .i64 prot, .bool shared, .int .i64 back, .int .i64 off] 62)).heap.size = nb + 1 + 1 + 1 by rw [World.size_alloc, HZ.out])
  generalize w2.alloc (.cells #[.int .i64 start, .int .i64 stop, .int .i64 prot, .bool shared, .int .i64 back, .int .i64 off] 62) = w3 at *
  obtain ⟨p0, p1⟩ := H2.out.at2
  go_quiet (fail)
  go_upto_region 2 with fail
  clear p0 p1
  replace HB := Lib.hid (below_thru HB.out (below_drewN0 w3 nq))
  replace H1 := Lib.hid (H1.out.thru (below_drewN0 w3 nq))
  replace H2 := Lib.hid (H2.out.thru (below_drewN0 w3 nq))
  replace H3 := Lib.hid (H3.out.thru (below_drewN0 w3 nq))
  generalize w3.drewN nq = w4 at *
  obtain ⟨p0, p1⟩ := H2.out.at2
  clear p0 p1
  clear H2 HZ
  go_wp2_with fail
  refine (HA.out _).mono ?_
  rintro e w5 ⟨rfl, hb⟩
  replace HB := Lib.hid (below_thru HB.out hb)
  replace H1 := Lib.hid (H1.out.thru hb)
  replace H3 := Lib.hid (H3.out.thru hb)
  clear hb
  obtain ⟨k0, k1, k2, k3, k4⟩ := H1.out.at5
  go_wp2_with fail
  refine (HF.out _ HB.out).mono ?_
  rintro e w6 ⟨rfl, hb⟩
  clear k0 k1 k2 k3 k4
  replace HB := Lib.hid (below_thru HB.out hb)
  replace H1 := Lib.hid (H1.out.thru hb)
  replace H3 := Lib.hid (H3.out.thru hb)
  clear hb
  obtain ⟨k0, k1, k2, k3, k4⟩ := H1.out.at5
  go_wp2_with fail
  refine (HA.out _).mono ?_
  rintro e w7 ⟨rfl, hb⟩
  clear k0 k1 k2 k3 k4
  replace HB := Lib.hid (below_thru HB.out hb)
  replace H1 := Lib.hid (H1.out.thru hb)
  replace H3 := Lib.hid (H3.out.thru hb)
  clear hb
  obtain ⟨k0, k1, k2, k3, k4⟩ := H1.out.at5
  go_wp2
  go_ret
  exact ⟨rfl, HB.out⟩
theorem changed (n : NodeV) (a1 a2 a3 : Option Addr) (c1 c2 c3 : Nat) (x0 x1 : Int) (ar : AreaV) (w : World) (h : NodeR w n a1 a2 a3 c1 c2 c3) (hx : (Lit.int .i64 x0).wf = true ∧ (Lit.int .i64 x1).wf = true) (ok : ar.Ok) :
    Calls Try.prog 12 #[.agg (nodeCells n.inner n.lo a1 a2 a3 n.ends.length n.slots.length n.gaps.length c1 c2 c3), .agg #[.int .i64 x0, .int .i64 x1], .agg (areaCells ar)] w fun e w' => e = .returned (.bool true) ∧ Below w.heap.size w w' := by
  cases hf : n.fewB with
  | true => exact changed15 n a1 a2 a3 c1 c2 c3 x0 x1 ar w h hx ok hf
  | false => exact changed_many n a1 a2 a3 c1 c2 c3 x0 x1 ar w h hf
end Go.Proofs.Ytnglbgdokdcefaa
