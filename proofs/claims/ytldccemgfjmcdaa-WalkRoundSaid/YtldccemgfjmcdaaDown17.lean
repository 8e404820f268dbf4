/- The reference of layer 17: Down, walked. -/
import Derived.Test.YtldccemgfjmcdaaDownP17
import Derived.Test.YtldccemgfjmcdaaHeld
import Derived.Deep.AppendLies
namespace Go.Proofs.Ytldccemgfjmcdaa
open Go.RowKit
set_option linter.unusedSimpArgs false
set_option linter.unusedVariables false

/-- Where the loop over a node's entries is. -/
structure LAt17 (xs : List (List Int)) (k : Nat) (q0 : DownQ) (es : List EntV) (ns : List Int) (n0 : Nat) (w w0 wr : World) (tb : Nat) (EA NA : Option Addr) (nb : Nat) (m : NodeV) (g1 g2 g3 c1 c2 c3 i : Nat) (lo : Int) (esj : List EntV) (nsj : List Int) (nj : Nat) (EA' : Option Addr) (ec' : Nat) (NA' : Option Addr) (nc' : Nat) : Prop where
  d : DAt17 q0 n0 w w0 wr tb EA NA (goP (downP xs k) m.inner ((m.ends.zip m.slots).drop i) lo esj nsj) esj nsj nj EA' ec' NA' nc'
  blk : Blk wr nb 50 #[.bool m.inner, .int .i64 m.lo, .slice (some ⟨g1, 0, none⟩) m.ends.length c1, .slice (some ⟨g2, 0, none⟩) m.slots.length c2, .slice (some ⟨g3, 0, none⟩) m.gaps.length c3]
  nf : nb ∉ tset tb EA' NA'
  nn : NodeNew w wr (tset tb EA' NA') m g1 g2 g3 c1 c2 c3
  n1 : ns.length + 1 ≤ nsj.length
  n2 : nsj.length ≤ 64
  le : esj.length + 8 * ns.length + 8 ≤ es.length + 8 * nsj.length + (if m.inner = true then 0 else i)
  nk : nj ≤ 26 * nsj.length
  wf : WfI lo
section
variable {xs : List (List Int)} {k : Nat} {q0 : DownQ} {es esj : List EntV} {ns nsj : List Int} {n0 nj : Nat} {w w0 wr w3 : World} {tb nb : Nat} {EA NA EA' NA' : Option Addr} {ec' nc' : Nat} {m : NodeV} {g1 g2 g3 c1 c2 c3 i : Nat} {lo : Int}
theorem LAt17.thru (l : LAt17 xs k q0 es ns n0 w w0 wr tb EA NA nb m g1 g2 g3 c1 c2 c3 i lo esj nsj nj EA' ec' NA' nc') (hb : Below wr.heap.size wr w3) : LAt17 xs k q0 es ns n0 w w0 w3 tb EA NA nb m g1 g2 g3 c1 c2 c3 i lo esj nsj nj EA' ec' NA' nc' :=
  ⟨l.d.thru hb, l.blk.thru hb, l.nf, ⟨l.nn.r1.thru hb, l.nn.r2.thru hb, l.nn.r3.thru hb, l.nn.f1, l.nn.f2, l.nn.f3, l.nn.n1, l.nn.n2, l.nn.n3, l.nn.wf, l.nn.ok⟩, l.n1, l.n2, l.le, l.nk, l.wf⟩
theorem LAt17.upd4 (l : LAt17 xs k q0 es ns n0 w w0 wr tb EA NA nb m g1 g2 g3 c1 c2 c3 i lo esj nsj nj EA' ec' NA' nc') (hu : Upd (blockOf EA') wr w3) :
    Blk w3 nb 50 #[.bool m.inner, .int .i64 m.lo, .slice (some ⟨g1, 0, none⟩) m.ends.length c1, .slice (some ⟨g2, 0, none⟩) m.slots.length c2, .slice (some ⟨g3, 0, none⟩) m.gaps.length c3] ∧ Row w3 2 1 g1 m.ends.length c1 (i64s m.ends) ∧ Row w3 2 1 g2 m.slots.length c2 (i64s m.slots) :=
  ⟨l.blk.upd hu fun h => l.nf (mem_tset.2 (.inr (.inl h))), l.nn.r1.upd hu fun h => l.nn.f1 (mem_tset.2 (.inr (.inl h))), l.nn.r2.upd hu fun h => l.nn.f2 (mem_tset.2 (.inr (.inl h)))⟩
theorem LAt17.end' (l : LAt17 xs k q0 es ns n0 w w0 wr tb EA NA nb m g1 g2 g3 c1 c2 c3 i lo esj nsj nj EA' ec' NA' nc') (hi : i = m.ends.length) : DownPost17 q0 n0 w0 w tb EA NA (.returned (.bool true)) wr := by
  obtain ⟨-, h8, hs, -⟩ := NodeV.formed_iff l.nn.ok
  have e : (m.ends.zip m.slots).drop i = [] := List.drop_eq_nil_of_le (by simp; omega)
  exact (l.d.eq (show goP (downP xs k) m.inner ((m.ends.zip m.slots).drop i) lo esj nsj = (true, esj, nsj, 0) by rw [e]; rfl)).ends
end
theorem NodeNew.far {w0 w w' : World} {X X' : List Nat} {m : NodeV} {g1 g2 g3 c1 c2 c3 : Nat} (h : NodeNew w0 w X m g1 g2 g3 c1 c2 c3) (hb : Below w.heap.size w w') (hX : ∀ b ∈ X', b < w0.heap.size) : NodeNew w0 w' X' m g1 g2 g3 c1 c2 c3 :=
  ⟨h.r1.thru hb, h.r2.thru hb, h.r3.thru hb, fun hin => by have := hX _ hin; have := h.n1; omega, fun hin => by have := hX _ hin; have := h.n2; omega, fun hin => by have := hX _ hin; have := h.n3; omega, h.n1, h.n2, h.n3, h.wf, h.ok⟩
theorem NodeNew.thru {w0 w w' : World} {X : List Nat} {m : NodeV} {g1 g2 g3 c1 c2 c3 : Nat} (h : NodeNew w0 w X m g1 g2 g3 c1 c2 c3) (hb : Below w.heap.size w w') : NodeNew w0 w' X m g1 g2 g3 c1 c2 c3 :=
  ⟨h.r1.thru hb, h.r2.thru hb, h.r3.thru hb, h.f1, h.f2, h.f3, h.n1, h.n2, h.n3, h.wf, h.ok⟩
theorem NodeNew.since {w0 w1 w : World} {X : List Nat} {m : NodeV} {g1 g2 g3 c1 c2 c3 : Nat} (h : NodeNew w1 w X m g1 g2 g3 c1 c2 c3) (hle : w0.heap.size ≤ w1.heap.size) : NodeNew w0 w X m g1 g2 g3 c1 c2 c3 :=
  ⟨h.r1, h.r2, h.r3, h.f1, h.f2, h.f3, Nat.le_trans hle h.n1, Nat.le_trans hle h.n2, Nat.le_trans hle h.n3, h.wf, h.ok⟩
theorem NodeNew.apart {w0 w : World} {X X' : List Nat} {m : NodeV} {g1 g2 g3 c1 c2 c3 : Nat} (h : NodeNew w0 w X m g1 g2 g3 c1 c2 c3) (hX : ∀ b ∈ X', b < w0.heap.size) : NodeNew w0 w X' m g1 g2 g3 c1 c2 c3 :=
  h.far (Below.refl _ _) hX
section
variable {xs : List (List Int)} {k : Nat} {h : Int} {es : List EntV} {ns x : List Int}
theorem dn_none (h64 : ¬ ns.length = 64) (ho : ofP xs h = none) : downP xs (k + 1) h es ns = (false, es, ns ++ [h], 1) := by rw [downP, if_neg h64, ho]
theorem dn_bad (h64 : ¬ ns.length = 64) (ho : ofP xs h = some x) (hn : (nodeP x).1 = none) : downP xs (k + 1) h es ns = (false, es, ns ++ [h], (nodeP x).2) := by rw [downP, if_neg h64, ho]; simp only; rw [hn]
theorem dn_good {m : NodeV} (h64 : ¬ ns.length = 64) (ho : ofP xs h = some x) (hn : (nodeP x).1 = some m) : downP xs (k + 1) h es ns = ((goP (downP xs k) m.inner (m.ends.zip m.slots) m.lo es (ns ++ [h])).1, (goP (downP xs k) m.inner (m.ends.zip m.slots) m.lo es (ns ++ [h])).2.1, (goP (downP xs k) m.inner (m.ends.zip m.slots) m.lo es (ns ++ [h])).2.2.1, (nodeP x).2 + (goP (downP xs k) m.inner (m.ends.zip m.slots) m.lo es (ns ++ [h])).2.2.2) := by rw [downP, if_neg h64, ho]; simp only; rw [hn]
end
set_option maxRecDepth 100000 in
set_option maxHeartbeats 8000000 in
theorem down17_succ (xs : List (List Int)) (hx : ∀ y ∈ xs, y.length = 28) (A : Option Addr) (len cap : Nat) (rows : List (RowV Int)) (w0 : World) (hl : RowsL w0 A len cap rows) (h28 : ∀ r ∈ rows, r.len = 28) (hlen : len ≤ 100) (hxs : rows.map (·.zs) = xs) (k : Nat) (hk8 : k < 8)
    (ih : ∀ (h : Int) (es : List EntV) (ns : List Int) (n tb : Nat) (EA NA : Option Addr) (ec nc : Nat) (w : World), TreeAt w w0 tb es ns n EA ec NA nc → ns.length ≤ 64 → es.length ≤ 8 * ns.length → n ≤ 26 * ns.length → WfI h →
      Calls Try.prog 21 #[.pointer (some ⟨tb, 0, none⟩), .slice A len cap, .int .i64 h, .int .i64 k] w (DownPost17 (downP xs k h es ns) n w0 w tb EA NA))
    (h : Int) (es : List EntV) (ns : List Int) (n tb : Nat) (EA NA : Option Addr) (ec nc : Nat) (w : World) (ht : TreeAt w w0 tb es ns n EA ec NA nc) (hns : ns.length ≤ 64) (hes : es.length ≤ 8 * ns.length) (hnk : n ≤ 26 * ns.length) (hw : WfI h) :
    Calls Try.prog 21 #[.pointer (some ⟨tb, 0, none⟩), .slice A len cap, .int .i64 h, .int .i64 ((k : Int) + 1)] w (DownPost17 (downP xs (k + 1) h es ns) n w0 w tb EA NA) := by
  have IH := Lib.hid ih
  have HT := Lib.hid ht
  have HW := Lib.hid hw
  have HL := Lib.hid hl
  have H28 := Lib.hid h28
  have HXS := Lib.hid hxs
  have HX := Lib.hid hx
  have HXN := Lib.hid (show xs.length ≤ 100 by rw [← hxs, List.length_map, hl.top.hl]; exact hlen)
  have hkb : (((k : Int) + 1) == 0) = false := by rw [beq_eq_false_iff_ne]; omega
  have D0 := Lib.hid (show DAt17 (downP xs (k + 1) h es ns) n w w0 w tb EA NA (downP xs (k + 1) h es ns) es ns n EA ec NA nc from ⟨Cont.refl _ _, ht, Moves.refl _ _⟩)
  clear ih ht hw hl h28 hxs hx
  obtain ⟨k0, k1, k2⟩ := HT.out.blk.at3
  by_cases h64 : ns.length = 64
  · have HE := Lib.hid (D0.out.eq (show downP xs (k + 1) h es ns = (false, es, ns, 0) by unfold downP; rw [if_pos h64])).ends
    have h64b : ((ns.length : Int) == 64) = true := by rw [beq_iff_eq]; omega
    clear h64
    go_enter Try.func21, Try.ntmps21
    go_wp2
    go_ret
    exact HE.out
  · have h64b : ((ns.length : Int) == 64) = false := by rw [beq_eq_false_iff_ne]; omega
    have HN64 := Lib.hid h64
    have HQN := Lib.hid (fun ho => dn_none (xs := xs) (k := k) (h := h) (es := es) h64 ho)
    have HQB := Lib.hid (fun x ho hn => dn_bad (xs := xs) (k := k) (h := h) (es := es) (x := x) h64 ho hn)
    have HQG := Lib.hid (fun x m ho hn => dn_good (xs := xs) (k := k) (h := h) (es := es) (x := x) (m := m) h64 ho hn)
    have hns63 : ns.length ≤ 63 := by omega
    have f3 := HT.out.blk.free 1
    obtain ⟨i0, hi0, hz0, hz1, hz2⟩ := info_parts info_i64
    have hown := HT.out.on
    have hge := HT.out.low.size
    obtain ⟨Q0, hQ0⟩ : ∃ q, downP xs (k + 1) h es ns = q := ⟨_, rfl⟩
    rw [hQ0] at D0 HQN HQB HQG ⊢
    clear h64 hQ0
    go_enter Try.func21, Try.ntmps21
    go_upto_region 3 with fail
    go_wp2_with (at_builtin; refine wpList_append_lies (P := Try.prog) _ rfl (.tmp 30) (.tmp 32) 31 rfl w0.heap.size 2 i0 _ 1 8 Try.underlying31 hi0 hz0 hz1 hz2 rfl (by decide) (.slice NA ns.length nc) ns.length (i64s ns) rfl (hown.alloc _) ⟨w.heap.size, 0, none⟩ 1 1 [.int .i64 h] rfl rfl (World.news_of_block (cs := #[.int .i64 h]) (t := 2) (fr := (0, 0)) (heap_alloc_new w _)) (by simp [Value.oneCell']) (by omega) (by unfold maxLen; omega) (by omega) (by simp; omega) (w.heap.size + 1) (by simp) ?_; intro g cap' w4 hown' hgrow hat hlt'; have hps := HT.out.pushN _ HW.out hown' hgrow hat; have c8 := hps.2.2.1; have f8 := hps.2.2.2; have PS := Lib.hid hps; clear hps hown hown' hgrow hat k0 k1 k2 f3)
    clear c8 f8 HT hlt' hge
    obtain ⟨pt, pm, -, -⟩ := PS.out
    generalize w4.setCell ⟨tb, 1, none⟩ (.slice (some ⟨g, 0, none⟩) (ns.length + 1) cap') = w5 at *
    have PT := Lib.hid pt
    have PM := Lib.hid pm
    clear pt pm PS
    have HO := Lib.hid (ref17_of A len cap rows h w5 (HL.out.below PT.out.low) HW.out)
    have hln : (ns ++ [h]).length = ns.length + 1 := by simp
    go_wp2_with fail
    refine HO.out.mono ?_
    rintro e w6 ⟨rfl, hc⟩
    rw [HXS.out] at hc
    rcases hc with ⟨hno, rfl⟩ | ⟨r, hmem, hyes, rfl⟩
    · obtain ⟨k0, k1, k2⟩ := PT.out.blk.at3
      have f2 := PT.out.blk.free 2
      obtain ⟨st, sm⟩ := PT.out.setN (n + 1)
      have HE := Lib.hid (D0.out.to (q' := (false, es, ns ++ [h], 0)) ⟨by rw [HQN.out hno], by rw [HQN.out hno], by rw [HQN.out hno], by rw [HQN.out hno]; simp⟩ st (PM.out.trans sm)).ends
      have hq1 : IntKind.i64.wrap ((n : Int) + 1) = (n : Int) + 1 := IntWalk.i64_in _ (by omega)
      clear st sm hno HQN HQB HQG D0 PT PM HO
      go_wp2
      go_ret
      exact HE.out
    · have hrl := H28.out r hmem
      obtain ⟨ra, rn, rc, zs⟩ := r
      simp only at hrl hyes
      subst hrl
      have HB2 := HQB.out zs hyes
      have HG2 := fun m => HQG.out zs m hyes
      have HI := Lib.hid ((HL.out.below PT.out.low).each _ hmem)
      have HN := Lib.hid (ref16_nodeN ra rc zs w6 HI.out)
      have hle26 := nodeP_le zs
      have HF := Lib.hid (fun m (hm : (nodeP zs).1 = some m) => nodeP_formed hm)
      clear HQN HQB HQG hyes HO HI hmem
      unfold RefNodeNew at HN
      obtain ⟨np, hnp⟩ : ∃ q, nodeP zs = q := ⟨_, rfl⟩
      simp only [hnp] at HN HB2 HG2 hle26 HF
      obtain ⟨no, nk⟩ := np
      simp only at HN HB2 HG2 hle26 HF
      have HQB := Lib.hid HB2
      have HQG := Lib.hid HG2
      clear hnp HB2 HG2
      go_wp2_with fail
      refine HN.out.mono ?_
      rintro e w7 ⟨hb, d0, d1, d2, d3, d4, rfl, hnw⟩
      have HLT := Lib.hid PT.out.lt
      have HGE := Lib.hid (show w.heap.size ≤ w6.heap.size from PM.out.upd.size)
      replace PT := Lib.hid (PT.out.thru hb)
      replace PM := Lib.hid (PM.out.thru hb)
      have HGE7 := Lib.hid hb.size
      cases no with
      | none =>
        obtain ⟨e0, e1, e2, e3, e4⟩ : d0 = .bool false ∧ d1 = .int .i64 0 ∧ d2 = .slice none 0 0 ∧ d3 = .slice none 0 0 ∧ d4 = .slice none 0 0 := by
          rcases hnw with ⟨-, h⟩ | ⟨m, _, _, _, _, _, _, hm, -⟩
          · exact h
          · cases hm
        subst e0 e1 e2 e3 e4
        have HQ := Lib.hid (HQB.out rfl)
        clear hnw hb HN HF HQB HQG
        replace PT := Lib.hid (PT.out.thru (below_alloc0 w7 (.cells #[.bool false, .int .i64 0, .slice none 0 0, .slice none 0 0, .slice none 0 0] 50)))
        replace PM := Lib.hid (PM.out.thru (below_alloc0 w7 (.cells #[.bool false, .int .i64 0, .slice none 0 0, .slice none 0 0, .slice none 0 0] 50)))
        have HNB := Lib.hid (Blk.new w7 50 #[.bool false, .int .i64 0, .slice none 0 0, .slice none 0 0, .slice none 0 0])
        go_upto_region 9 with fail
        have HZ := Lib.hid (World.size_alloc w7 (.cells #[.bool false, .int .i64 0, .slice none 0 0, .slice none 0 0, .slice none 0 0] 50))
        obtain ⟨nb, hnb⟩ : ∃ x, w7.heap.size = x := ⟨_, rfl⟩
        simp only [hnb] at HNB HZ ⊢
        replace hnb := Lib.hid hnb
        generalize w7.alloc (.cells #[.bool false, .int .i64 0, .slice none 0 0, .slice none 0 0, .slice none 0 0] 50) = w8 at *
        obtain ⟨k0, k1, k2⟩ := PT.out.blk.at3
        have f2 := PT.out.blk.free 2
        obtain ⟨st, sm⟩ := PT.out.setN (n + nk)
        have HE := Lib.hid (D0.out.to (q' := (false, es, ns ++ [h], 0)) ⟨by rw [HQ.out], by rw [HQ.out], by rw [HQ.out], by rw [HQ.out]; simp⟩ st (PM.out.trans sm)).ends
        have hq1 : IntKind.i64.wrap ((n : Int) + nk) = (n : Int) + nk := IntWalk.i64_in _ (by omega)
        clear st sm HQ D0 PT PM
        go_wp2
        go_ret
        exact HE.out
      | some m =>
        obtain ⟨g1, g2, g3, c1, c2, c3, e0, e1, e2, e3, e4, hnn⟩ : ∃ g1 g2 g3 c1 c2 c3, d0 = .bool m.inner ∧ d1 = .int .i64 m.lo ∧ d2 = .slice (some ⟨g1, 0, none⟩) m.ends.length c1 ∧ d3 = .slice (some ⟨g2, 0, none⟩) m.slots.length c2 ∧ d4 = .slice (some ⟨g3, 0, none⟩) m.gaps.length c3 ∧ NodeNew w6 w7 [] m g1 g2 g3 c1 c2 c3 := by
          rcases hnw with ⟨h, -⟩ | ⟨m', g1, g2, g3, c1, c2, c3, hm, h⟩
          · cases h
          · injection hm with hm
            subst hm
            exact ⟨g1, g2, g3, c1, c2, c3, h⟩
        subst e0 e1 e2 e3 e4
        have HFM := Lib.hid (HF.out m rfl)
        have HQ := Lib.hid (HQG.out m rfl)
        have NN := Lib.hid ((hnn.apart HLT.out).since HGE.out)
        clear hnw hnn hb HN HF HQB HQG
        replace PT := Lib.hid (PT.out.thru (below_alloc0 w7 (.cells #[.bool m.inner, .int .i64 m.lo, .slice (some ⟨g1, 0, none⟩) m.ends.length c1, .slice (some ⟨g2, 0, none⟩) m.slots.length c2, .slice (some ⟨g3, 0, none⟩) m.gaps.length c3] 50)))
        replace PM := Lib.hid (PM.out.thru (below_alloc0 w7 (.cells #[.bool m.inner, .int .i64 m.lo, .slice (some ⟨g1, 0, none⟩) m.ends.length c1, .slice (some ⟨g2, 0, none⟩) m.slots.length c2, .slice (some ⟨g3, 0, none⟩) m.gaps.length c3] 50)))
        replace NN := Lib.hid (NN.out.thru (below_alloc0 w7 (.cells #[.bool m.inner, .int .i64 m.lo, .slice (some ⟨g1, 0, none⟩) m.ends.length c1, .slice (some ⟨g2, 0, none⟩) m.slots.length c2, .slice (some ⟨g3, 0, none⟩) m.gaps.length c3] 50)))
        have HNB := Lib.hid (Blk.new w7 50 #[.bool m.inner, .int .i64 m.lo, .slice (some ⟨g1, 0, none⟩) m.ends.length c1, .slice (some ⟨g2, 0, none⟩) m.slots.length c2, .slice (some ⟨g3, 0, none⟩) m.gaps.length c3])
        go_upto_region 9 with fail
        have HZ := Lib.hid (World.size_alloc w7 (.cells #[.bool m.inner, .int .i64 m.lo, .slice (some ⟨g1, 0, none⟩) m.ends.length c1, .slice (some ⟨g2, 0, none⟩) m.slots.length c2, .slice (some ⟨g3, 0, none⟩) m.gaps.length c3] 50))
        obtain ⟨nb, hnb⟩ : ∃ x, w7.heap.size = x := ⟨_, rfl⟩
        simp only [hnb] at HNB HZ ⊢
        replace hnb := Lib.hid hnb
        generalize w7.alloc (.cells #[.bool m.inner, .int .i64 m.lo, .slice (some ⟨g1, 0, none⟩) m.ends.length c1, .slice (some ⟨g2, 0, none⟩) m.slots.length c2, .slice (some ⟨g3, 0, none⟩) m.gaps.length c3] 50) = w8 at *
        obtain ⟨k0, k1, k2⟩ := PT.out.blk.at3
        have f2 := PT.out.blk.free 2
        obtain ⟨st, sm⟩ := PT.out.setN (n + nk)
        have hnbt : nb ∉ tset tb EA (some ⟨g, 0, none⟩) := fun hin => by have := HLT.out nb hin; have := hnb.out; have := HGE7.out; omega
        have hm3 := HNB.out.upd (F := [tb]) ((Upd.refl [tb] w8).put (p := ⟨tb, 2, none⟩) (.inl (by simp)) (.int .i64 ((n + nk : Nat) : Int))) (fun hin => hnbt (mem_tset.2 (.inl (by simpa using hin))))
        have L0 := Lib.hid (show LAt17 xs k Q0 es ns n w w0 (w8.setCell ⟨tb, 2, none⟩ (.int .i64 ((n + nk : Nat) : Int))) tb EA NA nb m g1 g2 g3 c1 c2 c3 0 m.lo es (ns ++ [h]) (n + nk) EA ec (some ⟨g, 0, none⟩) cap' from
          ⟨D0.out.to ⟨by rw [HQ.out]; rfl, by rw [HQ.out]; rfl, by rw [HQ.out]; rfl, by rw [HQ.out]; simp [Nat.add_assoc]⟩ st (PM.out.trans sm), hm3, hnbt,
            NN.out.moves sm, by simp, by simp; omega, by simp; omega, by simp; omega, NN.out.wf.2.2.2⟩)
        have HMS := Lib.hid (show m.slots.length = m.ends.length from (NodeV.formed_iff HFM.out).2.2.1)
        have hm8 : m.ends.length ≤ 8 := (NodeV.formed_iff HFM.out).2.1
        have hq1 : IntKind.i64.wrap ((n : Int) + nk) = (n : Int) + nk := IntWalk.i64_in _ (by omega)
        have hpc : ((n + nk : Nat) : Int) = (n : Int) + nk := by omega
        rw [hpc] at L0
        clear st sm hm3 hnbt D0 PT PM NN HQ HNB HGE HGE7 HLT HZ hpc
        go_upto_region 10 with fail
        generalize w8.setCell ⟨tb, 2, none⟩ (.int .i64 ((n : Int) + nk)) = w9 at *
        clear k0 k1 k2 f2 hq1
        obtain ⟨z0, z1, z2, z3, z4⟩ := L0.out.blk.at5
        go_wp2_with fail
        clear z0 z1 z2 z3 z4
        go_loopw [15, 14] (fun v l wr => ∃ (i : Nat) (lo : Int) (esj : List EntV) (nsj : List Int) (nj : Nat) (EA' : Option Addr) (ec' : Nat) (NA' : Option Addr) (nc' : Nat), i ≤ m.ends.length ∧ v = .int .i64 i ∧ l = .int .i64 lo ∧
          LAt17 xs k Q0 es ns n w w0 wr tb EA NA nb m g1 g2 g3 c1 c2 c3 i lo esj nsj nj EA' ec' NA' nc') (fun v _ _ => m.ends.length - (intOf v).toNat)
        case atStart => exact ⟨0, m.lo, es, ns ++ [h], n + nk, _, _, _, _, Nat.zero_le _, rfl, rfl, L0.out⟩
        case round =>
          clear L0
          obtain ⟨i, lo, esj, nsj, nj, EA1, ec1, NA1, nc1, hi, rfl, rfl, hlp⟩ := hrel
          have L := Lib.hid hlp
          clear hlp
          by_cases hlt : i < m.ends.length
          · have hlt' : i < m.slots.length := by have := HMS.out; omega
            obtain ⟨z0, z1, z2, z3, z4⟩ := L.out.blk.at5
            have x1 := row_int L.out.nn.r1 hlt
            have x2 := row_int L.out.nn.r2 hlt'
            have hgc := goP_cons (downP xs k) m HMS.out hlt lo esj nsj
            have hve := L.out.nn.wf.1 _ (getD_mem hlt)
            have hvs := L.out.nn.wf.2.1 _ (getD_mem hlt')
            obtain ⟨ee, hee⟩ : ∃ x, m.ends.getD i 0 = x := ⟨_, rfl⟩
            obtain ⟨sl, hsl⟩ : ∃ x, m.slots.getD i 0 = x := ⟨_, rfl⟩
            rw [hee] at x1 hgc hve
            rw [hsl] at x2 hgc hvs
            have HGC := Lib.hid hgc
            have HVE := Lib.hid hve
            have HVS := Lib.hid hvs
            have hii : (i : Int) < m.ends.length := by omega
            have hii' : (i : Int) < m.slots.length := by omega
            have hle := L.out.le
            clear hgc hve hvs
            cases hin : m.inner with
            | false =>
              rw [hin] at z0 hle
              have hle2 : esj.length ≤ 600 := by have := L.out.n2; simp at hle; omega
              have HV := Lib.hid (show WfI lo ∧ WfI ee ∧ WfI sl from ⟨L.out.wf, HVE.out, HVS.out⟩)
              have HBB := Lib.hid (L.out.d.tr.low.size)
              have HLE := Lib.hid hle
              obtain ⟨j0, hj0, hy0, hy1, hy2⟩ := info_parts info_entry
              have hown := L.out.d.tr.oe
              have LD := Lib.hid (L.out.thru (show Below wr.heap.size wr wr.drew from below_drewN0 wr 1))
              have ka2 : (wr.alloc (.cells #[.int .i64 lo, .int .i64 ee, .int .i64 sl] 47)).drew.cell? ⟨tb, 0, none⟩ = some (.slice EA1 esj.length ec1) := (L.out.thru (below_alloc0 wr (.cells #[.int .i64 lo, .int .i64 ee, .int .i64 sl] 47))).d.tr.blk.at3.1
              have kd2 : wr.cell? ⟨tb, 0, none⟩ = some (.slice EA1 esj.length ec1) := L.out.d.tr.blk.at3.1
              have hcn : Cont (goP (downP xs k) m.inner ((m.ends.zip m.slots).drop i) lo esj nsj) nj (goP (downP xs k) m.inner ((m.ends.zip m.slots).drop (i + 1)) ee (esj ++ [⟨lo, ee, sl⟩]) nsj) nj := (Cont.refl _ _).eq (HGC.out.trans (if_pos hin))
              have HCN := Lib.hid hcn
              clear hle hcn
              have la := L.out.thru (below_alloc0 wr (.cells #[.int .i64 lo, .int .i64 ee, .int .i64 sl] 47))
              obtain ⟨-, -, ya2, ya3, -⟩ := la.blk.at5
              have va1 := row_int la.nn.r1 hlt
              have va2 := row_int la.nn.r2 hlt'
              rw [hee] at va1
              rw [hsl] at va2
              clear la L
              have za2 : wr.drew.cell? ⟨nb, 2, none⟩ = some (.slice (some ⟨g1, 0, none⟩) m.ends.length c1) := z2
              have za3 : wr.drew.cell? ⟨nb, 3, none⟩ = some (.slice (some ⟨g2, 0, none⟩) m.slots.length c2) := z3
              have xa1 : wr.drew.cell? ⟨g1, i, none⟩ = some (.int .i64 ee) := x1
              have xa2 : wr.drew.cell? ⟨g2, i, none⟩ = some (.int .i64 sl) := x2
              have HEE := Lib.hid hee
              have HSL := Lib.hid hsl
              clear hee hsl
              go_upto_region 19 with fail
              refine wp_region_N (fun x => x.cell? ⟨nb, 2, none⟩ = some (.slice (some ⟨g1, 0, none⟩) m.ends.length c1) ∧ x.cell? ⟨nb, 3, none⟩ = some (.slice (some ⟨g2, 0, none⟩) m.slots.length c2) ∧ x.cell? ⟨g1, i, none⟩ = some (.int .i64 ee) ∧ x.cell? ⟨g2, i, none⟩ = some (.int .i64 sl) ∧ x.cell? ⟨tb, 0, none⟩ = some (.slice EA1 esj.length ec1)) 21 22 (by rfl) (by kernel_rfl) ?_
              have hS : (fun x : World => x.cell? ⟨nb, 2, none⟩ = some (.slice (some ⟨g1, 0, none⟩) m.ends.length c1) ∧ x.cell? ⟨nb, 3, none⟩ = some (.slice (some ⟨g2, 0, none⟩) m.slots.length c2) ∧ x.cell? ⟨g1, i, none⟩ = some (.int .i64 ee) ∧ x.cell? ⟨g2, i, none⟩ = some (.int .i64 sl) ∧ x.cell? ⟨tb, 0, none⟩ = some (.slice EA1 esj.length ec1)) wr.drew := ⟨za2, za3, xa1, xa2, kd2⟩
              refine wpAnyN_takes (i := 0) (d := 94) (v := ?_) rfl rfl (by kernel_rfl) (fun _ _ _ h => h) (Or.inl ⟨by rfl, ?_⟩) hS ?_
              rotate_left
              · intro wq hq; (try dsimp only at hq); obtain ⟨hq1, hq2, hq3, hq4, hq5⟩ := hq; go_simp; try with_reducible rfl
              simp only [List.setIfInBounds_toArray, List.set_cons_zero, List.set_cons_succ]
              refine wpAnyN_takes (i := 1) (d := 95) (v := ?_) rfl rfl (by kernel_rfl) (fun _ _ _ h => h) (Or.inl ⟨by rfl, ?_⟩) hS ?_
              rotate_left
              · intro wq hq; (try dsimp only at hq); obtain ⟨hq1, hq2, hq3, hq4, hq5⟩ := hq; go_simp; try with_reducible rfl
              simp only [List.setIfInBounds_toArray, List.set_cons_zero, List.set_cons_succ]
              refine wpAnyN_takes (i := 2) (d := 96) (v := ?_) rfl rfl (by kernel_rfl) (fun _ _ _ h => h) (Or.inl ⟨by rfl, ?_⟩) hS ?_
              rotate_left
              · intro wq hq; (try dsimp only at hq); obtain ⟨hq1, hq2, hq3, hq4, hq5⟩ := hq; go_simp; try with_reducible rfl
              simp only [List.setIfInBounds_toArray, List.set_cons_zero, List.set_cons_succ]
              refine wpAnyN_takes (i := 3) (d := 97) (v := ?_) rfl rfl (by kernel_rfl) (fun _ _ _ h => h) (Or.inl ⟨by rfl, ?_⟩) hS ?_
              rotate_left
              · intro wq hq; (try dsimp only at hq); obtain ⟨hq1, hq2, hq3, hq4, hq5⟩ := hq; go_simp; try with_reducible rfl
              simp only [List.setIfInBounds_toArray, List.set_cons_zero, List.set_cons_succ]
              refine wpAnyN_takes (i := 4) (d := 98) (v := ?_) rfl rfl (by kernel_rfl) (fun _ _ _ h => h) (Or.inl ⟨by rfl, ?_⟩) hS ?_
              rotate_left
              · intro wq hq; (try dsimp only at hq); obtain ⟨hq1, hq2, hq3, hq4, hq5⟩ := hq; go_simp; try with_reducible rfl
              simp only [List.setIfInBounds_toArray, List.set_cons_zero, List.set_cons_succ]
              refine wpAnyN_takes (i := 5) (d := 99) (v := ?_) rfl rfl (by kernel_rfl) (fun _ _ _ h => h) (Or.inl ⟨by rfl, ?_⟩) hS ?_
              rotate_left
              · intro wq hq; (try dsimp only at hq); obtain ⟨hq1, hq2, hq3, hq4, hq5⟩ := hq; go_simp; try with_reducible rfl
              simp only [List.setIfInBounds_toArray, List.set_cons_zero, List.set_cons_succ]
              refine wpAnyN_takes (i := 6) (d := 100) (v := ?_) rfl rfl (by kernel_rfl) (fun _ _ _ h => h) (Or.inl ⟨by rfl, ?_⟩) hS ?_
              rotate_left
              · intro wq hq; (try dsimp only at hq); obtain ⟨hq1, hq2, hq3, hq4, hq5⟩ := hq; go_simp; try with_reducible rfl
              simp only [List.setIfInBounds_toArray, List.set_cons_zero, List.set_cons_succ]
              refine wpAnyN_takes (i := 7) (d := 101) (v := ?_) rfl rfl (by kernel_rfl) (fun _ _ _ h => h) (Or.inl ⟨by rfl, ?_⟩) hS ?_
              rotate_left
              · intro wq hq; (try dsimp only at hq); obtain ⟨hq1, hq2, hq3, hq4, hq5⟩ := hq; go_simp; try with_reducible rfl
              simp only [List.setIfInBounds_toArray, List.set_cons_zero, List.set_cons_succ]
              refine wpAnyN_takes (i := 8) (d := 102) (v := ?_) rfl rfl (by kernel_rfl) (fun _ _ _ h => h) (Or.inl ⟨by rfl, ?_⟩) hS ?_
              rotate_left
              · intro wq hq; (try dsimp only at hq); obtain ⟨hq1, hq2, hq3, hq4, hq5⟩ := hq; go_simp; try with_reducible rfl
              simp only [List.setIfInBounds_toArray, List.set_cons_zero, List.set_cons_succ]
              refine wpAnyN_takes (i := 9) (d := 103) (v := ?_) rfl rfl (by kernel_rfl) (fun _ _ _ h => h) (Or.inl ⟨by rfl, ?_⟩) hS ?_
              rotate_left
              · intro wq hq; (try dsimp only at hq); obtain ⟨hq1, hq2, hq3, hq4, hq5⟩ := hq; go_simp; try with_reducible rfl
              simp only [List.setIfInBounds_toArray, List.set_cons_zero, List.set_cons_succ]
              refine wpAnyN_takes (i := 10) (d := 104) (v := ?_) rfl rfl (by kernel_rfl) (fun _ _ _ h => h) (Or.inl ⟨by rfl, ?_⟩) hS ?_
              rotate_left
              · intro wq hq; (try dsimp only at hq); obtain ⟨hq1, hq2, hq3, hq4, hq5⟩ := hq; go_simp; try with_reducible rfl
              simp only [List.setIfInBounds_toArray, List.set_cons_zero, List.set_cons_succ]
              refine wpAnyN_takes (i := 11) (d := 105) (v := ?_) rfl rfl (by kernel_rfl) (fun _ _ _ h => h) (Or.inl ⟨by rfl, ?_⟩) hS ?_
              rotate_left
              · intro wq hq; (try dsimp only at hq); obtain ⟨hq1, hq2, hq3, hq4, hq5⟩ := hq; go_simp; try with_reducible rfl
              simp only [List.setIfInBounds_toArray, List.set_cons_zero, List.set_cons_succ]
              refine wpAnyN_takes (i := 12) (d := 106) (v := ?_) rfl rfl (by kernel_rfl) (fun _ _ _ h => h) (Or.inl ⟨by rfl, ?_⟩) hS ?_
              rotate_left
              · intro wq hq; (try dsimp only at hq); obtain ⟨hq1, hq2, hq3, hq4, hq5⟩ := hq; go_simp; try with_reducible rfl
              simp only [List.setIfInBounds_toArray, List.set_cons_zero, List.set_cons_succ]
              refine wpAnyN_takes (i := 13) (d := 107) (v := ?_) rfl rfl (by kernel_rfl) (fun _ _ _ h => h) (Or.inl ⟨by rfl, ?_⟩) hS ?_
              rotate_left
              · intro wq hq; (try dsimp only at hq); obtain ⟨hq1, hq2, hq3, hq4, hq5⟩ := hq; go_simp; try with_reducible rfl
              simp only [List.setIfInBounds_toArray, List.set_cons_zero, List.set_cons_succ]
              refine wpAnyN_takes (i := 14) (d := 108) (v := ?_) rfl rfl (by kernel_rfl) (fun _ _ _ h => h) (Or.inl ⟨by rfl, ?_⟩) hS ?_
              rotate_left
              · intro wq hq; (try dsimp only at hq); obtain ⟨hq1, hq2, hq3, hq4, hq5⟩ := hq; go_simp; try with_reducible rfl
              simp only [List.setIfInBounds_toArray, List.set_cons_zero, List.set_cons_succ]
              refine wpAnyN_takes (i := 15) (d := 109) (v := ?_) rfl rfl (by kernel_rfl) (fun _ _ _ h => h) (Or.inl ⟨by rfl, ?_⟩) hS ?_
              rotate_left
              · intro wq hq; (try dsimp only at hq); obtain ⟨hq1, hq2, hq3, hq4, hq5⟩ := hq; go_simp; try with_reducible rfl
              simp only [List.setIfInBounds_toArray, List.set_cons_zero, List.set_cons_succ]
              refine wpAnyN_takes (i := 16) (d := 110) (v := ?_) rfl rfl (by kernel_rfl) (fun _ _ _ h => h) (Or.inl ⟨by rfl, ?_⟩) hS ?_
              rotate_left
              · intro wq hq; (try dsimp only at hq); obtain ⟨hq1, hq2, hq3, hq4, hq5⟩ := hq; go_simp; try with_reducible rfl
              simp only [List.setIfInBounds_toArray, List.set_cons_zero, List.set_cons_succ]
              refine wpAnyN_one (i := 17) (by kernel_rfl) rfl (by rfl) (fun K hK => ?_)
              go_simp
              refine hK.out _ _ (fun _ => ⟨ya2, ya3, va1, va2, ka2⟩) ?_
              clear hK K hS
              try simp only [Act.put, List.setIfInBounds_toArray, List.set_cons_zero, List.set_cons_succ]
              refine wpAnyN_one (i := 18) (by kernel_rfl) rfl (by rfl) (fun K hK => ?_)
              refine wp_append_lies _ (.tmp 98) (.tmp 111) 30 rfl w0.heap.size 47 j0 _ 3 24 under_entries hj0 hy0 hy1 hy2 rfl (by omega) (.slice EA1 esj.length ec1) esj.length (esj.flatMap entCells) (by rfl) ((hown.alloc _).drew)
                    ⟨wr.heap.size, 0, none⟩ 1 1 [.int .i64 lo, .int .i64 ee, .int .i64 sl] (by rfl) (by rfl) (World.news_of_block (cs := #[.int .i64 lo, .int .i64 ee, .int .i64 sl]) (t := 47) (fr := (0, 0)) (heap_alloc_new wr _)) (by simp [Value.oneCell'])
                    (by omega) (by unfold maxLen; omega) (by omega) (by simp; have := HBB.out; omega) (wr.heap.size + 1) (by simp) ?_
              intro g cap' w4 hown' hgrow hat hlt2
              have hps := LD.out.d.tr.pushE (.cells #[.int .i64 lo, .int .i64 ee, .int .i64 sl] 47) (v := ⟨lo, ee, sl⟩) HV.out hown' hgrow hat
              have c8 := hps.2.2.1
              have f8 := hps.2.2.2
              have hu4 := (own_step (w := wr.drew) (o := .cells #[.int .i64 lo, .int .i64 ee, .int .i64 sl] 47) hgrow hat).1
              have LU := LD.out.upd4 hu4
              obtain ⟨-, -, yb2, yb3, -⟩ := LU.1.at5
              have vb1 := row_int LU.2.1 hlt
              have vb2 := row_int LU.2.2 hlt'
              rw [HEE.out] at vb1
              rw [HSL.out] at vb2
              have PS := Lib.hid hps
              clear hps hown' hgrow hat hu4 LU
              refine hK.out _ _ (fun _ => ⟨yb2, yb3, vb1, vb2, c8⟩) ?_
              clear hK K
              try simp only [Act.put, List.setIfInBounds_toArray, List.set_cons_zero, List.set_cons_succ]
              refine wpAnyN_one (i := 19) (by kernel_rfl) rfl (by rfl) (fun K hK => ?_)
              go_simp
              refine hK.out _ _ (fun _ => ⟨yb2, yb3, vb1, vb2, c8⟩) ?_
              clear hK K
              try simp only [Act.put, List.setIfInBounds_toArray, List.set_cons_zero, List.set_cons_succ]
              refine wpAnyN_one (i := 20) (by kernel_rfl) rfl (by rfl) (fun K hK => ?_)
              go_simp
              refine hK.out _ _ (fun _ => ⟨yb2, yb3, vb1, vb2, c8⟩) ?_
              clear hK K
              try simp only [Act.put, List.setIfInBounds_toArray, List.set_cons_zero, List.set_cons_succ]
              refine wpAnyN_one (i := 21) (by kernel_rfl) rfl (by rfl) (fun K hK => ?_)
              go_simp
              refine hK.out _ _ (fun h => absurd rfl h) ?_
              clear hK K
              refine wpAnyN_done (by kernel_rfl) ?_ _
              have L2 := Lib.hid (show LAt17 xs k Q0 es ns n w w0 (w4.setCell ⟨tb, 0, none⟩ (.slice (some ⟨g, 0, none⟩) (esj.length + 1) cap')) tb EA NA nb m g1 g2 g3 c1 c2 c3 (i + 1) ee (esj ++ [⟨lo, ee, sl⟩]) nsj nj (some ⟨g, 0, none⟩) cap' NA1 nc1 from
                ⟨LD.out.d.to HCN.out PS.out.1 PS.out.2.1, PS.out.2.1.blk LD.out.blk LD.out.nf, PS.out.2.1.notin LD.out.blk.lt LD.out.nf, LD.out.nn.moves PS.out.2.1, LD.out.n1, LD.out.n2, by rw [hin]; have := HLE.out; simp at this ⊢; omega, LD.out.nk, HV.out.2.1⟩)
              clear LD PS c8 f8 hlt2 hown ka2 kd2 z0 z1 z2 z3 z4 x1 x2 HLE HBB HCN ya2 ya3 va1 va2 yb2 yb3 vb1 vb2 za2 za3 xa1 xa2
              obtain ⟨z0, z1, z2, z3, z4⟩ := L2.out.blk.at5
              have x1 := row_int L2.out.nn.r1 hlt
              rw [HEE.out] at x1
              go_wp2
              go_roundw
              case rel => exact ⟨i + 1, _, _, _, _, _, _, _, _, by omega, by go_num, rfl, L2.out⟩
              case measure => simp [intOf]; omega
            | true =>
              rw [hin] at z0 hle
              simp only [if_true] at hle
              have HLE := Lib.hid hle
              have HV := Lib.hid (show WfI ee ∧ WfI sl from ⟨HVE.out, HVS.out⟩)
              have hok := (tells_down HX.out HXN.out k sl esj nsj L.out.n2).2
              have hes2 := down_es xs k sl esj nsj
              have HIH := Lib.hid (IH.out sl esj nsj nj tb EA1 NA1 ec1 nc1 wr L.out.d.tr L.out.n2 (by omega) L.out.nk HV.out.2)
              have HGC2 := HGC.out
              rw [if_neg (by rw [hin]; simp)] at HGC2
              obtain ⟨q, hq⟩ : ∃ q, downP xs k sl esj nsj = q := ⟨_, rfl⟩
              rw [hq] at hok hes2 HIH HGC2
              obtain ⟨qb, qe, qn, qk⟩ := q
              simp only at HGC2 hes2
              have HGD := Lib.hid HGC2
              have HOK := Lib.hid hok
              have HES := Lib.hid hes2
              have hwk : IntKind.i64.wrap ((k : Int) + 1 - 1) = (k : Int) := by rw [show (k : Int) + 1 - 1 = k by omega]; exact IntWalk.i64_in _ (by omega)
              have hwk2 : (k : Int) + 1 - 1 = k := by omega
              clear hle HGC HGC2 hok hes2 hq hsl
              have HEE := Lib.hid hee
              clear hee
              go_wp2_with fail
              refine HIH.out.mono ?_
              rintro e w3 ⟨n3, EA2, ec2, NA2, nc2, rfl, hn3, htr, hmv⟩
              simp only at htr hn3
              have HTR := Lib.hid htr
              have HMV := Lib.hid hmv
              have HN3 := Lib.hid hn3
              clear htr hmv hn3 HIH z0 z1 z2 z3 z4 x1 x2 hwk hwk2
              cases qb with
              | false =>
                have HE := Lib.hid (L.out.d.to (q' := (false, qe, qn, 0)) ⟨by rw [HGD.out]; rfl, by rw [HGD.out]; rfl, by rw [HGD.out]; rfl, by rw [HGD.out]; simp [HN3.out]⟩ HTR.out HMV.out).ends
                clear L HTR HMV HGD HOK HES
                go_wp2
                go_ret
                exact HE.out
              | true =>
                have L2 := Lib.hid (show LAt17 xs k Q0 es ns n w w0 w3 tb EA NA nb m g1 g2 g3 c1 c2 c3 (i + 1) ee qe qn n3 EA2 ec2 NA2 nc2 from
                  ⟨L.out.d.to ⟨by rw [HGD.out]; simp, by rw [HGD.out]; simp, by rw [HGD.out]; simp, by rw [HGD.out]; simp [HN3.out, Nat.add_assoc]⟩ HTR.out HMV.out, HMV.out.blk L.out.blk L.out.nf, HMV.out.notin L.out.blk.lt L.out.nf, L.out.nn.moves HMV.out,
                    by have := HOK.out.1; have := L.out.n1; simp only at *; omega, HOK.out.2.1, by rw [if_pos hin]; have := HES.out; have := HLE.out; omega, by have h1 := HOK.out.2.2; have h2 := HN3.out; have h3 := L.out.nk; simp only at h1; omega, HV.out.1⟩)
                clear L HTR HMV HGD HOK HES HN3 HLE
                obtain ⟨z0, z1, z2, z3, z4⟩ := L2.out.blk.at5
                rw [hin] at z0
                have x1 := row_int L2.out.nn.r1 hlt
                rw [HEE.out] at x1
                go_wp2
                go_roundw
                case rel => exact ⟨i + 1, _, _, _, _, _, _, _, _, by omega, by go_num, rfl, L2.out⟩
                case measure => simp [intOf]; omega
          · obtain rfl : i = m.ends.length := by omega
            have HE := Lib.hid (L.out.end' rfl)
            obtain ⟨z0, z1, z2, z3, z4⟩ := L.out.blk.at5
            clear L
            go_wp2
            go_ret
            exact HE.out
set_option maxRecDepth 100000 in
theorem down17_0 (xs : List (List Int)) (A : Option Addr) (len cap : Nat) (h : Int) (es : List EntV) (ns : List Int) (n tb : Nat) (EA NA : Option Addr) (ec nc : Nat) (w0 w : World) (ht : TreeAt w w0 tb es ns n EA ec NA nc) :
    Calls Try.prog 21 #[.pointer (some ⟨tb, 0, none⟩), .slice A len cap, .int .i64 h, .int .i64 0] w (DownPost17 (downP xs 0 h es ns) n w0 w tb EA NA) := by
  have HE := Lib.hid (show DownPost17 (downP xs 0 h es ns) n w0 w tb EA NA (.returned (.bool false)) w from ⟨n, EA, ec, NA, nc, rfl, rfl, ht, Moves.refl _ _⟩)
  clear ht
  go_enter Try.func21, Try.ntmps21
  go_wp2
  go_ret
  exact HE.out
theorem down17 (xs : List (List Int)) (hx : ∀ y ∈ xs, y.length = 28) (A : Option Addr) (len cap : Nat) (rows : List (RowV Int)) (w0 : World) (hl : RowsL w0 A len cap rows) (h28 : ∀ r ∈ rows, r.len = 28) (hlen : len ≤ 100) (hxs : rows.map (·.zs) = xs) (k : Nat) (hk : k ≤ 8) :
    ∀ (h : Int) (es : List EntV) (ns : List Int) (n tb : Nat) (EA NA : Option Addr) (ec nc : Nat) (w : World), TreeAt w w0 tb es ns n EA ec NA nc → ns.length ≤ 64 → es.length ≤ 8 * ns.length → n ≤ 26 * ns.length → WfI h →
      Calls Try.prog 21 #[.pointer (some ⟨tb, 0, none⟩), .slice A len cap, .int .i64 h, .int .i64 k] w (DownPost17 (downP xs k h es ns) n w0 w tb EA NA) := by
  induction k with
  | zero => exact fun h es ns n tb EA NA ec nc w ht _ _ _ _ => down17_0 xs A len cap h es ns n tb EA NA ec nc w0 w ht
  | succ k ih => exact fun h es ns n tb EA NA ec nc w ht hns hes hnk hw => down17_succ xs hx A len cap rows w0 hl h28 hlen hxs k (by omega) (ih (by omega)) h es ns n tb EA NA ec nc w ht hns hes hnk hw
end Go.Proofs.Ytldccemgfjmcdaa
