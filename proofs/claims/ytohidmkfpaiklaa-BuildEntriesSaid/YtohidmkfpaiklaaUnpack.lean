/- Layer 15 (slot): Unpack, called alone. -/
import Derived.Test.YtohidmkfpaiklaaWords
import Derived.StillTailTactics
namespace Go.Proofs.Ytohidmkfpaiklaa
open Go.RowKit
set_option linter.unusedSimpArgs false
set_option linter.unusedVariables false

def noNode : Value := .agg #[.bool false, .int .i64 0, .slice none 0 0, .slice none 0 0, .slice none 0 0]
/-- What Unpack answers. -/
def UnpackPost (w : World) (xs : List Int) (e : Ending) (w' : World) : Prop := Below w.heap.size w w' ∧
  ((unpackL xs = none ∧ e = .returned (.tuple #[noNode, .bool false])) ∨ ∃ n, unpackL xs = some n ∧ ∃ g1 g2 g3 c1 c2 c3,
    e = .returned (.tuple #[.agg (nodeCells n.inner n.lo (some ⟨g1, 0, none⟩) (some ⟨g2, 0, none⟩) (some ⟨g3, 0, none⟩) n.ends.length n.slots.length n.gaps.length c1 c2 c3), .bool true]) ∧ w.heap.size ≤ g1 ∧ g1 < g2 ∧ g2 < g3 ∧
    Row w' 2 1 g1 n.ends.length c1 (i64s n.ends) ∧ Row w' 2 1 g2 n.slots.length c2 (i64s n.slots) ∧ Row w' 2 1 g3 n.gaps.length c3 (i64s n.gaps))
theorem headOk_false {xs : List Int} (h : headOk xs = false) : unpackL xs = none := by
  unfold unpackL
  rw [if_neg (by rw [h]; simp)]

theorem ArgInts.sub {w : World} {b o n c : Nat} {xs : List Int} (h : Ints w (some ⟨b, o, none⟩) n c xs) {i k : Nat} : ∀ j u, (((xs.drop i).take k).map (Value.int .i64))[j]? = some u → w.cell? ((⟨b, o + i, none⟩ : Addr).add j) = some u := by
  intro j u hu
  have hadd : (⟨b, o + i, none⟩ : Addr).add j = ⟨b, o + (i + j), none⟩ := by unfold Addr.add; split <;> simp_all; omega
  rw [hadd]
  rcases h.reads with h0 | ⟨b', off, ha, _, hc⟩
  · simp only [List.map_eq_nil_iff] at h0
    subst h0
    simp at hu
  · injection ha with ha
    injection ha with h1 h2
    subst h1 h2
    refine hc (i + j) u ?_
    rw [List.getElem?_map, List.getElem?_take] at hu
    split at hu
    · rw [List.getElem?_drop] at hu
      rw [List.getElem?_map]
      exact hu
    · simp at hu
theorem wf_sub {xs : List Int} (h : ∀ x ∈ xs, (Lit.int .i64 x).wf = true) (i k : Nat) : ∀ x ∈ (xs.drop i).take k, (Lit.int .i64 x).wf = true := fun x hx => h x (List.mem_of_mem_drop (List.mem_of_mem_take hx))
theorem sub_len {xs : List Int} (h : xs.length = 28) {i k : Nat} (hi : i + k ≤ 28) : ((xs.drop i).take k).length = k := by simp; omega
theorem zeros_wf (k : Nat) : ∀ x ∈ zeros k, (Lit.int .i64 x).wf = true := fun x hx => by rw [List.eq_of_mem_replicate hx]; rfl
theorem wf_of_bounds {x : Int} (h : -9223372036854775808 ≤ x ∧ x ≤ 9223372036854775807) : (Lit.int .i64 x).wf = true := WalkArith.wf_i64 h
theorem NodeR.pack_wf {w : World} {n : NodeV} {a1 a2 a3 : Option Addr} {c1 c2 c3 : Nat} (h : NodeR w n a1 a2 a3 c1 c2 c3) (hf : n.formedB = true) : ∀ x ∈ n.pack, (Lit.int .i64 x).wf = true := by
  obtain ⟨h1, h2, -⟩ := NodeV.formed_iff hf
  intro x hx
  simp only [NodeV.pack, List.mem_append, List.mem_cons, List.not_mem_nil, or_false] at hx
  rcases hx with (((((h0 | h0) | h0) | h0) | h0) | h0) | h0
  · rcases h0 with h0 | h0
    · subst h0
      refine wf_of_bounds ?_
      unfold NodeV.head
      split <;> omega
    · subst h0
      exact h.lo
  · exact h.e.wf x h0
  · exact zeros_wf _ x h0
  · exact h.s.wf x h0
  · exact zeros_wf _ x h0
  · exact h.g.wf x h0
  · exact zeros_wf _ x h0
theorem put5 {w : World} {b : Nat} {ty : TypeId} {a0 a1 a2 a3 a4 : Value} (h : Blk w b ty #[a0, a1, a2, a3, a4]) (v0 v1 v2 v3 v4 : Value) : Blk (((((w.setCell ⟨b, 0, none⟩ v0).setCell ⟨b, 1, none⟩ v1).setCell ⟨b, 2, none⟩ v2).setCell ⟨b, 3, none⟩ v3).setCell ⟨b, 4, none⟩ v4) b ty #[v0, v1, v2, v3, v4] :=
  ((((h.put 0 v0).put 1 v1).put 2 v2).put 3 v3).put 4 v4
theorem put5_below {B : Nat} {w w' : World} {b : Nat} (h : Below B w w') (hb : B ≤ b) (v0 v1 v2 v3 v4 : Value) : Below B w (((((w'.setCell ⟨b, 0, none⟩ v0).setCell ⟨b, 1, none⟩ v1).setCell ⟨b, 2, none⟩ v2).setCell ⟨b, 3, none⟩ v3).setCell ⟨b, 4, none⟩ v4) :=
  ((((h.setCell (p := ⟨b, 0, none⟩) hb v0).setCell (p := ⟨b, 1, none⟩) hb v1).setCell (p := ⟨b, 2, none⟩) hb v2).setCell (p := ⟨b, 3, none⟩) hb v3).setCell (p := ⟨b, 4, none⟩) hb v4
theorem put5_row {w : World} {b g : Nat} {ty : TypeId} {z n cap : Nat} {cs : List Value} (h : Row w ty z g n cap cs) (hb : g ≠ b) (v0 v1 v2 v3 v4 : Value) : Row (((((w.setCell ⟨b, 0, none⟩ v0).setCell ⟨b, 1, none⟩ v1).setCell ⟨b, 2, none⟩ v2).setCell ⟨b, 3, none⟩ v3).setCell ⟨b, 4, none⟩ v4) ty z g n cap cs :=
  ((((h.far (p := ⟨b, 0, none⟩) hb v0).far (p := ⟨b, 1, none⟩) hb v1).far (p := ⟨b, 2, none⟩) hb v2).far (p := ⟨b, 3, none⟩) hb v3).far (p := ⟨b, 4, none⟩) hb v4
set_option maxRecDepth 100000 in
set_option maxHeartbeats 2000000 in
theorem slot_unpack (a : Option Addr) (len cap : Nat) (xs : List Int) (w : World) (h : Ints w a len cap xs) :
    Calls Try.prog 92 #[.slice a len cap] w (UnpackPost w xs) := by
  have hb : ∀ o : Obj, Below w.heap.size w (w.alloc o) := fun o => (Below.refl _ _).alloc (Nat.le_refl _) _
  have hm := h.hm
  have hl := h.le
  have hxl := h.hl
  unfold maxLen at hm
  cases hh : headOk xs with
  | false =>
    have HN := Lib.hid (headOk_false hh)
    by_cases h28 : len = 28
    · subst h28
      obtain ⟨b, o, rfl, hbl, q0⟩ := h.at_ (j := 0) (by decide)
      have hx0 : xs.getD 0 0 < 16 ∨ 16 ≤ xs.getD 0 0 ∧ 130 < xs.getD 0 0 := by
        unfold headOk at hh
        rw [decide_eq_true hxl, Bool.true_and] at hh
        by_cases h1 : 16 ≤ xs.getD 0 0
        · rw [decide_eq_true h1, Bool.true_and, decide_eq_false_iff_not] at hh
          omega
        · omega
      simp only [Nat.add_zero] at q0
      clear hh hxl h
      generalize xs.getD 0 0 = x at *
      have hc28 : 28 ≤ cap := hl
      rcases hx0 with h1 | ⟨h1, h2⟩
      · go_enter Try.func92, Try.ntmps92
        go_wp2
        exact bodyPost_ret (v := .tuple #[noNode, .bool false]) (by simp [results, Try.results92, go_sem, noNode]) rfl ⟨hb _, .inl ⟨HN.out, rfl⟩⟩
      · have h3 : ¬ x < 16 := by omega
        go_enter Try.func92, Try.ntmps92
        go_wp2
        exact bodyPost_ret (v := .tuple #[noNode, .bool false]) (by simp [results, Try.results92, go_sem, noNode]) rfl ⟨hb _, .inl ⟨HN.out, rfl⟩⟩
    · have g1 : ((len : Int) != 28) = true := bne_iff_ne.2 (by omega)
      clear hh hxl h h28
      go_enter Try.func92, Try.ntmps92
      go_wp2
      exact bodyPost_ret (v := .tuple #[noNode, .bool false]) (by simp [results, Try.results92, go_sem, noNode]) rfl ⟨hb _, .inl ⟨HN.out, rfl⟩⟩
  | true =>
    have hh' := hh
    unfold headOk at hh'
    simp only [Bool.and_eq_true, decide_eq_true_eq] at hh'
    obtain ⟨⟨h28, hx1⟩, hx2⟩ := hh'
    obtain rfl : len = 28 := by omega
    obtain ⟨b, o, rfl, hbl, q0⟩ := h.at_ (j := 0) (by decide)
    obtain ⟨b', o', e', -, q1⟩ := h.at_ (j := 1) (by decide)
    obtain ⟨rfl, rfl⟩ : b' = b ∧ o' = o := by simpa using e'.symm
    have HND := Lib.hid (show nodeOf xs = ⟨xs.getD 0 0 % 16 == 2, xs.getD 1 0, (xs.drop 2).take (xs.getD 0 0 / 16).toNat, (xs.drop 10).take (xs.getD 0 0 / 16).toNat, (xs.drop 18).take (xs.getD 0 0 / 16).toNat⟩ from rfl)
    simp only [Nat.add_zero] at q0
    have HH := Lib.hid h
    have HX := Lib.hid hh
    have hwf1 := h.wf_at (i := 1) (by decide)
    clear hh h28 h e'
    generalize xs.getD 0 0 = x0 at *
    generalize xs.getD 1 0 = x1 at *
    obtain ⟨K, hK⟩ : ∃ K : Nat, x0 / 16 = (K : Int) := ⟨(x0 / 16).toNat, by omega⟩
    have hK1 : 1 ≤ K ∧ K ≤ 8 := by omega
    obtain ⟨hK1, hK8⟩ := hK1
    have hKi : (K : Int) ≤ 8 := by omega
    have hKi1 : (1 : Int) ≤ K := by omega
    obtain ⟨inn, hinn⟩ : ∃ inn, (x0 % 16 == 2) = inn := ⟨_, rfl⟩
    rw [hK, hinn, Int.toNat_natCast] at HND
    have g1 : ¬ x0 < 16 := by omega
    have g2 : ¬ 130 < x0 := by omega
    have hc28 : 28 ≤ cap := hl
    go_enter Try.func92, Try.ntmps92
    go_upto_region 4 with fail
    rw [hK]
    go_region
    have hR := (Blk.new w 43 #[.bool false, .int .i64 0, .slice none 0 0, .slice none 0 0, .slice none 0 0]).alloc (.cells #[.bool inn, .int .i64 x1, .slice none 0 0, .slice none 0 0, .slice none 0 0] 43)
    have hN := Blk.new (w.alloc (.cells #[.bool false, .int .i64 0, .slice none 0 0, .slice none 0 0, .slice none 0 0] 43)) 43 #[.bool inn, .int .i64 x1, .slice none 0 0, .slice none 0 0, .slice none 0 0]
    have hw := (hb (.cells #[.bool false, .int .i64 0, .slice none 0 0, .slice none 0 0, .slice none 0 0] 43)).alloc (by simp) (.cells #[.bool inn, .int .i64 x1, .slice none 0 0, .slice none 0 0, .slice none 0 0] 43)
    have hR1 := hR.drew
    have hN1 := hN.drew
    have hw1 := below_drewN hw 1
    change Below w.heap.size w (World.drew _) at hw1
    clear hR hN hw
    generalize ((w.alloc (.cells #[.bool false, .int .i64 0, .slice none 0 0, .slice none 0 0, .slice none 0 0] 43)).alloc (.cells #[.bool inn, .int .i64 x1, .slice none 0 0, .slice none 0 0, .slice none 0 0] 43)).drew = w1 at *
    simp only [World.size_alloc] at hN1
    obtain ⟨rb, hrb⟩ : ∃ rb, w.heap.size = rb := ⟨_, rfl⟩
    rw [hrb] at hR1 hN1 hw1 hbl ⊢
    have HRB := Lib.hid hrb
    have hrn : rb ≠ rb + 1 := by omega
    have hrn2 : rb ≤ rb + 1 := by omega
    have hwfx1 := Lib.hid hwf1
    clear hrb hK hinn hwf1 q0 q1 g1 g2
    generalize rb + 1 = nb at *
    go_upto_region 5 with fail
    have hC1 := HH.out.below (by rw [HRB.out]; exact hw1) (Nat.le_refl _)
    have HC1 := Lib.hid (clone_some ⟨b', o' + 2, none⟩ K (cap - 2) ((xs.drop 2).take K) w1 (sub_len hxl (by omega)) (by omega) hC1.sub)
    clear hC1
    go_wp2_with fail
    refine HC1.out.mono ?_
    rintro e w2 ⟨g1, c1, rfl, hg1, hr1, hb1⟩
    have hw2 := below_then hw1 hb1 (by rw [HRB.out]; exact Nat.le_refl _)
    have hN2 := hN1.below hb1 hN1.lt
    have hR2 := hR1.below hb1 hR1.lt
    have hgn1 : nb < g1 := by have := hN1.lt; omega
    have s1 := hN2.at_ (i := 2) rfl
    simp only [List.getElem_toArray, List.getElem_cons_succ, List.getElem_cons_zero] at s1
    have f1 := hN2.free 2
    have hN3 := hN2.put 2 (.slice (some ⟨g1, 0, none⟩) K c1)
    have hR3 := hR2.far (p := ⟨nb, 2, none⟩) hrn (.slice (some ⟨g1, 0, none⟩) K c1)
    have hr1' := hr1.far (p := ⟨nb, 2, none⟩) (show g1 ≠ nb by omega) (.slice (some ⟨g1, 0, none⟩) K c1)
    have hw3 := hw2.setCell (p := ⟨nb, 2, none⟩) hrn2 (.slice (some ⟨g1, 0, none⟩) K c1)
    have hgl1 := hr1.lt
    clear hN1 hR1 hw1 hN2 hR2 hw2 hr1 hb1 HC1
    have hr1 := hr1'
    clear hr1'
    change Blk _ nb _ #[.bool inn, .int .i64 x1, .slice (some ⟨g1, 0, none⟩) K c1, .slice none 0 0, .slice none 0 0] at hN3
    go_upto_region 6 with fail
    clear s1 f1
    have hsz1 : w2.heap.size ≤ (w2.setCell ⟨nb, 2, none⟩ (.slice (some ⟨g1, 0, none⟩) K c1)).heap.size := by simp [World.setCell]
    generalize w2.setCell ⟨nb, 2, none⟩ (.slice (some ⟨g1, 0, none⟩) K c1) = w3 at *
    go_upto_region 6 with fail
    have hC2 := HH.out.below (by rw [HRB.out]; exact hw3) (Nat.le_refl _)
    have HC2 := Lib.hid (clone_some ⟨b', o' + 10, none⟩ K (cap - 10) ((xs.drop 10).take K) w3 (sub_len hxl (by omega)) (by omega) hC2.sub)
    clear hC2
    go_wp2_with fail
    refine HC2.out.mono ?_
    rintro e w4 ⟨g2, c2, rfl, hg2, hr2, hb2⟩
    have hw4 := below_then hw3 hb2 (by rw [HRB.out]; exact Nat.le_refl _)
    have hN4 := hN3.below hb2 hN3.lt
    have hR4 := hR3.below hb2 hR3.lt
    have hgn2 : nb < g2 := by have := hN3.lt; omega
    have s2 := hN4.at_ (i := 3) rfl
    simp only [List.getElem_toArray, List.getElem_cons_succ, List.getElem_cons_zero] at s2
    have f2 := hN4.free 3
    have hN5 := hN4.put 3 (.slice (some ⟨g2, 0, none⟩) K c2)
    have hR5 := hR4.far (p := ⟨nb, 3, none⟩) hrn (.slice (some ⟨g2, 0, none⟩) K c2)
    have hr2' := hr2.far (p := ⟨nb, 3, none⟩) (show g2 ≠ nb by omega) (.slice (some ⟨g2, 0, none⟩) K c2)
    have hw5 := hw4.setCell (p := ⟨nb, 3, none⟩) hrn2 (.slice (some ⟨g2, 0, none⟩) K c2)
    have hgl2 := hr2.lt
    have hr1' := (hr1.upd (Upd.of_below hb2 (F := [])) (by simp)).far (p := ⟨nb, 3, none⟩) (show g1 ≠ nb by omega) (.slice (some ⟨g2, 0, none⟩) K c2)
    clear hr1
    have hr1 := hr1'
    clear hr1'
    clear hN3 hR3 hw3 hN4 hR4 hw4 hr2 hb2 HC2
    have hr2 := hr2'
    clear hr2'
    change Blk _ nb _ #[.bool inn, .int .i64 x1, .slice (some ⟨g1, 0, none⟩) K c1, .slice (some ⟨g2, 0, none⟩) K c2, .slice none 0 0] at hN5
    go_upto_region 7 with fail
    clear s2 f2
    have hsz2 : w4.heap.size ≤ (w4.setCell ⟨nb, 3, none⟩ (.slice (some ⟨g2, 0, none⟩) K c2)).heap.size := by simp [World.setCell]
    generalize w4.setCell ⟨nb, 3, none⟩ (.slice (some ⟨g2, 0, none⟩) K c2) = w5 at *
    go_upto_region 7 with fail
    have hC3 := HH.out.below (by rw [HRB.out]; exact hw5) (Nat.le_refl _)
    have HC3 := Lib.hid (clone_some ⟨b', o' + 18, none⟩ K (cap - 18) ((xs.drop 18).take K) w5 (sub_len hxl (by omega)) (by omega) hC3.sub)
    clear hC3
    go_wp2_with fail
    refine HC3.out.mono ?_
    rintro e w6 ⟨g3, c3, rfl, hg3, hr3, hb3⟩
    have hw6 := below_then hw5 hb3 (by rw [HRB.out]; exact Nat.le_refl _)
    have hN6 := hN5.below hb3 hN5.lt
    have hR6 := hR5.below hb3 hR5.lt
    have hgn3 : nb < g3 := by have := hN5.lt; omega
    have s3 := hN6.at_ (i := 4) rfl
    simp only [List.getElem_toArray, List.getElem_cons_succ, List.getElem_cons_zero] at s3
    have f3 := hN6.free 4
    have hN7 := hN6.put 4 (.slice (some ⟨g3, 0, none⟩) K c3)
    have hR7 := hR6.far (p := ⟨nb, 4, none⟩) hrn (.slice (some ⟨g3, 0, none⟩) K c3)
    have hr3' := hr3.far (p := ⟨nb, 4, none⟩) (show g3 ≠ nb by omega) (.slice (some ⟨g3, 0, none⟩) K c3)
    have hw7 := hw6.setCell (p := ⟨nb, 4, none⟩) hrn2 (.slice (some ⟨g3, 0, none⟩) K c3)
    have hgl3 := hr3.lt
    have hr1' := (hr1.upd (Upd.of_below hb3 (F := [])) (by simp)).far (p := ⟨nb, 4, none⟩) (show g1 ≠ nb by omega) (.slice (some ⟨g3, 0, none⟩) K c3)
    clear hr1
    have hr1 := hr1'
    clear hr1'
    have hr2' := (hr2.upd (Upd.of_below hb3 (F := [])) (by simp)).far (p := ⟨nb, 4, none⟩) (show g2 ≠ nb by omega) (.slice (some ⟨g3, 0, none⟩) K c3)
    clear hr2
    have hr2 := hr2'
    clear hr2'
    clear hN5 hR5 hw5 hN6 hR6 hw6 hr3 hb3 HC3
    have hr3 := hr3'
    clear hr3'
    change Blk _ nb _ #[.bool inn, .int .i64 x1, .slice (some ⟨g1, 0, none⟩) K c1, .slice (some ⟨g2, 0, none⟩) K c2, .slice (some ⟨g3, 0, none⟩) K c3] at hN7
    go_upto_region 8 with fail
    clear s3 f3
    have hsz3 : w6.heap.size ≤ (w6.setCell ⟨nb, 4, none⟩ (.slice (some ⟨g3, 0, none⟩) K c3)).heap.size := by simp [World.setCell]
    generalize w6.setCell ⟨nb, 4, none⟩ (.slice (some ⟨g3, 0, none⟩) K c3) = w7 at *
    obtain ⟨L1, hL1⟩ : ∃ L, (xs.drop 2).take K = L := ⟨_, rfl⟩
    obtain ⟨L2, hL2⟩ : ∃ L, (xs.drop 10).take K = L := ⟨_, rfl⟩
    obtain ⟨L3, hL3⟩ : ∃ L, (xs.drop 18).take K = L := ⟨_, rfl⟩
    have l1 : L1.length = K := by rw [← hL1]; exact sub_len hxl (by omega)
    have l2 : L2.length = K := by rw [← hL2]; exact sub_len hxl (by omega)
    have l3 : L3.length = K := by rw [← hL3]; exact sub_len hxl (by omega)
    have k1 : ∀ x ∈ L1, (Lit.int .i64 x).wf = true := by rw [← hL1]; exact wf_sub HH.out.wf _ _
    have k2 : ∀ x ∈ L2, (Lit.int .i64 x).wf = true := by rw [← hL2]; exact wf_sub HH.out.wf _ _
    have k3 : ∀ x ∈ L3, (Lit.int .i64 x).wf = true := by rw [← hL3]; exact wf_sub HH.out.wf _ _
    rw [hL1, hL2, hL3] at HND
    rw [hL1] at hr1
    rw [hL2] at hr2
    rw [hL3] at hr3
    have hx1 : (Lit.int .i64 x1).wf = true := hwfx1.out
    have HNR := Lib.hid (show NodeR w7 ⟨inn, x1, L1, L2, L3⟩ (some ⟨g1, 0, none⟩) (some ⟨g2, 0, none⟩) (some ⟨g3, 0, none⟩) c1 c2 c3 from
      ⟨hx1, by simpa only [l1] using ArgInts.ofRow hr1 k1, by simpa only [l2] using ArgInts.ofRow hr2 k2, by simpa only [l3] using ArgInts.ofRow hr3 k3⟩)
    have HCP := slot_pack ⟨inn, x1, L1, L2, L3⟩ _ _ _ _ _ _ w7 HNR.out
    simp only [l1, l2, l3, nodeCells] at HCP
    have HCP := Lib.hid HCP
    have HR1 := Lib.hid hr1
    have HR2 := Lib.hid hr2
    have HR3 := Lib.hid hr3
    have HW7 := Lib.hid hw7
    have HN7 := Lib.hid hN7
    have HR7 := Lib.hid hR7
    have HL := Lib.hid (And.intro l1 (And.intro l2 l3))
    clear hL1 hL2 hL3 l1 l2 l3 k1 k2 k3 hx1 hr1 hr2 hr3 hw7 hR7 hwfx1
    have n0 := hN7.at_ (i := 0) rfl
    have n1 := hN7.at_ (i := 1) rfl
    have n2 := hN7.at_ (i := 2) rfl
    have n3 := hN7.at_ (i := 3) rfl
    have n4 := hN7.at_ (i := 4) rfl
    simp only [List.getElem_toArray, List.getElem_cons_succ, List.getElem_cons_zero] at n0 n1 n2 n3 n4
    go_wp2_with fail
    refine HCP.out.mono ?_
    rintro e w8 ⟨hb8, hcase⟩
    have HW8 := Lib.hid (below_then HW7.out hb8 (by have := HW7.out.size; have := HRB.out; omega))
    have H28 := Lib.hid hxl
    have HX8 := Lib.hid (HH.out.below (by rw [HRB.out]; exact HW8.out) (Nat.le_refl _))
    have HB8 := Lib.hid hb8
    rcases hcase with ⟨hf, rfl⟩ | ⟨hf, g, cg, rfl, hg, hrow⟩
    · have HN := Lib.hid (show unpackL xs = none by
        unfold unpackL
        rw [HND.out, if_neg (by rw [hf]; simp)])
      have he : decide (([] : List Int) = xs) = false := by
        rw [decide_eq_false_iff_not]
        intro hc
        rw [← hc] at hxl
        exact absurd hxl (by decide)
      have hI : Ints w8 none 0 0 [] := ⟨rfl, Nat.le_refl _, Nat.zero_le _, by simp, .inl rfl⟩
      have HE := slices_equal none _ 0 28 0 cap [] xs w8 hI HX8.out
      rw [he] at HE
      clear hf hb8 hxl he hI
      have HE := Lib.hid HE
      go_wp2_with fail
      refine HE.out.mono ?_
      rintro e w9 ⟨rfl, q, rfl⟩
      have HW9 := Lib.hid (below_drewN HW8.out q)
      have hr9 := (HR7.out.below HB8.out HR7.out.lt)
      have hr9' : Blk (w8.drewN q) rb 43 #[.bool false, .int .i64 0, .slice none 0 0, .slice none 0 0, .slice none 0 0] := hr9
      generalize w8.drewN q = w9 at *
      clear hr9
      have m0 := hr9'.at_ (i := 0) rfl
      have m1 := hr9'.at_ (i := 1) rfl
      have m2 := hr9'.at_ (i := 2) rfl
      have m3 := hr9'.at_ (i := 3) rfl
      have m4 := hr9'.at_ (i := 4) rfl
      simp only [List.getElem_toArray, List.getElem_cons_succ, List.getElem_cons_zero] at m0 m1 m2 m3 m4
      have f0 := hr9'.free 0
      have f1 := hr9'.free 1
      have f2 := hr9'.free 2
      have f3 := hr9'.free 3
      have f4 := hr9'.free 4
      go_wp2
      have hz := put5 hr9' (.bool false) (.int .i64 0) (.slice none 0 0) (.slice none 0 0) (.slice none 0 0)
      have HWZ := Lib.hid (put5_below HW9.out (Nat.le_refl _) (.bool false) (.int .i64 0) (.slice none 0 0) (.slice none 0 0) (.slice none 0 0))
      generalize ((((w9.setCell ⟨rb, 0, none⟩ (.bool false)).setCell ⟨rb, 1, none⟩ (.int .i64 0)).setCell ⟨rb, 2, none⟩ (.slice none 0 0)).setCell ⟨rb, 3, none⟩ (.slice none 0 0)).setCell ⟨rb, 4, none⟩ (.slice none 0 0) = w10 at *
      clear f0 f1 f2 f3 f4 m0 m1 m2 m3 m4
      have z0 := hz.at_ (i := 0) rfl
      have z1 := hz.at_ (i := 1) rfl
      have z2 := hz.at_ (i := 2) rfl
      have z3 := hz.at_ (i := 3) rfl
      have z4 := hz.at_ (i := 4) rfl
      simp only [List.getElem_toArray, List.getElem_cons_succ, List.getElem_cons_zero] at z0 z1 z2 z3 z4
      exact bodyPost_ret (v := .tuple #[noNode, .bool false]) (by simp [results, Try.results92, go_sem, noNode, z0, z1, z2, z3, z4]) rfl ⟨by rw [HRB.out]; exact HWZ.out, .inl ⟨HN.out, rfl⟩⟩
    · have hI : Ints w8 (some ⟨g, 0, none⟩) 28 cg (NodeV.pack ⟨inn, x1, L1, L2, L3⟩) := ArgInts.ofRow hrow (HNR.out.pack_wf hf)
      have HE := slices_equal _ _ 28 28 cg cap _ xs w8 hI HX8.out
      by_cases hp : NodeV.pack ⟨inn, x1, L1, L2, L3⟩ = xs
      · have HS := Lib.hid (show unpackL xs = some ⟨inn, x1, L1, L2, L3⟩ by
          unfold unpackL
          rw [HND.out, if_pos ⟨HX.out, hf, hp⟩])
        rw [decide_eq_true hp] at HE
        have hg8 : g < w8.heap.size := hrow.lt
        clear hf hb8 hxl hI hrow hp
        have HE' := Lib.hid HE
        clear HE
        go_wp2_with fail
        refine HE'.out.mono ?_
        rintro e w9 ⟨rfl, q, rfl⟩
        have HW9 := Lib.hid (below_drewN HW8.out q)
        have hr9 := HR7.out.below HB8.out HR7.out.lt
        have hr9' : Blk (w8.drewN q) rb 43 #[.bool false, .int .i64 0, .slice none 0 0, .slice none 0 0, .slice none 0 0] := hr9
        have hn9 := HN7.out.below HB8.out HN7.out.lt
        have hn9' : Blk (w8.drewN q) nb 43 #[.bool inn, .int .i64 x1, .slice (some ⟨g1, 0, none⟩) K c1, .slice (some ⟨g2, 0, none⟩) K c2, .slice (some ⟨g3, 0, none⟩) K c3] := hn9
        have HB9 := Lib.hid (below_drewN HB8.out q)
        generalize w8.drewN q = w9 at *
        clear hr9 hn9
        have k0 := hn9'.at_ (i := 0) rfl
        have k1 := hn9'.at_ (i := 1) rfl
        have k2 := hn9'.at_ (i := 2) rfl
        have k3 := hn9'.at_ (i := 3) rfl
        have k4 := hn9'.at_ (i := 4) rfl
        simp only [List.getElem_toArray, List.getElem_cons_succ, List.getElem_cons_zero] at k0 k1 k2 k3 k4
        have m0 := hr9'.at_ (i := 0) rfl
        have m1 := hr9'.at_ (i := 1) rfl
        have m2 := hr9'.at_ (i := 2) rfl
        have m3 := hr9'.at_ (i := 3) rfl
        have m4 := hr9'.at_ (i := 4) rfl
        simp only [List.getElem_toArray, List.getElem_cons_succ, List.getElem_cons_zero] at m0 m1 m2 m3 m4
        have f0 := hr9'.free 0
        have f1 := hr9'.free 1
        have f2 := hr9'.free 2
        have f3 := hr9'.free 3
        have f4 := hr9'.free 4
        go_wp2
        have hz := put5 hr9' (.bool inn) (.int .i64 x1) (.slice (some ⟨g1, 0, none⟩) K c1) (.slice (some ⟨g2, 0, none⟩) K c2) (.slice (some ⟨g3, 0, none⟩) K c3)
        have HWZ := Lib.hid (put5_below HW9.out (Nat.le_refl _) (.bool inn) (.int .i64 x1) (.slice (some ⟨g1, 0, none⟩) K c1) (.slice (some ⟨g2, 0, none⟩) K c2) (.slice (some ⟨g3, 0, none⟩) K c3))
        have hr1 := Lib.hid (put5_row (HR1.out.upd (Upd.of_below HB9.out (F := [])) (by simp)) (show g1 ≠ rb by omega) (.bool inn) (.int .i64 x1) (.slice (some ⟨g1, 0, none⟩) K c1) (.slice (some ⟨g2, 0, none⟩) K c2) (.slice (some ⟨g3, 0, none⟩) K c3))
        have hr2 := Lib.hid (put5_row (HR2.out.upd (Upd.of_below HB9.out (F := [])) (by simp)) (show g2 ≠ rb by omega) (.bool inn) (.int .i64 x1) (.slice (some ⟨g1, 0, none⟩) K c1) (.slice (some ⟨g2, 0, none⟩) K c2) (.slice (some ⟨g3, 0, none⟩) K c3))
        have hr3 := Lib.hid (put5_row (HR3.out.upd (Upd.of_below HB9.out (F := [])) (by simp)) (show g3 ≠ rb by omega) (.bool inn) (.int .i64 x1) (.slice (some ⟨g1, 0, none⟩) K c1) (.slice (some ⟨g2, 0, none⟩) K c2) (.slice (some ⟨g3, 0, none⟩) K c3))
        generalize ((((w9.setCell ⟨rb, 0, none⟩ (.bool inn)).setCell ⟨rb, 1, none⟩ (.int .i64 x1)).setCell ⟨rb, 2, none⟩ (.slice (some ⟨g1, 0, none⟩) K c1)).setCell ⟨rb, 3, none⟩ (.slice (some ⟨g2, 0, none⟩) K c2)).setCell ⟨rb, 4, none⟩ (.slice (some ⟨g3, 0, none⟩) K c3) = w10 at *
        clear f0 f1 f2 f3 f4 m0 m1 m2 m3 m4
        have z0 := hz.at_ (i := 0) rfl
        have z1 := hz.at_ (i := 1) rfl
        have z2 := hz.at_ (i := 2) rfl
        have z3 := hz.at_ (i := 3) rfl
        have z4 := hz.at_ (i := 4) rfl
        simp only [List.getElem_toArray, List.getElem_cons_succ, List.getElem_cons_zero] at z0 z1 z2 z3 z4
        refine bodyPost_ret (v := .tuple #[.agg #[.bool inn, .int .i64 x1, .slice (some ⟨g1, 0, none⟩) K c1, .slice (some ⟨g2, 0, none⟩) K c2, .slice (some ⟨g3, 0, none⟩) K c3], .bool true]) (by simp [results, Try.results92, go_sem, z0, z1, z2, z3, z4]) rfl ⟨by rw [HRB.out]; exact HWZ.out, .inr ⟨_, HS.out, g1, g2, g3, c1, c2, c3, ?_⟩⟩
        obtain ⟨l1, l2, l3⟩ := HL.out
        simp only [l1, l2, l3, nodeCells]
        exact ⟨trivial, by rw [HRB.out]; omega, by omega, by omega, hr1.out, hr2.out, hr3.out⟩
      · have HN := Lib.hid (show unpackL xs = none by
          unfold unpackL
          rw [HND.out, if_neg (fun h => hp h.2.2)])
        rw [decide_eq_false hp] at HE
        clear hf hb8 hxl hI hrow hp
        have HE' := Lib.hid HE
        clear HE
        go_wp2_with fail
        refine HE'.out.mono ?_
        rintro e w9 ⟨rfl, q, rfl⟩
        have HW9 := Lib.hid (below_drewN HW8.out q)
        have hr9 := (HR7.out.below HB8.out HR7.out.lt)
        have hr9' : Blk (w8.drewN q) rb 43 #[.bool false, .int .i64 0, .slice none 0 0, .slice none 0 0, .slice none 0 0] := hr9
        generalize w8.drewN q = w9 at *
        clear hr9
        have m0 := hr9'.at_ (i := 0) rfl
        have m1 := hr9'.at_ (i := 1) rfl
        have m2 := hr9'.at_ (i := 2) rfl
        have m3 := hr9'.at_ (i := 3) rfl
        have m4 := hr9'.at_ (i := 4) rfl
        simp only [List.getElem_toArray, List.getElem_cons_succ, List.getElem_cons_zero] at m0 m1 m2 m3 m4
        have f0 := hr9'.free 0
        have f1 := hr9'.free 1
        have f2 := hr9'.free 2
        have f3 := hr9'.free 3
        have f4 := hr9'.free 4
        go_wp2
        have hz := put5 hr9' (.bool false) (.int .i64 0) (.slice none 0 0) (.slice none 0 0) (.slice none 0 0)
        have HWZ := Lib.hid (put5_below HW9.out (Nat.le_refl _) (.bool false) (.int .i64 0) (.slice none 0 0) (.slice none 0 0) (.slice none 0 0))
        generalize ((((w9.setCell ⟨rb, 0, none⟩ (.bool false)).setCell ⟨rb, 1, none⟩ (.int .i64 0)).setCell ⟨rb, 2, none⟩ (.slice none 0 0)).setCell ⟨rb, 3, none⟩ (.slice none 0 0)).setCell ⟨rb, 4, none⟩ (.slice none 0 0) = w10 at *
        clear f0 f1 f2 f3 f4 m0 m1 m2 m3 m4
        have z0 := hz.at_ (i := 0) rfl
        have z1 := hz.at_ (i := 1) rfl
        have z2 := hz.at_ (i := 2) rfl
        have z3 := hz.at_ (i := 3) rfl
        have z4 := hz.at_ (i := 4) rfl
        simp only [List.getElem_toArray, List.getElem_cons_succ, List.getElem_cons_zero] at z0 z1 z2 z3 z4
        exact bodyPost_ret (v := .tuple #[noNode, .bool false]) (by simp [results, Try.results92, go_sem, noNode, z0, z1, z2, z3, z4]) rfl ⟨by rw [HRB.out]; exact HWZ.out, .inl ⟨HN.out, rfl⟩⟩
end Go.Proofs.Ytohidmkfpaiklaa
