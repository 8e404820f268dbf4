/- Layer 15 (slot): Formed, filled, Pack, Unpack, PackArea, UnpackArea, Largest, each called alone; and the reference's. -/
import Derived.Test.YtohidmkfpaiklaaSlotP
import Derived.Test.YtohidmkfpaiklaaCell
import Derived.Test.YtohidmkfpaiklaaOwn
import Derived.Test.YtohidmkfpaiklaaLater
import Derived.Test.YtohidmkfpaiklaaZeros
import Derived.Deep.RegionHeld3
import Derived.Deep.CutBlock
namespace Go.Proofs.Ytohidmkfpaiklaa
open Go.RowKit
set_option linter.unusedSimpArgs false
set_option linter.unusedVariables false

abbrev Ints (w : World) (a : Option Addr) (n cap : Nat) (zs : List Int) : Prop := ArgInts .i64 w a n cap zs
/-- A node, as it is handed on: its slices read as its lists. -/
structure NodeR (w : World) (n : NodeV) (a1 a2 a3 : Option Addr) (c1 c2 c3 : Nat) : Prop where
  lo : (Lit.int .i64 n.lo).wf = true
  e : Ints w a1 n.ends.length c1 n.ends
  s : Ints w a2 n.slots.length c2 n.slots
  g : Ints w a3 n.gaps.length c3 n.gaps
def nodeCells (inner : Bool) (lo : Int) (a1 a2 a3 : Option Addr) (k1 k2 k3 c1 c2 c3 : Nat) : Array Value := #[.bool inner, .int .i64 lo, .slice a1 k1 c1, .slice a2 k2 c2, .slice a3 k3 c3]
def NodeAt (w : World) (v : Value) (n : NodeV) : Prop := ∃ a1 a2 a3 c1 c2 c3, v = .agg (nodeCells n.inner n.lo a1 a2 a3 n.ends.length n.slots.length n.gaps.length c1 c2 c3) ∧ NodeR w n a1 a2 a3 c1 c2 c3
theorem NodeR.below {w w' : World} {n : NodeV} {a1 a2 a3 : Option Addr} {c1 c2 c3 : Nat} (h : NodeR w n a1 a2 a3 c1 c2 c3) (hb : Below w.heap.size w w') : NodeR w' n a1 a2 a3 c1 c2 c3 :=
  ⟨h.lo, h.e.below hb (Nat.le_refl _), h.s.below hb (Nat.le_refl _), h.g.below hb (Nat.le_refl _)⟩
theorem ArgInts.wf_at {k : IntKind} {w : World} {a : Option Addr} {n c : Nat} {zs : List Int} (h : ArgInts k w a n c zs) {i : Nat} (hi : i < n) : (Lit.int k (zs.getD i 0)).wf = true := by
  have hl := h.hl
  exact h.wf _ (by rw [getD_of (by omega)]; exact List.getElem_mem _)

theorem ret_bool {a b : Bool} (h : a = b) : Ending.returned (.bool a) = .returned (.bool b) := by rw [h]
theorem ret_int {k : IntKind} {a b : Int} (h : a = b) : Ending.returned (.int k a) = .returned (.int k b) := by rw [h]
theorem below_drewN {B : Nat} {w w' : World} (h : Below B w w') (n : Nat) : Below B w (w'.drewN n) := ⟨h.os, h.tape, h.output, h.size, h.block⟩
set_option maxRecDepth 100000 in
set_option maxHeartbeats 1000000 in
theorem slot_entry (n : NodeV) (a1 a2 a3 : Option Addr) (c1 c2 c3 i : Nat) (f : Int) (w : World) (h : NodeR w n a1 a2 a3 c1 c2 c3) (hi : i < n.ends.length) (hs : n.slots.length = n.ends.length) (hg : n.gaps.length = n.ends.length) (hf : 0 ≤ f) :
    Calls Try.prog 96 #[.agg (nodeCells n.inner n.lo a1 a2 a3 n.ends.length n.slots.length n.gaps.length c1 c2 c3), .int .i64 i, .int .i64 f] w fun e w' =>
      e = .returned (.bool (entryB n.inner (n.ends.getD i 0) (n.slots.getD i 0) (n.gaps.getD i 0) f)) ∧ Below w.heap.size w w' := by
  obtain ⟨b1, o1, rfl, -, q1⟩ := h.e.at_ hi
  obtain ⟨b2, o2, rfl, -, q2⟩ := h.s.at_ (j := i) (by omega)
  obtain ⟨b3, o3, rfl, -, q3⟩ := h.g.at_ (j := i) (by omega)
  have be := bounds_i64 (h.e.wf_at hi)
  have hm := h.e.hm
  have hl := h.e.le
  unfold maxLen at hm
  rw [hs, hg]
  obtain ⟨inner, lo, ends, slots, gaps⟩ := n
  simp only at hi hm hl be q1 q2 q3 ⊢
  clear h hs hg
  generalize ends.getD i 0 = e at *
  generalize slots.getD i 0 = hh at *
  generalize gaps.getD i 0 = g at *
  generalize ends.length = k at *
  have hb : ∀ o : Obj, Below w.heap.size w (w.alloc o) := fun o => (Below.refl _ _).alloc (Nat.le_refl _) _
  have hii : (i : Int) < k := by omega
  have hii0 : (0 : Int) ≤ i := by omega
  unfold nodeCells
  have l1 := World.block_lt_of_cell? w _ q1
  have l2 := World.block_lt_of_cell? w _ q2
  have l3 := World.block_lt_of_cell? w _ q3
  simp only at l1 l2 l3
  go_enter Try.func96, Try.ntmps96
  go_wp2_with fail
  go_quiet (fail)
  go_wp2
  all_goals go_ret
  all_goals refine ⟨ret_bool ?_, below_drewN (hb _) _⟩
  all_goals try simp_all [entryB]
  all_goals first | (intros; omega) | (rw [Bool.eq_iff_iff]; simp)

theorem NodeV.not_head {n : NodeV} (h : n.headB = false) : n.formedB = false ∧ (n.ends.length < 1 ∨ 8 < n.ends.length ∨ (1 ≤ n.ends.length ∧ n.ends.length ≤ 8 ∧ n.slots.length ≠ n.ends.length) ∨ (1 ≤ n.ends.length ∧ n.ends.length ≤ 8 ∧ n.slots.length = n.ends.length ∧ n.gaps.length ≠ n.ends.length) ∨
    (1 ≤ n.ends.length ∧ n.ends.length ≤ 8 ∧ n.slots.length = n.ends.length ∧ n.gaps.length = n.ends.length ∧ n.lo < 65536) ∨ (1 ≤ n.ends.length ∧ n.ends.length ≤ 8 ∧ n.slots.length = n.ends.length ∧ n.gaps.length = n.ends.length ∧ 65536 ≤ n.lo ∧ n.lo % 4096 ≠ 0)) := by
  refine ⟨by unfold NodeV.formedB; rw [h]; rfl, ?_⟩
  have h' : ¬ n.headB = true := by rw [h]; decide
  rw [NodeV.headB_iff] at h'
  omega

set_option maxRecDepth 100000 in
set_option maxHeartbeats 2000000 in
theorem slot_formed (n : NodeV) (a1 a2 a3 : Option Addr) (c1 c2 c3 : Nat) (w : World) (h : NodeR w n a1 a2 a3 c1 c2 c3) :
    Calls Try.prog 81 #[.agg (nodeCells n.inner n.lo a1 a2 a3 n.ends.length n.slots.length n.gaps.length c1 c2 c3)] w fun e w' => e = .returned (.bool n.formedB) ∧ Below w.heap.size w w' := by
  have hb : ∀ o : Obj, Below w.heap.size w (w.alloc o) := fun o => (Below.refl _ _).alloc (Nat.le_refl _) _
  have hm := h.e.hm
  have hl := h.e.le
  unfold maxLen at hm
  cases hh : n.headB with
  | false =>
    obtain ⟨hf, hcase⟩ := NodeV.not_head hh
    rw [hf]
    clear hf hh h
    unfold nodeCells
    obtain ⟨inner, lo, ends, slots, gaps⟩ := n
    simp only at hcase hl ⊢
    generalize ends.length = k1 at *
    generalize slots.length = k2 at *
    generalize gaps.length = k3 at *
    rcases hcase with h1 | h1 | ⟨h1, h2, h3⟩ | ⟨h1, h2, rfl, h3⟩ | ⟨h1, h2, rfl, rfl, h3⟩ | ⟨h1, h2, rfl, rfl, h3, h4⟩
    · have g1 : (k1 : Int) < 1 := by omega
      go_enter Try.func81, Try.ntmps81
      go_wp2
      go_ret
      exact ⟨rfl, hb _⟩
    · have g1 : ¬ (k1 : Int) < 1 := by omega
      have g2 : (8 : Int) < k1 := by omega
      go_enter Try.func81, Try.ntmps81
      go_wp2
      go_ret
      exact ⟨rfl, hb _⟩
    · have g1 : ¬ (k1 : Int) < 1 := by omega
      have g2 : ¬ (8 : Int) < k1 := by omega
      have g3 : ((k2 : Int) != k1) = true := bne_iff_ne.2 (by omega)
      clear h3
      go_enter Try.func81, Try.ntmps81
      go_wp2
      go_ret
      exact ⟨rfl, hb _⟩
    · have g1 : ¬ (k2 : Int) < 1 := by omega
      have g2 : ¬ (8 : Int) < k2 := by omega
      have g3 : ((k2 : Int) != k2) = false := by simp
      have g4 : ((k3 : Int) != k2) = true := bne_iff_ne.2 (by omega)
      clear h3
      go_enter Try.func81, Try.ntmps81
      go_wp2
      go_ret
      exact ⟨rfl, hb _⟩
    · have g1 : ¬ (k3 : Int) < 1 := by omega
      have g2 : ¬ (8 : Int) < k3 := by omega
      have g3 : ((k3 : Int) != k3) = false := by simp
      go_enter Try.func81, Try.ntmps81
      go_wp2
      go_ret
      exact ⟨rfl, hb _⟩
    · have g1 : ¬ (k3 : Int) < 1 := by omega
      have g2 : ¬ (8 : Int) < k3 := by omega
      have g3 : ((k3 : Int) != k3) = false := by simp
      have g4 : (lo % 4096 != 0) = true := bne_iff_ne.2 h4
      clear h4
      go_enter Try.func81, Try.ntmps81
      go_wp2
      go_ret
      exact ⟨rfl, hb _⟩
  | true =>
    obtain ⟨h1, h2, h3, h4, h5, h6⟩ := (NodeV.headB_iff n).1 hh
    obtain ⟨K, hK⟩ : ∃ K, K = n.ends.length - 1 := ⟨_, rfl⟩
    obtain ⟨b1, o1, ha1, -, q1⟩ := h.e.at_ (j := K) (by omega)
    obtain ⟨k, hk⟩ : ∃ k, n.ends.length = k := ⟨_, rfl⟩
    have g5 : (k : Int) - 1 = (K : Int) := by omega
    have g6 : (K : Int) < k := by omega
    have g7 : (0 : Int) ≤ K := by omega
    have hK1 : K < k := by omega
    have HH := Lib.hid h
    have H3 := Lib.hid h3
    have H4 := Lib.hid h4
    have HK := Lib.hid hk
    have HEAD := Lib.hid hh
    have g1 : ¬ (k : Int) < 1 := by omega
    have g2 : ¬ (8 : Int) < (k : Int) := by omega
    have g3 : ((k : Int) != (k : Int)) = false := by simp
    have g4 : (n.lo % 4096 != 0) = false := by rw [h6]; rfl
    have HLAST : Hid (n.ends.getD (n.ends.length - 1) 0 = n.ends.getD K 0) := Lib.hid (by rw [← hK])
    rw [h3, h4, hk]
    rw [hk] at hl
    clear h hh h1 h2 h3 h4 h6 hK hk
    subst ha1
    have l1 := World.block_lt_of_cell? w _ q1
    simp only at l1
    unfold nodeCells
    by_cases hlast : n.ends.getD K 0 ≤ 2097152
    · have HF := Lib.hid (show n.formedB = chainB n.inner n.lo n.ends n.slots n.gaps by unfold NodeV.formedB; rw [HLAST.out, decide_eq_true hlast, HEAD.out, Bool.and_true, Bool.true_and])
      have HE := Lib.hid (fun (i : Nat) (f : Int) (w' : World) (hb : Below w.heap.size w w') (hi : i < k) (hf : 0 ≤ f) => slot_entry n _ a2 a3 c1 c2 c3 i f w' (HH.out.below hb) (by rw [HK.out]; exact hi) H3.out H4.out hf)
      rw [H3.out, H4.out, HK.out] at HE
      have HCA := Lib.hid (fun (i : Nat) (hi : i < k) => n.chain_at H3.out H4.out (i := i) (by rw [HK.out]; exact hi))
      rw [HF.out]
      clear HF HLAST HEAD
      generalize n.ends.getD K 0 = last at *
      have hB0 := Blk.new w 43 (nodeCells n.inner n.lo (some ⟨b1, o1, none⟩) a2 a3 (k) (k) (k) c1 c2 c3)
      have HE1 := Lib.hid (fun (i : Nat) (hi : i < k) => HH.out.e.at_ (j := i) (by rw [HK.out]; exact hi))
      go_enter Try.func81, Try.ntmps81
      go_upto_region 4 with fail
      clear q1
      have hw1 := hb (.cells (nodeCells n.inner n.lo (some ⟨b1, o1, none⟩) a2 a3 (k) (k) (k) c1 c2 c3) 43)
      unfold nodeCells at hw1 hB0
      generalize w.alloc (.cells #[.bool n.inner, .int .i64 n.lo, .slice (some ⟨b1, o1, none⟩) (k) c1, .slice a2 (k) c2, .slice a3 (k) c3] 43) = w1 at *
      obtain ⟨nb, hnb⟩ : ∃ nb, w.heap.size = nb := ⟨_, rfl⟩
      rw [hnb] at hB0
      rw [hnb]
      have HNB := Lib.hid hnb
      clear hnb
      have t1 := hB0.at_ (i := 1) rfl
      simp only [List.getElem_toArray, List.getElem_cons_succ, List.getElem_cons_zero] at t1
      go_wp2_with fail
      clear t1
      go_loopw [4, 52] (fun v u wr => ∃ i : Nat, i ≤ k ∧ u = .int .i64 i ∧ v = .int .i64 (n.from_ i) ∧ 0 ≤ n.from_ i ∧ Below nb w wr ∧ Blk wr nb 43 #[.bool n.inner, .int .i64 n.lo, .slice (some ⟨b1, o1, none⟩) (k) c1, .slice a2 (k) c2, .slice a3 (k) c3] ∧
        chainB n.inner n.lo n.ends n.slots n.gaps = chainB n.inner (n.from_ i) (n.ends.drop i) (n.slots.drop i) (n.gaps.drop i)) (fun _ u _ => k - (intOf u).toNat)
      case atStart => exact ⟨0, Nat.zero_le _, rfl, rfl, by show 0 ≤ n.lo; omega, by rw [← HNB.out]; exact hw1, hB0, rfl⟩
      case round =>
        clear hB0 hw1
        obtain ⟨i, hi, rfl, rfl, hf0, hw, hB, hch⟩ := hrel
        have HCH := Lib.hid hch
        clear hch
        have t0 := hB.at_ (i := 0) rfl
        have t1 := hB.at_ (i := 1) rfl
        have t2 := hB.at_ (i := 2) rfl
        have t3 := hB.at_ (i := 3) rfl
        have t4 := hB.at_ (i := 4) rfl
        simp only [List.getElem_toArray, List.getElem_cons_succ, List.getElem_cons_zero] at t0 t1 t2 t3 t4
        by_cases hlt : i < k
        · have hii : (i : Int) < (k : Int) := by omega
          have hii0 : (0 : Int) ≤ i := by omega
          have HC := Lib.hid (HE.out i (n.from_ i) wr (by rw [HNB.out]; exact hw) hlt hf0)
          have HB := Lib.hid hB
          have HWL := Lib.hid hw
          have HCA1 := Lib.hid (HCA.out i hlt)
          clear hB hw
          generalize hfr : n.from_ i = f at *
          have HFR := Lib.hid hfr
          clear hfr
          go_wp2_with fail
          refine HC.out.mono ?_
          rintro e w2 ⟨rfl, hb2⟩
          have hB2 := HB.out.below hb2 HB.out.lt
          have HW2 := Lib.hid (below_then HWL.out hb2 (by rw [HNB.out]; exact Nat.le_refl _))
          clear HC t0 t1 t2 t3 t4 hb2
          have t2 := hB2.at_ (i := 2) rfl
          simp only [List.getElem_toArray, List.getElem_cons_succ, List.getElem_cons_zero] at t2
          have HB2 := Lib.hid hB2
          clear hB2
          cases hen : entryB n.inner (n.ends.getD i 0) (n.slots.getD i 0) (n.gaps.getD i 0) f with
          | false =>
            have HR := Lib.hid (show chainB n.inner n.lo n.ends n.slots n.gaps = false by rw [HCH.out, HCA1.out, hen]; rfl)
            clear hen
            go_wp2
            go_ret
            exact ⟨by rw [HR.out]; rfl, by rw [HNB.out]; exact HW2.out⟩
          | true =>
            have HR := Lib.hid (show chainB n.inner n.lo n.ends n.slots n.gaps = chainB n.inner (n.from_ (i + 1)) (n.ends.drop (i + 1)) (n.slots.drop (i + 1)) (n.gaps.drop (i + 1)) by rw [HCH.out, HCA1.out, hen]; rfl)
            have hlt2 := entryB_lt hen
            have HL := Lib.hid (show 0 ≤ n.from_ (i + 1) by rw [n.from_succ]; omega)
            have HFS := Lib.hid (n.from_succ i)
            obtain ⟨b1', o1', ha1', -, q1⟩ := HE1.out i hlt
            obtain ⟨rfl, rfl⟩ : b1' = b1 ∧ o1' = o1 := by simpa using ha1'.symm
            have q2 := (HW2.out.cell (p := ⟨b1', o1' + i, none⟩) (by rw [← HNB.out]; exact World.block_lt_of_cell? w _ q1)).trans q1
            clear hen hlt2 q1 ha1'
            go_wp2
            go_roundw
            case rel => exact ⟨i + 1, by omega, by go_num, by rw [HFS.out]; rfl, HL.out, HW2.out, HB2.out, HR.out⟩
            case measure => simp [intOf]; omega
        · obtain rfl : i = k := by omega
          clear hlt g5 g6 g7 hK1
          have HR := Lib.hid (show chainB n.inner n.lo n.ends n.slots n.gaps = true by rw [HCH.out]; exact n.chain_end (by rw [HK.out]; exact Nat.le_refl _) _)
          go_wp2
          go_ret
          exact ⟨by rw [HR.out]; rfl, by rw [HNB.out]; exact hw⟩
    · have HF := Lib.hid (show n.formedB = false by unfold NodeV.formedB; rw [HLAST.out, decide_eq_false hlast, Bool.and_false, Bool.false_and])
      rw [HF.out]
      generalize n.ends.getD K 0 = last at *
      generalize n.lo = lo at *
      go_enter Try.func81, Try.ntmps81
      go_wp2
      go_ret
      exact ⟨rfl, hb _⟩
end Go.Proofs.Ytohidmkfpaiklaa
