/- Law 17: leaf; what comes of a task that goes, or finds, alone; awake. -/
import Derived.Test.YtldccemgfjmcdaaWords17
import Derived.Test.YtldccemgfjmcdaaAlone17
import Derived.Test.YtldccemgfjmcdaaRef15
namespace Go.Proofs.Ytldccemgfjmcdaa
open Go.RowKit
set_option linter.unusedSimpArgs false
set_option linter.unusedVariables false

def leafN : NodeV := ⟨false, 65536, [2097152], [0], [2031616]⟩
theorem leaf_formed : leafN.formedB = true := by decide
theorem leaf_down : (downP [leafN.pack] 8 65537 [] []).1 = true ∧ (downP [leafN.pack] 8 65537 [] []).2.2.2 = 5 ∧ (allP [leafN.pack] 65537).1.length = 1 := by decide
set_option maxRecDepth 100000 in
set_option maxHeartbeats 1000000 in
theorem leaf17 (w : World) : Calls Try.prog 57 #[] w fun e w' => ∃ g, e = .returned (.slice (some ⟨g, 0, none⟩) 28 28) ∧ w.heap.size ≤ g ∧ Row w' 2 1 g 28 28 (i64s leafN.pack) ∧ Below w.heap.size w w' := by
  have HB := Lib.hid (Below.refl w.heap.size w)
  go_enter Try.func57, Try.ntmps57
  replace HB := Lib.hid (below_thru HB.out (below_alloc0 w (.cells #[.int .i64 2097152] 2)))
  have H1 := Lib.hid (Blk.new w 2 #[.int .i64 2097152])
  go_wp2_with fail
  have HZ := Lib.hid (World.size_alloc w (.cells #[.int .i64 2097152] 2))
  obtain ⟨lb, hlb⟩ : ∃ x, w.heap.size = x := ⟨_, rfl⟩
  simp only [hlb] at H1 HZ ⊢
  replace hlb := Lib.hid hlb
  generalize w.alloc (.cells #[.int .i64 2097152] 2) = w1 at *
  replace HB := Lib.hid (below_thru HB.out (below_alloc0 w1 (.cells #[.int .i64 0] 2)))
  replace H1 := Lib.hid (H1.out.thru (below_alloc0 w1 (.cells #[.int .i64 0] 2)))
  have H2 := Lib.hid (Blk.new w1 2 #[.int .i64 0])
  rw [HZ.out] at H2
  try simp only [HZ.out]
  replace HZ := Lib.hid (show (w1.alloc (.cells #[.int .i64 0] 2)).heap.size = lb + 1 + 1 by rw [World.size_alloc, HZ.out])
  generalize w1.alloc (.cells #[.int .i64 0] 2) = w2 at *
  replace HB := Lib.hid (below_thru HB.out (below_alloc0 w2 (.cells #[.int .i64 2031616] 2)))
  replace H1 := Lib.hid (H1.out.thru (below_alloc0 w2 (.cells #[.int .i64 2031616] 2)))
  replace H2 := Lib.hid (H2.out.thru (below_alloc0 w2 (.cells #[.int .i64 2031616] 2)))
  have H3 := Lib.hid (Blk.new w2 2 #[.int .i64 2031616])
  rw [HZ.out] at H3
  try simp only [HZ.out]
  replace HZ := Lib.hid (show (w2.alloc (.cells #[.int .i64 2031616] 2)).heap.size = lb + 1 + 1 + 1 by rw [World.size_alloc, HZ.out])
  generalize w2.alloc (.cells #[.int .i64 2031616] 2) = w3 at *
  have HP := Lib.hid (ref15_pack leafN (some ⟨lb, 0, none⟩) (some ⟨lb + 1, 0, none⟩) (some ⟨lb + 1 + 1, 0, none⟩) 1 1 1 w3 ⟨by decide, ints_one H1.out (by decide), ints_one H2.out (by decide), ints_one H3.out (by decide)⟩ leaf_formed)
  simp only [nodeCells, leafN] at HP
  refine (HP.out).mono ?_
  rintro e w4 ⟨g, rfl, hg, hrow, hb⟩
  replace HB := Lib.hid (below_thru HB.out hb)
  replace H1 := Lib.hid (H1.out.thru hb)
  replace H2 := Lib.hid (H2.out.thru hb)
  replace H3 := Lib.hid (H3.out.thru hb)
  clear hb
  have HG := Lib.hid (show w.heap.size ≤ g ∧ Row w4 2 1 g 28 28 (i64s leafN.pack) from ⟨by have := hlb.out; have := HZ.out; omega, hrow⟩)
  clear hrow hg
  go_wp2
  go_ret
  exact ⟨g, rfl, HG.out.1, HG.out.2, HB.out⟩
/-- What comes of a task that reads, alone. -/
theorem alone_tells (root addr : Int) (all : Bool) (r : Res LandS GV) (hf : r.free) (hr : RunsL 61 (fun a pb => goArg a pb root addr all) r 33 4 RG) (m c a b : Nat) (σ : LandS) (g : Option Addr) (w : World) (h : LandAt w m c a b σ)
    {v : GV} {n k : Nat} {st : Bool} (ht : Tells σ r v n k st) (hn : n < 1800) (h0 : 0 ≤ σ.mu.count) (hk : σ.mu.count + k ≤ 4611686018427387904) :
    Calls Try.prog 19 #[.pointer (some ⟨m, 0, none⟩), .agg #[.pointer (some ⟨a, 0, none⟩), .int .i64 root, .int .i64 addr, .bool all, .pointer g]] w (TellsPost RG w m c a b σ v n k st) := by
  obtain ⟨σ2, he, hs, hc, hst, -⟩ := ht σ (Same.refl σ) h0 hk
  refine (alone17 root addr all r hf hr m c a b σ g w h (by rw [he]; exact hn)).mono ?_
  rintro e w' ⟨cs, rfl, hR, hl, hu⟩
  rw [he] at hR hl ⊢
  exact ⟨cs, σ2, rfl, hR, hl, hs, hc, hst, hu⟩
theorem runsFind (root addr : Int) (hh : WfI root) : RunsL 61 (fun a pb => goArg a pb root addr false) (goFindR root addr) 33 4 RG :=
  fun pb cs0 hc p σ s F n w h hi hn hov hp hpf => goer_find root addr pb cs0 hc p σ s F n w h hi hn hov hh hp hpf
theorem runsAll (root addr : Int) (hh : WfI root) : RunsL 61 (fun a pb => goArg a pb root addr true) (goAllR root) 33 4 RG :=
  fun pb cs0 hc p σ s F n w h hi hn hov hp hpf => goer_all root addr pb cs0 hc p σ s F n w h hi hn hov hh hp hpf
theorem land16_count (xs : List (List Int)) : (land16 xs).mu.count = 28 * xs.length := by simp [land16, slotMem]
theorem leaf_len : leafN.pack.length = 28 := by decide
set_option maxRecDepth 100000 in
set_option maxHeartbeats 2000000 in
theorem awake17 (w : World) : Calls Try.prog 15 #[] w fun e w' => e = .returned (.bool true) ∧ Below w.heap.size w w' := by
  have HP := Lib.hid (leaf17 w)
  have HB := Lib.hid (Below.refl w.heap.size w)
  go_enter Try.func15, Try.ntmps15
  go_wp2_with fail
  refine (HP.out).mono ?_
  rintro e w1 ⟨g, rfl, hg, hrow, hb⟩
  replace HB := Lib.hid (below_thru HB.out hb)
  clear hb
  have HR := Lib.hid hrow
  clear hrow
  replace HB := Lib.hid (below_thru HB.out (below_alloc0 w1 (.cells #[.slice (some ⟨g, 0, none⟩) 28 28] 31)))
  replace HR := Lib.hid (HR.out.thru (below_alloc0 w1 (.cells #[.slice (some ⟨g, 0, none⟩) 28 28] 31)))
  have HS := Lib.hid (Blk.new w1 31 #[.slice (some ⟨g, 0, none⟩) 28 28])
  go_wp2_with fail
  have HZ := Lib.hid (World.size_alloc w1 (.cells #[.slice (some ⟨g, 0, none⟩) 28 28] 31))
  obtain ⟨sb, hsb⟩ : ∃ x, w1.heap.size = x := ⟨_, rfl⟩
  simp only [hsb] at HS HZ ⊢
  replace hsb := Lib.hid hsb
  generalize w1.alloc (.cells #[.slice (some ⟨g, 0, none⟩) 28 28] 31) = w2 at *
  have HSL := Lib.hid (slots16' (some ⟨sb, 0, none⟩) 1 1 [⟨some ⟨g, 0, none⟩, 28, 28, leafN.pack⟩] w2 (rowsL_one HS.out (ArgInts.ofRow HR.out (by decide))) (by simp) (by omega))
  clear HZ
  have HZ2 := Lib.hid HB.out.size
  refine (HSL.out).mono ?_
  rintro e w3 ⟨rfl, hb, hland⟩
  replace HB := Lib.hid (below_thru HB.out hb)
  replace HR := Lib.hid (HR.out.thru hb)
  replace HS := Lib.hid (HS.out.thru hb)
  clear hb
  have HLA := Lib.hid hland
  clear hland
  obtain ⟨st, c, hc, hk, ht, -⟩ := tells_goAll (xs := [leafN.pack]) (by simp [leaf_len]) (by simp) 65537
  obtain ⟨l1, l2, l3⟩ := leaf_down
  rw [l1, l2] at ht
  have HL3 := Lib.hid l3
  have HT := Lib.hid (alone_tells 65537 0 true (goAllR 65537) (goAll_free _) (runsAll 65537 0 rfl) _ _ _ _ (land16 [leafN.pack]) none w3 HLA.out ht (by decide) (by rw [land16_count]; decide) (by rw [land16_count]; simp only [List.length_singleton]; omega))
  clear ht l1 l2 l3
  go_wp2_with fail
  refine HT.out.mono ?_
  rintro e w4 ⟨cs, σ2, rfl, ⟨EA, ec, NA, nc, rfl, -, -, -⟩, -, -, -, -, hu⟩
  have HB4 := Lib.hid (below_upd HB.out hu (Nat.le_refl _) (by
    have := HZ2.out
    intro x hx
    simp only [List.mem_cons, List.not_mem_nil, or_false] at hx
    omega))
  clear hu HB HT HLA HR HS HSL
  simp only [HL3.out]
  go_wp2
  go_ret
  exact ⟨rfl, HB4.out.alloc (HB4.out.size) _⟩
end Go.Proofs.Ytldccemgfjmcdaa
