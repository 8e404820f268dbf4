/- What build.Cut and samararef18.Cut tell of a number: the same pieces, or none; and the counts of nodes. -/
import Derived.Test.YtohidmkfpaiklaaMem
import Derived.Test.YtohidmkfpaiklaaRows
import Derived.WalkLawsBesides
import Derived.Outline
import Derived.Deep.LoopGhost
import Derived.BigQuiet
namespace Go.Proofs.Ytohidmkfpaiklaa
open Go.RowKit

theorem info_int : (Try.prog.info? 3).map (fun i => (i.zero, i.size, i.bytes)) = some (some (.int .i64 0), 1, 8) := by kernel_rfl

def cutk (n : Nat) : Nat := (n + 7) / 8
def piece (n i : Nat) : Int := ((n / cutk n : Nat) : Int) + (if i < n % cutk n then 1 else 0)
def pieces (n : Nat) : List Int := (List.range (cutk n)).map (piece n)
def cutOf (n : Int) : List Int := if 1 ≤ n ∧ n ≤ 64 then pieces n.toNat else []
/-- The pieces that are told behind k rounds. -/
def cutTo (n k : Nat) : List Int := (List.range (cutk n)).map fun j => if j < k then piece n j else 0

theorem cutTo_zero (n : Nat) : cutTo n 0 = List.replicate (cutk n) 0 := by
  unfold cutTo
  apply List.ext_getElem <;> simp
theorem cutTo_all (n : Nat) : cutTo n (cutk n) = pieces n := by
  unfold cutTo pieces
  apply List.map_congr_left
  intro j hj
  rw [if_pos (List.mem_range.1 hj)]
theorem cutTo_length (n k : Nat) : (cutTo n k).length = cutk n := by simp [cutTo]
theorem cutTo_set (n k : Nat) (_h : k < cutk n) : (cutTo n k).set k (piece n k) = cutTo n (k + 1) := by
  apply List.ext_getElem
  · simp [cutTo]
  · intro j h1 h2
    rw [List.getElem_set]
    simp only [cutTo, List.getElem_map, List.getElem_range]
    by_cases e : k = j
    · subst e; simp
    · rw [if_neg e]
      by_cases hj : j < k
      · rw [if_pos hj, if_pos (by omega)]
      · rw [if_neg hj, if_neg (by omega)]

theorem wrap_quot {n K : Nat} (h64 : n ≤ 64) : wrap64 ((n : Int) / (K : Int)) = ((n / K : Nat) : Int) := by
  have h := Nat.div_le_self n K
  rw [← Int.natCast_ediv]
  generalize n / K = q at h
  unfold wrap64
  omega
theorem cut_step_more {w : World} {g n k K : Nat} (h64 : n ≤ 64) (hK : K = cutk n) (hk : k < K) (hm : (k : Int) < (n : Int) % (K : Int)) (hb : Blk w g 3 (nums .i64 (cutTo n k))) :
    Blk ((w.setCell ⟨g, k, none⟩ (.int .i64 (wrap64 ((n : Int) / K)))).setCell ⟨g, k, none⟩ (.int .i64 (wrap64 (wrap64 ((n : Int) / K) + 1)))) g 3 (nums .i64 (cutTo n (k + 1))) := by
  have h := (hb.put k (.int .i64 (wrap64 ((n : Int) / K)))).put k (.int .i64 (wrap64 (wrap64 ((n : Int) / K) + 1)))
  rw [nums_set, nums_set, List.set_set, wrap_quot h64] at h
  have hd := Nat.div_le_self n K
  have e : wrap64 (((n / K : Nat) : Int) + 1) = piece n k := by
    unfold piece
    rw [← hK, if_pos (by rw [← Int.natCast_emod] at hm; omega)]
    generalize n / K = q at hd
    unfold wrap64
    omega
  rw [e, cutTo_set n k (by omega)] at h
  rw [wrap_quot h64, e]
  exact h
theorem cut_step_less {w : World} {g n k K : Nat} (h64 : n ≤ 64) (hK : K = cutk n) (hk : k < K) (hm : ¬ (k : Int) < (n : Int) % (K : Int)) (hb : Blk w g 3 (nums .i64 (cutTo n k))) :
    Blk (w.setCell ⟨g, k, none⟩ (.int .i64 (wrap64 ((n : Int) / K)))) g 3 (nums .i64 (cutTo n (k + 1))) := by
  have h := hb.put k (.int .i64 (wrap64 ((n : Int) / K)))
  rw [nums_set, wrap_quot h64] at h
  have e : ((n / K : Nat) : Int) = piece n k := by
    unfold piece
    rw [← hK, if_neg (by rw [← Int.natCast_emod] at hm; omega)]
    omega
  rw [e, cutTo_set n k (by omega)] at h
  rw [wrap_quot h64, e]
  exact h

theorem cut_build (n : Nat) (h1 : 1 ≤ n) (h64 : n ≤ 64) (w : World) :
    Calls Try.prog 36 #[.int .i64 n] w fun e w' => e = .returned (.slice (some ⟨w.heap.size, 0, none⟩) (cutk n) (cutk n)) ∧ Blk w' w.heap.size 3 (nums .i64 (pieces n)) ∧ Below w.heap.size w w' := by
  obtain ⟨K, hK⟩ : ∃ K, K = cutk n := ⟨_, rfl⟩
  have hK1 : 1 ≤ K := by unfold cutk at hK; omega
  have hK8 : K ≤ 8 := by unfold cutk at hK; omega
  have hmk := run_make_row' (P := Try.prog) 75 3 (.int .i64 0) 8 Try.underlying75 info_int rfl .i64 .i64 K (by omega) (by omega)
  have hdiv : ((n : Int) + 8 - 1) / 8 = K := by unfold cutk at hK; omega
  rw [← hK]
  have HK := Lib.hid hK
  clear hK
  go_enter Try.func36, Try.ntmps36
  go_wp2_with fail
  go_loopw [5, 20] (fun _ i wr => ∃ k : Nat, k ≤ K ∧ i = .int .i64 k ∧ Blk wr w.heap.size 3 (nums .i64 (cutTo n k)) ∧ Below w.heap.size w wr) (fun _ i _ => K - (intOf i).toNat)
  case atStart => exact ⟨0, Nat.zero_le _, rfl, by rw [cutTo_zero, ← HK.out, ← nums_zeros]; exact Blk.new _ _ _, (Below.refl _ _).alloc (Nat.le_refl _) _⟩
  case round =>
    obtain ⟨k, hk, rfl, hb, hw⟩ := hrel
    by_cases hlt : k < K
    · have hc := hb.at_ (nums_get .i64 (cutTo n k) k (by rw [cutTo_length]; have := HK.out; omega))
      have hf := hb.free k
      by_cases hm : (k : Int) < (n : Int) % (K : Int)
      · go_wp2
        go_roundw
        case rel => exact ⟨k + 1, by omega, by go_num, cut_step_more h64 HK.out hlt hm hb, (hw.setCell (p := ⟨w.heap.size, k, none⟩) (Nat.le_refl _) _).setCell (p := ⟨w.heap.size, k, none⟩) (Nat.le_refl _) _⟩
        case measure => simp [intOf]; omega
      · go_wp2
        go_roundw
        case rel => exact ⟨k + 1, by omega, by go_num, cut_step_less h64 HK.out hlt hm hb, hw.setCell (p := ⟨w.heap.size, k, none⟩) (Nat.le_refl _) _⟩
        case measure => simp [intOf]; omega
    · go_wp2
      go_ret
      have e : k = cutk n := by have := HK.out; omega
      rw [e, cutTo_all] at hb
      exact ⟨rfl, hb, hw⟩

/-- What is counted out behind i rounds. -/
def cutUp (K i : Nat) : List Int := (List.range K).map fun j => ((i / K : Nat) : Int) + (if j < i % K then 1 else 0)
theorem cutUp_zero (K : Nat) : cutUp K 0 = List.replicate K 0 := by
  unfold cutUp
  apply List.ext_getElem <;> simp
theorem cutUp_length (K i : Nat) : (cutUp K i).length = K := by simp [cutUp]
theorem cutUp_all (n : Nat) : cutUp (cutk n) n = pieces n := rfl
theorem succ_divmod (i K : Nat) (hK : 0 < K) : (i % K + 1 < K ∧ (i + 1) / K = i / K ∧ (i + 1) % K = i % K + 1) ∨ (i % K + 1 = K ∧ (i + 1) / K = i / K + 1 ∧ (i + 1) % K = 0) := by
  have hlt := Nat.mod_lt i hK
  have e := Nat.div_add_mod i K
  rcases Nat.lt_or_ge (i % K + 1) K with h | h
  · left
    have e1 : i + 1 = (i % K + 1) + K * (i / K) := by omega
    refine ⟨h, ?_, ?_⟩
    · rw [e1, Nat.add_mul_div_left _ _ hK, Nat.div_eq_of_lt h]; omega
    · rw [e1, Nat.add_mul_mod_self_left, Nat.mod_eq_of_lt h]
  · right
    have h' : i % K + 1 = K := by omega
    have e1 : i + 1 = K * (i / K + 1) := by rw [Nat.mul_add, Nat.mul_one]; omega
    refine ⟨h', ?_, ?_⟩
    · rw [e1, Nat.mul_div_cancel_left _ hK]
    · rw [e1, Nat.mul_mod_right]
theorem cutUp_at (K i : Nat) (hK : 0 < K) : (cutUp K i).getD (i % K) 0 = ((i / K : Nat) : Int) := by
  have hlt := Nat.mod_lt i hK
  rw [List.getD_eq_getElem?_getD, cutUp, List.getElem?_map, List.getElem?_range hlt]
  simp
theorem cutUp_set (K i : Nat) (hK : 0 < K) : (cutUp K i).set (i % K) (((i / K : Nat) : Int) + 1) = cutUp K (i + 1) := by
  apply List.ext_getElem
  · simp [cutUp]
  · intro j h1 h2
    have hj : j < K := by simpa [cutUp] using h2
    rw [List.getElem_set]
    simp only [cutUp, List.getElem_map, List.getElem_range]
    rcases succ_divmod i K hK with ⟨a, b, c⟩ | ⟨a, b, c⟩
    · rw [b, c]
      by_cases e : i % K = j
      · rw [if_pos e, if_pos (by omega)]
      · rw [if_neg e]
        by_cases hlt : j < i % K
        · rw [if_pos hlt, if_pos (by omega)]
        · rw [if_neg hlt, if_neg (by omega)]
    · rw [b, c, if_neg (show ¬ j < 0 by omega)]
      by_cases e : i % K = j
      · rw [if_pos e]; omega
      · rw [if_neg e, if_pos (by omega)]; omega

theorem up_step {w : World} {g i K : Nat} (hK : 0 < K) (hb : Blk w g 3 (nums .i64 (cutUp K i))) (h64 : i ≤ 64) (x : Int) (hx : x = (cutUp K i).getD (i % K) 0) :
    Blk (w.setCell ⟨g, i % K, none⟩ (.int .i64 (wrap64 (x + 1)))) g 3 (nums .i64 (cutUp K (i + 1))) := by
  have h := hb.put (i % K) (.int .i64 (wrap64 (x + 1)))
  rw [nums_set] at h
  have hd := Nat.div_le_self i K
  have e : wrap64 (x + 1) = ((i / K : Nat) : Int) + 1 := by
    rw [hx, cutUp_at K i hK]
    generalize i / K = q at hd
    unfold wrap64
    omega
  rw [e, cutUp_set K i hK] at h
  rw [e]
  exact h

theorem cut_ref (n : Nat) (h1 : 1 ≤ n) (h64 : n ≤ 64) (w : World) :
    Calls Try.prog 44 #[.int .i64 n] w fun e w' => e = .returned (.slice (some ⟨w.heap.size, 0, none⟩) (cutk n) (cutk n)) ∧ Blk w' w.heap.size 3 (nums .i64 (pieces n)) ∧ Below w.heap.size w w' := by
  obtain ⟨K, hK⟩ : ∃ K, K = cutk n := ⟨_, rfl⟩
  have hK1 : 1 ≤ K := by unfold cutk at hK; omega
  have hK8 : K ≤ 8 := by unfold cutk at hK; omega
  have hKn : n ≤ 8 * K := by unfold cutk at hK; omega
  have hKm : 8 * K < n + 8 := by unfold cutk at hK; omega
  have hmk := run_make_row' (P := Try.prog) 75 3 (.int .i64 0) 8 Try.underlying75 info_int rfl .i64 .i64 K (by omega) (by omega)
  rw [← hK]
  have HK := Lib.hid hK
  clear hK
  go_enter Try.func44, Try.ntmps44
  go_wp2_with fail
  go_loop [3] (fun k => ∃ j : Nat, 1 ≤ j ∧ j ≤ K ∧ k = .int .i64 j) (fun k => K - (intOf k).toNat)
  case atStart => exact ⟨1, Nat.le_refl _, hK1, rfl⟩
  case round =>
    obtain ⟨j, hj1, hjK, rfl⟩ := hrel
    by_cases hlt : j < K
    · have ht : 8 * (j : Int) < n := by omega
      go_wp2
      go_round
      case rel => exact ⟨j + 1, by omega, by omega, by go_num⟩
      case measure => simp [intOf]; omega
    · obtain rfl : j = K := by omega
      have ht : ¬ 8 * (j : Int) < n := by omega
      go_wp2_with fail
      go_loopw [5] (fun i wr => ∃ k : Nat, k ≤ n ∧ i = .int .i64 k ∧ Blk wr w.heap.size 3 (nums .i64 (cutUp j k)) ∧ Below w.heap.size w wr) (fun i _ => n - (intOf i).toNat)
      case atStart => exact ⟨0, Nat.zero_le _, rfl, by rw [cutUp_zero, ← nums_zeros]; exact Blk.new _ _ _, (Below.refl _ _).alloc (Nat.le_refl _) _⟩
      case round =>
        obtain ⟨k, hk, rfl, hb, hw⟩ := hrel
        by_cases hkn : k < n
        · have hmlt := Nat.mod_lt k hj1
          have hc := hb.at_ (nums_get .i64 (cutUp j k) (k % j) (by rw [cutUp_length]; exact hmlt))
          have hf := hb.free (k % j)
          generalize hx : (cutUp j k).getD (k % j) 0 = x at hc
          have hst := up_step hj1 hb (by omega) x hx.symm
          have HS := Lib.hid hst
          clear hst hx
          go_wp2
          go_roundw
          case rel => exact ⟨k + 1, by omega, by go_num, HS.out, hw.setCell (p := ⟨w.heap.size, k % j, none⟩) (Nat.le_refl _) _⟩
          case measure => simp [intOf]; omega
        · obtain rfl : k = n := by omega
          go_wp2
          go_ret
          rw [HK.out, cutUp_all] at hb
          exact ⟨rfl, hb, hw⟩

theorem cut_build_none (n : Int) (h : n < 1 ∨ 64 < n) (w : World) : Calls Try.prog 36 #[.int .i64 n] w fun e w' => e = .returned (.slice none 0 0) ∧ w = w' := by
  rcases h with h | h
  · go_enter Try.func36, Try.ntmps36
    go_wp2
    go_ret
    exact ⟨rfl, rfl⟩
  · have h' : ¬ n < 1 := by omega
    go_enter Try.func36, Try.ntmps36
    go_wp2
    go_ret
    exact ⟨rfl, rfl⟩
theorem cut_ref_none (n : Int) (h : n < 1 ∨ 64 < n) (w : World) : Calls Try.prog 44 #[.int .i64 n] w fun e w' => e = .returned (.slice none 0 0) ∧ w = w' := by
  rcases h with h | h
  · go_enter Try.func44, Try.ntmps44
    go_wp2
    go_ret
    exact ⟨rfl, rfl⟩
  · have h' : ¬ n < 1 := by omega
    go_enter Try.func44, Try.ntmps44
    go_wp2
    go_ret
    exact ⟨rfl, rfl⟩

/-- How many nodes there are. -/
def nodesOf (n : Nat) : Nat := if cutk n = 1 then 1 else cutk n + 1

theorem count_none (n : Int) (h : n < 1 ∨ 64 < n) (w : World) : Calls Try.prog 15 #[.int .i64 n] w fun e w' => e = .returned (.int .i64 0) ∧ w = w' := by
  rcases h with h | h
  · go_enter Try.func15, Try.ntmps15
    go_wp2_with fail
    refine wp_loop_rounds 1 ?_
    rw [rounds_succ]
    go_wp2
    go_ret
    exact ⟨rfl, rfl⟩
  · have h' : 0 < n := by omega
    go_enter Try.func15, Try.ntmps15
    go_wp2_with fail
    refine wp_loop_rounds 1 ?_
    rw [rounds_succ]
    go_wp2
    go_ret
    exact ⟨rfl, rfl⟩

theorem cut_build_len (n K : Nat) (hK : cutk n = K) (h1 : 1 ≤ n) (h64 : n ≤ 64) (w : World) :
    Calls Try.prog 36 #[.int .i64 n] w fun e w' => e = .returned (.slice (some ⟨w.heap.size, 0, none⟩) K K) ∧ Below w.heap.size w w' :=
  (cut_build n h1 h64 w).mono fun _ _ ⟨h, _, hb⟩ => ⟨by rw [h, hK], hb⟩
theorem cut_ref_len (n K : Nat) (hK : cutk n = K) (h1 : 1 ≤ n) (h64 : n ≤ 64) (w : World) :
    Calls Try.prog 44 #[.int .i64 n] w fun e w' => e = .returned (.slice (some ⟨w.heap.size, 0, none⟩) K K) ∧ Below w.heap.size w w' :=
  (cut_ref n h1 h64 w).mono fun _ _ ⟨h, _, hb⟩ => ⟨by rw [h, hK], hb⟩

theorem count_some (n : Nat) (h1 : 1 ≤ n) (h64 : n ≤ 64) (w : World) :
    Calls Try.prog 15 #[.int .i64 n] w fun e w' => e = .returned (.int .i64 (nodesOf n : Nat)) ∧ Below w.heap.size w w' := by
  have hk1 : 1 ≤ cutk n := by unfold cutk; omega
  have hk8 : cutk n ≤ 8 := by unfold cutk; omega
  rcases Nat.lt_or_ge 1 (cutk n) with hk | hk
  · have HN := Lib.hid (show nodesOf n = cutk n + 1 by unfold nodesOf; rw [if_neg (by omega)])
    have HN2 := Lib.hid (show cutk (cutk n) = 1 by rw [cutk]; omega)
    have HN1 := Lib.hid (show cutk n = cutk n from rfl)
    generalize hK : cutk n = K at HN HN2 hk1 hk8 hk
    have HK := Lib.hid hK
    clear hK HN1
    go_enter Try.func15, Try.ntmps15
    go_wp2_with fail
    refine wp_loop_rounds 2 ?_
    rw [rounds_succ]
    go_wp2_with fail
    refine (cut_build_len n K HK.out (by omega) (by omega) _).mono ?_
    rintro e w1 ⟨rfl, hb1⟩
    go_wp2_with fail
    rw [rounds_succ]
    go_wp2_with fail
    refine (cut_build_len K 1 HN2.out (by omega) (by omega) _).mono ?_
    rintro e w2 ⟨rfl, hb2⟩
    go_wp2
    go_ret
    exact ⟨by rw [HN.out]; simp, below_then hb1 hb2 (Nat.le_refl _)⟩
  · have HN := Lib.hid (show nodesOf n = 1 by unfold nodesOf; rw [if_pos (by omega)])
    have HK := Lib.hid (show cutk n = 1 by omega)
    clear hk hk1 hk8
    go_enter Try.func15, Try.ntmps15
    go_wp2_with fail
    refine wp_loop_rounds 1 ?_
    rw [rounds_succ]
    go_wp2_with fail
    refine (cut_build_len n 1 HK.out (by omega) (by omega) _).mono ?_
    rintro e w1 ⟨rfl, hb1⟩
    go_wp2
    go_ret
    exact ⟨by rw [HN.out]; simp, hb1⟩

theorem rcount_none (n : Int) (h : n < 1 ∨ 64 < n) (w : World) : Calls Try.prog 18 #[.int .i64 n] w fun e w' => e = .returned (.int .i64 0) ∧ w = w' := by
  rcases h with h | h
  · go_enter Try.func18, Try.ntmps18
    go_wp2
    go_ret
    exact ⟨rfl, rfl⟩
  · have h' : ¬ n < 1 := by omega
    go_enter Try.func18, Try.ntmps18
    go_wp2
    go_ret
    exact ⟨rfl, rfl⟩
theorem rcount_one (n : Nat) (HK : Hid (cutk n = 1)) (h1 : 1 ≤ n) (h64 : n ≤ 64) (w : World) :
    Calls Try.prog 18 #[.int .i64 n] w fun e w' => e = .returned (.int .i64 1) ∧ Below w.heap.size w w' := by
  go_enter Try.func18, Try.ntmps18
  go_wp2_with fail
  refine (cut_ref_len n 1 HK.out (by omega) (by omega) _).mono ?_
  rintro e w1 ⟨rfl, hb1⟩
  go_wp2
  go_ret
  exact ⟨rfl, hb1⟩
theorem rcount_some (n : Nat) (h1 : 1 ≤ n) (h64 : n ≤ 64) (w : World) :
    Calls Try.prog 18 #[.int .i64 n] w fun e w' => e = .returned (.int .i64 (nodesOf n : Nat)) ∧ Below w.heap.size w w' := by
  have hk1 : 1 ≤ cutk n := by unfold cutk; omega
  have hk8 : cutk n ≤ 8 := by unfold cutk; omega
  rcases Nat.lt_or_ge 1 (cutk n) with hk | hk
  · have HN := Lib.hid (show nodesOf n = cutk n + 1 by unfold nodesOf; rw [if_neg (by omega)])
    have HN2 := Lib.hid (show cutk (cutk n) = 1 by rw [cutk]; omega)
    generalize hK : cutk n = K at HN HN2 hk1 hk8 hk
    have HK := Lib.hid hK
    clear hK
    go_enter Try.func18, Try.ntmps18
    go_wp2_with fail
    refine (cut_ref_len n K HK.out (by omega) (by omega) _).mono ?_
    rintro e w1 ⟨rfl, hb1⟩
    go_wp2_with fail
    refine (rcount_one K HN2 (by omega) (by omega) _).mono ?_
    rintro e w2 ⟨rfl, hb2⟩
    go_wp2
    go_ret
    exact ⟨by rw [HN.out]; simp, below_then hb1 hb2 (Nat.le_refl _)⟩
  · have e1 : nodesOf n = 1 := by unfold nodesOf; rw [if_pos (by omega)]
    rw [e1]
    exact rcount_one n (show cutk n = 1 by omega) h1 h64 w

theorem awake18 (w : World) : Calls Try.prog 8 #[] w fun e w' => e = .returned (.bool true) ∧ Below w.heap.size w w' := by
  go_enter Try.func8, Try.ntmps8
  go_wp2_with fail
  refine (count_some 49 (by omega) (by omega) _).mono ?_
  rw [show nodesOf 49 = 8 from rfl]
  rintro e w1 ⟨rfl, hb1⟩
  go_wp2_with fail
  refine (cut_build_len 9 2 rfl (by omega) (by omega) _).mono ?_
  rintro e w2 ⟨rfl, hb2⟩
  go_wp2
  go_ret
  exact ⟨rfl, below_then hb1 hb2 (Nat.le_refl _)⟩

theorem pieces_length (n : Nat) : (pieces n).length = cutk n := by simp [pieces]
theorem pieces_bd (n j : Nat) (h1 : 1 ≤ n) (h64 : n ≤ 64) (hj : j < cutk n) : 1 ≤ (pieces n).getD j 0 ∧ (pieces n).getD j 0 ≤ 8 := by
  have e : (pieces n).getD j 0 = piece n j := by
    rw [List.getD_eq_getElem?_getD, pieces, List.getElem?_map, List.getElem?_range hj]
    rfl
  rw [e]
  have h : ∀ m : Fin 65, 1 ≤ m.val → ∀ i : Fin 9, i.val < cutk m.val → 1 ≤ piece m.val i.val ∧ piece m.val i.val ≤ 8 := by decide +kernel
  exact h ⟨n, by omega⟩ h1 ⟨j, by unfold cutk at hj; omega⟩ hj

end Go.Proofs.Ytohidmkfpaiklaa
