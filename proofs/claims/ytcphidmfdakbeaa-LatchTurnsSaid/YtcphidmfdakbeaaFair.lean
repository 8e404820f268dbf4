/- LatchFair: round after round, walked and shown. -/
import Derived.Test.YtcphidmfdakbeaaUsers
import Derived.Deep.LoopGhost
namespace Go.Proofs.Ytcphidmfdakbeaa
open Go.RowKit

/-- Thread i behind ρ turns. -/
def fairU (i ρ : Nat) : US := ⟨if ρ = 0 then 0 else if ρ ≤ 1 + 3 * i then 1 else if ρ ≤ 5 + 3 * i then ρ - 3 * i else 5, if ρ = 0 then 0 else i, if 3 + 3 * i ≤ ρ then i else 0⟩
/-- The cells, of n threads, in round r ahead of turn j. -/
def fairS (n r j : Nat) : Nat := min n ((r - 2) / 3) + if 4 ≤ r ∧ (r - 4) % 3 = 0 ∧ (r - 4) / 3 < j then 1 else 0
def fairN (n r j : Nat) : Nat := min n ((r - 1) / 3) + if 3 ≤ r ∧ (r - 3) % 3 = 0 ∧ (r - 3) / 3 < j then 1 else 0
def fairL (n r j : Nat) : Ls := ⟨fairN n r j, if r = 0 then j else n, fairS n r j⟩

theorem wrap_small (x : Int) (h1 : 0 ≤ x) (h2 : x ≤ 1000000) : wrap64 x = x := by unfold wrap64; omega

theorem fair_step (n r j : Nat) (hn : n ≤ 16) (hj : j < n) : (fairU j r).step (fairL n r j) = (fairU j (r + 1), fairL n r (j + 1)) := by
  have hw : ∀ x : Nat, x ≤ 100 → wrap64 ((x : Int) + 1) = ((x + 1 : Nat) : Int) := fun x hx => by rw [wrap_small _ (by omega) (by omega)]; omega
  have hr : r = 0 ∨ (1 ≤ r ∧ r < 1 + 3 * j) ∨ r = 1 + 3 * j ∨ r = 2 + 3 * j ∨ r = 3 + 3 * j ∨ r = 4 + 3 * j ∨ 5 + 3 * j ≤ r := by omega
  rcases hr with rfl | ⟨h1, h2⟩ | rfl | rfl | rfl | rfl | h
  · have e1 : fairU j 0 = ⟨0, 0, 0⟩ := by simp [fairU]
    have e2 : fairU j (0 + 1) = ⟨1, j, 0⟩ := by unfold fairU; congr 1 <;> (repeat' split) <;> omega
    have e3 : fairL n 0 j = ⟨0, j, 0⟩ := by simp [fairL, fairN, fairS]
    have e4 : fairL n 0 (j + 1) = ⟨0, (j + 1 : Nat), 0⟩ := by simp [fairL, fairN, fairS]
    rw [e1, e2, e3, e4]
    simp only [US.step]
    rw [hw j (by omega)]
  · have e1 : fairU j r = ⟨1, j, 0⟩ := by unfold fairU; congr 1 <;> (repeat' split) <;> omega
    have e2 : fairU j (r + 1) = ⟨1, j, 0⟩ := by unfold fairU; congr 1 <;> (repeat' split) <;> omega
    have e3 : fairL n r (j + 1) = fairL n r j := by unfold fairL fairN fairS; congr 1 <;> (repeat' split) <;> omega
    have e4 : (fairL n r j).s ≠ j := by unfold fairL fairS; simp only; split <;> omega
    rw [e1, e2, e3]
    simp only [US.step]
    rw [if_neg e4]
  · have e1 : fairU j (1 + 3 * j) = ⟨1, j, 0⟩ := by unfold fairU; congr 1 <;> (repeat' split) <;> omega
    have e2 : fairU j (1 + 3 * j + 1) = ⟨2, j, 0⟩ := by unfold fairU; congr 1 <;> (repeat' split) <;> omega
    have e3 : fairL n (1 + 3 * j) (j + 1) = fairL n (1 + 3 * j) j := by unfold fairL fairN fairS; congr 1 <;> (repeat' split) <;> omega
    have e4 : (fairL n (1 + 3 * j) j).s = j := by unfold fairL fairS; simp only; split <;> omega
    rw [e1, e2, e3]
    simp only [US.step]
    rw [if_pos e4]
  · have e1 : fairU j (2 + 3 * j) = ⟨2, j, 0⟩ := by unfold fairU; congr 1 <;> (repeat' split) <;> omega
    have e2 : fairU j (2 + 3 * j + 1) = ⟨3, j, j⟩ := by unfold fairU; congr 1 <;> (repeat' split) <;> omega
    have e3 : fairL n (2 + 3 * j) (j + 1) = fairL n (2 + 3 * j) j := by unfold fairL fairN fairS; congr 1 <;> (repeat' split) <;> omega
    have e4 : (fairL n (2 + 3 * j) j).n = j := by unfold fairL fairN; simp only; split <;> omega
    rw [e1, e2, e3]
    simp only [US.step]
    rw [e4]
  · have e1 : fairU j (3 + 3 * j) = ⟨3, j, j⟩ := by unfold fairU; congr 1 <;> (repeat' split) <;> omega
    have e2 : fairU j (3 + 3 * j + 1) = ⟨4, j, j⟩ := by unfold fairU; congr 1 <;> (repeat' split) <;> omega
    have e3 : fairL n (3 + 3 * j) (j + 1) = ⟨(j + 1 : Nat), n, j⟩ := by unfold fairL fairN fairS; congr 1 <;> (repeat' split) <;> omega
    have e4 : fairL n (3 + 3 * j) j = ⟨j, n, j⟩ := by unfold fairL fairN fairS; congr 1 <;> (repeat' split) <;> omega
    rw [e1, e2, e3, e4]
    simp only [US.step]
    rw [hw j (by omega)]
  · have e1 : fairU j (4 + 3 * j) = ⟨4, j, j⟩ := by unfold fairU; congr 1 <;> (repeat' split) <;> omega
    have e2 : fairU j (4 + 3 * j + 1) = ⟨5, j, j⟩ := by unfold fairU; congr 1 <;> (repeat' split) <;> omega
    have e3 : fairL n (4 + 3 * j) (j + 1) = ⟨(j + 1 : Nat), n, (j + 1 : Nat)⟩ := by unfold fairL fairN fairS; congr 1 <;> (repeat' split) <;> omega
    have e4 : fairL n (4 + 3 * j) j = ⟨(j + 1 : Nat), n, j⟩ := by unfold fairL fairN fairS; congr 1 <;> (repeat' split) <;> omega
    rw [e1, e2, e3, e4]
    simp only [US.step]
    rw [hw j (by omega)]
  · have e1 : fairU j r = ⟨5, j, j⟩ := by unfold fairU; congr 1 <;> (repeat' split) <;> omega
    have e2 : fairU j (r + 1) = ⟨5, j, j⟩ := by unfold fairU; congr 1 <;> (repeat' split) <;> omega
    have e3 : fairL n r (j + 1) = fairL n r j := by unfold fairL fairN fairS; congr 1 <;> (repeat' split) <;> omega
    rw [e1, e2, e3]
    rfl
theorem fair_round (n r : Nat) : fairL n r n = fairL n (r + 1) 0 := by
  unfold fairL fairN fairS; congr 1 <;> (repeat' split) <;> omega

/-- Where thread i lies, if the first is g. -/
def posn (n g i : Nat) : Nat := if i + g < n then i + g else i + g - n
theorem posn_mod (n f r j : Nat) (hj : j < n) : (r * n + j + f) % n = posn n (f % n) j := by
  have hg := Nat.mod_lt f (show 0 < n by omega)
  rw [Nat.add_assoc, Nat.mul_comm, Nat.mul_add_mod, ← Nat.add_mod_mod]
  unfold posn
  split
  · exact Nat.mod_eq_of_lt (by omega)
  · rw [Nat.mod_eq_sub_mod (by omega), Nat.mod_eq_of_lt (by omega)]

/-- The threads in round r ahead of turn j. -/
def Fair (n g r j : Nat) (us : List US) : Prop := us.length = n ∧ ∀ i, i < n → us[posn n g i]? = some (fairU i (if i < j then r + 1 else r))
theorem Fair.first (n g : Nat) (hg : g < n) : Fair n g 0 0 (List.replicate n ⟨0, 0, 0⟩) := by
  refine ⟨by simp, fun i hi => ?_⟩
  have hp : posn n g i < n := by unfold posn; split <;> omega
  rw [List.getElem?_replicate, if_pos hp]
  simp [fairU]
theorem Fair.next {n g r j : Nat} {us : List US} (h : Fair n g r j us) (hg : g < n) (hj : j < n) : Fair n g r (j + 1) (us.set (posn n g j) (fairU j (r + 1))) := by
  obtain ⟨hl, h⟩ := h
  refine ⟨by simpa using hl, fun i hi => ?_⟩
  have hp : posn n g j < n := by unfold posn; split <;> omega
  by_cases hij : i = j
  · subst hij
    rw [List.getElem?_set_self (by omega), if_pos (by omega)]
  · have hne : posn n g j ≠ posn n g i := by unfold posn; split <;> split <;> omega
    rw [List.getElem?_set_ne hne, h i hi]
    congr 2
    split <;> split <;> first | rfl | omega
theorem Fair.round {n g r : Nat} {us : List US} (h : Fair n g r n us) : Fair n g (r + 1) 0 us := by
  obtain ⟨hl, h⟩ := h
  refine ⟨hl, fun i hi => ?_⟩
  rw [h i hi, if_pos hi, if_neg (by omega)]
theorem Fair.all {n g : Nat} {us : List US} (h : Fair n g (8 * n) 0 us) (hg : g < n) {i : Nat} (hi : i < n) : us[i]? = some ⟨5, ((if g ≤ i then i - g else i + n - g : Nat) : Int), ((if g ≤ i then i - g else i + n - g : Nat) : Int)⟩ := by
  have hx : ∃ x, (if g ≤ i then i - g else i + n - g) = x ∧ x < n ∧ posn n g x = i := by
    refine ⟨_, rfl, ?_, ?_⟩
    · split <;> omega
    · unfold posn; split <;> split <;> omega
  obtain ⟨x, e, hxn, hp⟩ := hx
  rw [e, ← hp, h.2 x hxn, if_neg (by omega)]
  congr 1
  unfold fairU
  congr 1 <;> (repeat' split) <;> omega
theorem fair_end (n : Nat) (hn : 0 < n) : (fairL n (8 * n) 0).n = n := by
  unfold fairL fairN
  simp only
  split <;> omega

def ptrOf (t : Nat) : Value := .pointer (some ⟨t, 0, none⟩)
theorem info_trails : (Try.prog.info? 30).map (fun i => (i.zero, i.size, i.bytes)) = some (some (.pointer none), 1, 8) := by kernel_rfl
theorem under_trails : Try.prog.underlying 52 = some (.slice 30) := by kernel_rfl

set_option maxRecDepth 100000 in
theorem fair05 (th first : Int) (w : World) (hth : (Lit.int .u8 th).wf = true) (hf : (Lit.int .u8 first).wf = true) :
    Calls Try.prog 11 #[.int .u8 th, .int .u8 first] w fun e w' => e = .returned (.bool true) ∧ Below w.heap.size w w' := by
  have HA := Lib.hid awake05
  obtain ⟨i0, hi, hz0, hz1, hz2⟩ := info_parts info_trails
  obtain ⟨N, hN, hN1, hN16⟩ : ∃ N : Nat, wrap64 (1 + wrap64 (th.tmod 16)) = N ∧ 1 ≤ N ∧ N ≤ 16 := by
    have h0 := bounds_u8 hth
    refine ⟨1 + (th % 16).toNat, ?_, by omega, by omega⟩
    rw [Int.tmod_eq_emod_of_nonneg h0.1]
    generalize hx : th % 16 = x
    unfold wrap64
    omega
  have HW := Lib.hid hN
  obtain ⟨f, rfl, hf255⟩ : ∃ f : Nat, first = f ∧ f ≤ 255 := ⟨first.toNat, by have := bounds_u8 hf; omega, by have := bounds_u8 hf; omega⟩
  have hmk := run_make_row' (P := Try.prog) 54 2 (.int .i64 0) 8 Try.underlying54 info_i64 rfl .i64 .i64 N (by omega) (by omega)
  clear hth hf hN
  go_enter Try.func11, Try.ntmps11
  go_wp2_with fail
  refine (HA.out _).mono ?_
  rintro e w0 ⟨rfl, hb0⟩
  go_wp2_with fail
  rw [HW.out]
  refine (cell_new 3 _).mono ?_
  rintro e w1 ⟨rfl, hm, hb1, -⟩
  rw [show (⟨List.replicate (capn 3).toNat 0, 0⟩ : MemS) = ⟨[0, 0, 0], 0⟩ from rfl] at hm
  have hB0 := hb0.size
  have hb := below_then hb0 hb1 (Nat.le_refl _)
  generalize hx1 : w0.heap.size + 1 = m at *
  generalize hc : w0.heap.size = c at *
  have hbm : ∀ b ∈ [m, c], w.heap.size ≤ b := by simp; omega
  clear hx1 hc hb0 hb1
  have hB1 := hb.size
  have hU : UThs w.heap.size (w1.alloc (.cells (madeCells #[.int .i64 0] N) 2)) m c w1.heap.size [] 0 N [] [] ⟨0, 0, 0⟩ := by
    refine ⟨[], _, 0, Ths.none (hm.alloc _) (Blk.new w1 _ _) ?_ (by simp) ?_, by rw [nums_zeros, nums_size]; simp, rfl, rfl, by simp, by simp⟩
    · have e1 := hm.1.lt
      have e2 := hm.2.1.lt
      simp
      omega
    · intro x hx
      simp only [List.mem_cons] at hx
      rcases hx with e | hx
      · omega
      · exact hbm x (by simpa using hx)
  have hbt := hb.alloc hB1 (.cells (madeCells #[.int .i64 0] N) 2)
  clear hm hb
  go_wp2_with fail
  generalize w1.alloc (.cells (madeCells #[.int .i64 0] N) 2) = w2 at *
  generalize w1.heap.size = pb at *
  go_loopw [7, 9] (fun v i wr => ∃ (k : Nat) (A : Option Addr) (cap : Nat) (ts : List Nat), k ≤ N ∧ i = .int .i64 k ∧ v = .slice A k cap ∧ wr.ownsRow w.heap.size 30 1 (.slice A k cap) k (ts.map ptrOf) ∧ ts.length = k ∧
    UThs w.heap.size wr m c pb (blockOf A) 0 N ts (List.replicate k ⟨0, 0, 0⟩) ⟨0, 0, 0⟩ ∧ Below w.heap.size w wr) (fun _ i _ => N - (intOf i).toNat)
  case atStart => exact ⟨0, none, 0, [], Nat.zero_le _, rfl, rfl, World.ownsRow_nil _ _ _ _, rfl, hU, hbt⟩
  case round =>
    clear hU hbt hmk
    obtain ⟨k, A, cap, ts, hk, rfl, rfl, hown, hl, hU, hw⟩ := hrel
    by_cases hlt : k < N
    · obtain ⟨cnt, hmm⟩ := hU.mem
      go_wp2_with fail
      refine (t_new m c _ _ hmm).mono ?_
      rintro e w3 ⟨rfl, htm, hb3⟩
      have hU3 := hU.push hmm hb3 htm (Nat.le_refl _) (by omega) hw.size
      have hown3 : w3.ownsRow w.heap.size 30 1 (.slice A k cap) k (ts.map ptrOf) := ownsRow_upd hown (Upd.of_below hb3 (F := [])) (by simp)
      have hw3 := below_then hw hb3 (Nat.le_refl _)
      have hB3 := hw3.size
      rw [show List.replicate k (⟨0, 0, 0⟩ : US) ++ [⟨0, 0, 0⟩] = List.replicate (k + 1) ⟨0, 0, 0⟩ by rw [List.replicate_succ']] at hU3
      clear hmm htm hb3 hU hown hw
      generalize wr.heap.size = t at *
      have HU := Lib.hid hU3
      clear hU3
      go_wp2_with (at_builtin; refine wpList_append_own_at (P := Try.prog) _ rfl (.tmp 29) (.tmp 32) 52 rfl w.heap.size 30 i0 (.pointer none) 1 8 under_trails hi hz0 hz1 hz2 rfl (by decide) _ _ _ rfl (hown3.alloc _) ⟨w3.heap.size, 0, none⟩ 1 1 [ptrOf t] rfl rfl ?c1 ?c2 ?c3 ?c4 ?c5 ?_)
      case c1 => exact cell_one_new _ _ _
      case c2 => intro u hu; simp at hu; subst hu; rfl
      case c3 => unfold maxLen; omega
      case c4 => omega
      case c5 => simp; omega
      intro v' w4 hown' hgrow _ hat'
      obtain ⟨g, cap', rfl⟩ := own_some hown'
      have hU4 := HU.out.grew hgrow (by simpa using hat') hown' rfl
      have hw4 : Below w.heap.size w w4 := (hw3.alloc hB3 _).grown hgrow (by simp; omega) (fun g hg => by have := (hown3.lt _ hg).1; omega)
      rw [show ts.map ptrOf ++ [ptrOf t] = (ts ++ [t]).map ptrOf by simp] at hown'
      clear HU hgrow hat' hown3 hw3
      go_wp2
      go_roundw
      case rel => exact ⟨k + 1, some ⟨g, 0, none⟩, cap', ts ++ [t], by omega, by go_num, rfl, hown', by simp [hl], hU4, hw4⟩
      case measure => simp [intOf]; omega
    · obtain rfl : k = N := by omega
      obtain ⟨hrow', -⟩ := Rows'.ofOwn hown
      obtain ⟨g, hA, hrow⟩ : ∃ g, A = some ⟨g, 0, none⟩ ∧ Row wr 30 1 g k cap (ts.map ptrOf) := by
        rcases hrow' with ⟨_, h, _⟩ | ⟨g, cap', h, hr⟩
        · omega
        · injection h with h1 h2 h3
          subst h3
          exact ⟨g, h1, hr⟩
      subst hA
      rw [blockOf_some] at hU
      have hM : wrap64 (8 * (k : Int) * (k : Int)) = ((8 * k * k : Nat) : Int) := by
        have hk8 : 8 * k * k ≤ 8 * 16 * 16 := Nat.mul_le_mul (Nat.mul_le_mul_left 8 hN16) hN16
        have e : 8 * (k : Int) * (k : Int) = ((8 * k * k : Nat) : Int) := by rw [Int.natCast_mul, Int.natCast_mul]; rfl
        rw [e]
        generalize 8 * k * k = P at hk8
        exact wrap_small _ (by omega) (by omega)
      have HM := Lib.hid hM
      clear hM hrow' hown
      generalize hg : f % k = g0
      have hg0 : g0 < k := by rw [← hg]; exact Nat.mod_lt _ (by omega)
      have HG := Lib.hid hg
      clear hg hlt
      go_wp2_with fail
      go_loopw [10] (fun i wr => ∃ (q r j : Nat) (us : List US), q = r * k + j ∧ j < k ∧ q ≤ 8 * k * k ∧ i = .int .i64 q ∧ Row wr 30 1 g k cap (ts.map ptrOf) ∧ Fair k g0 r j us ∧ UThs w.heap.size wr m c pb [g] q k ts us (fairL k r j) ∧ Below w.heap.size w wr) (fun i _ => 8 * k * k - (intOf i).toNat)
      case atStart => exact ⟨0, 0, 0, _, by simp, by omega, Nat.zero_le _, rfl, hrow, Fair.first k g0 hg0, by rw [show fairL k 0 0 = ⟨0, 0, 0⟩ by simp [fairL, fairN, fairS]]; exact hU, hw⟩
      case round =>
        clear hrow hU hw
        obtain ⟨q, r, j, us, hq, hj, hq8, rfl, hrow, hfair, hU, hw⟩ := hrel
        generalize hP : 8 * k * k = P at hq8
        have HP := Lib.hid hP
        clear hP
        by_cases hlt : q < P
        · have hk0 := hfair.1
          have hp : posn k g0 j < k := by unfold posn; split <;> omega
          have hus := hfair.2 j hj
          rw [if_neg (by omega)] at hus
          obtain ⟨t, ht⟩ : ∃ t, ts[posn k g0 j]? = some t := ⟨_, List.getElem?_eq_getElem (by omega)⟩
          have hcell := hrow.cell (j := posn k g0 j) (u := ptrOf t) (by rw [List.getElem?_map, ht]; rfl)
          have hst := fair_step k r j hN16 hj
          have hP1 : P ≤ 2048 := by rw [← HP.out]; exact Nat.mul_le_mul (Nat.mul_le_mul_left 8 hN16) hN16
          have hix : ((q : Int) + (f : Int)) % (k : Int) = (posn k g0 j : Nat) := by
            rw [← HG.out, ← posn_mod k f r j hj, ← hq, Int.natCast_emod, Int.natCast_add]
          have hc1 : (q : Int) < wrap64 (8 * (k : Int) * (k : Int)) := by rw [HM.out, HP.out]; omega
          have hne : (k : Int) ≠ 0 := by omega
          generalize hpp : posn k g0 j = p at *
          have HST := Lib.hid hst
          have HIX := Lib.hid hix
          have HPP := Lib.hid hpp
          have HQ := Lib.hid hq
          clear hst hpp hix hq
          go_upto_region 15 with fail
          rw [HIX.out]
          have hU1 := hU.upd (Upd.drew (Upd.refl [] wr)) (by simp)
          have hw1 : Below w.heap.size w wr.drew := ⟨hw.os, hw.tape, hw.output, hw.size, hw.block⟩
          have hrow1 := hrow.drew
          have hpi : (p : Int) < k := by omega
          have hpi0 : (0 : Int) ≤ p := by omega
          go_still_tail 10, (by kernel_rfl)
          change wpList _ _ _ _ _ wr.drew
          clear hcell hrow hU hw hc1
          generalize wr.drew = w5 at *
          go_wp2_with fail
          refine (hU1.step ht hus (by omega) hw1.size q).mono ?_
          rw [HST.out]
          rintro e w6 ⟨rfl, hU6, hO6, hb6⟩
          have hw6 : Below w.heap.size w w6 := hw1.trans hb6
          have hrow6 : Row w6 30 1 g k cap (ts.map ptrOf) := by
            obtain ⟨cur, hc, hr⟩ := hrow1
            exact ⟨cur, (hO6 g (by simp)).trans hc, hr⟩
          have hfair' := hfair.next hg0 hj
          rw [HPP.out] at hfair'
          simp only at hU6
          clear hU1 hw1 hrow1 hO6 hb6 hfair HST HPP HIX
          go_wp2
          go_roundw
          case rel =>
            by_cases hj1 : j + 1 < k
            · exact ⟨q + 1, r, j + 1, _, by have := HQ.out; omega, hj1, by omega, by go_num, hrow6, hfair', hU6, hw6⟩
            · obtain rfl : k = j + 1 := by omega
              rw [fair_round] at hU6
              exact ⟨q + 1, r + 1, 0, _, by have := HQ.out; rw [Nat.add_mul]; omega, by omega, by omega, by go_num, hrow6, hfair'.round, hU6, hw6⟩
          case measure => simp [intOf]; omega
        · obtain rfl : P = q := by omega
          have hc1 : ¬ (P : Int) < wrap64 (8 * (k : Int) * (k : Int)) := by rw [HM.out, HP.out]; omega
          have hr8 : r = 8 * k := by
            have h1 : (r * k + j) / k = r := by rw [Nat.mul_comm, Nat.mul_add_div (by omega), Nat.div_eq_of_lt hj, Nat.add_zero]
            rw [← hq, ← HP.out, Nat.mul_div_cancel _ (by omega)] at h1
            exact h1.symm
          subst hr8
          obtain rfl : j = 0 := by have := HP.out; omega
          have hall : ∀ i, i < k → us[i]? = some ⟨5, ((if g0 ≤ i then i - g0 else i + k - g0 : Nat) : Int), ((if g0 ≤ i then i - g0 else i + k - g0 : Nat) : Int)⟩ := fun i hi => hfair.all hg0 hi
          have hend := fair_end k (by omega)
          generalize fairL k (8 * k) 0 = l at *
          have HALL := Lib.hid hall
          have HEND := Lib.hid hend
          clear hall hend hfair hq
          obtain ⟨cnt, hmm⟩ := hU.mem
          go_wp2_with fail
          refine (cell_load m c _ 0 _ hmm).mono ?_
          rw [show (⟨[l.n, l.d, l.s], cnt⟩ : MemS).load 0 = (l.n, 0, ⟨[l.n, l.d, l.s], wrap64 (cnt + 1)⟩) by simp [MemS.load, MemS.has, MemS.tick, MemS.get]]
          rw [HEND.out]
          rintro e w5 ⟨rfl, hm5, hu5⟩
          rw [← HEND.out] at hm5
          have hU5 := hU.loaded hm5 hu5
          have hw5 := below_upd hw hu5 (Nat.le_refl _) (fun b hb => hbm b (by simp at hb; simp [hb]))
          have hgm : g ∉ [m] := by
            have h := hU
            obtain ⟨ths, cs, cnt, h, -⟩ := h
            have := (h.oth g (by simp)).2.1
            simp at this
            simp [this.2.1]
          have hrow5 := hrow.upd hu5 hgm
          clear hm5 hu5 hU hw hrow hmm
          simp only
          go_wp2_with fail
          go_loopw [14] (fun i wr => ∃ (j : Nat), j ≤ k ∧ i = .int .i64 j ∧ Row wr 30 1 g k cap (ts.map ptrOf) ∧ UThs w.heap.size wr m c pb [g] P k ts us l ∧ Below w.heap.size w wr) (fun i _ => k - (intOf i).toNat)
          case atStart => exact ⟨0, Nat.zero_le _, rfl, hrow5, hU5, hw5⟩
          case round =>
            clear hrow5 hU5 hw5
            obtain ⟨j, hj, rfl, hrow, hU, hw⟩ := hrel
            by_cases hlt : j < k
            · have hu := HALL.out j hlt
              obtain ⟨t, ht⟩ : ∃ t, ts[j]? = some t := ⟨_, List.getElem?_eq_getElem (by omega)⟩
              have hcell := hrow.cell (j := j) (u := ptrOf t) (by rw [List.getElem?_map, ht]; rfl)
              obtain ⟨s, F, μ, htm, hov⟩ := hU.over ht hu
              have hgot := hU.got ht hu rfl
              have hfr := hU.free j
              obtain ⟨x, hx⟩ : ∃ x, (if g0 ≤ j then j - g0 else j + k - g0) = x := ⟨_, rfl⟩
              simp only [hx] at hgot hov
              have hjk : (j : Int) < k := by omega
              have hj0 : (0 : Int) ≤ j := by omega
              have HX := Lib.hid hx
              have hov' : s.over = true := hov
              have HC := Lib.hid (show ∀ n, Calls Try.prog 22 #[.pointer (some ⟨t, 0, none⟩)] (wr.drewN n) fun e w' => e = .returned (.bool true) ∧ wr.drewN n = w' from fun n => by
                have h := t_over m c t μ s F _ (htm.drewN n)
                rw [hov'] at h
                exact h)
              clear hu ht hx hov hov' htm
              have q1 : (f : Int).tmod k = g0 := by rw [Int.tmod_eq_emod_of_nonneg (by omega), ← HG.out]; rfl
              have q2 : IntKind.i64.wrap (f : Int) = f := IntWalk.i64_in _ (by omega)
              have q3 : IntKind.i64.wrap ((j : Int) - g0) = (j : Int) - g0 := IntWalk.i64_in _ (by omega)
              have q4 : IntKind.i64.wrap ((j : Int) - g0 + k) = (j : Int) - g0 + k := IntWalk.i64_in _ (by omega)
              have q5 : ((j : Int) - g0 + k).tmod k = x := by
                have hx := HX.out
                rw [Int.tmod_eq_emod_of_nonneg (by omega)]
                split at hx
                · rw [Int.add_emod_right, Int.emod_eq_of_lt (by omega) (by omega)]; omega
                · rw [Int.emod_eq_of_lt (by omega) (by omega)]; omega
              go_upto_region 20 with fail
              go_quiet ((first | (go_at_call 22; exact quiet_own (HC.out _))))
              have qx : ((x : Int) != (x : Int)) = false := by simp
              have hU1 := hU.upd (Upd.drewN (Upd.refl [] wr) nq) (by simp)
              have hw1 : Below w.heap.size w (wr.drewN nq) := ⟨hw.os, hw.tape, hw.output, hw.size, hw.block⟩
              have hrow1 := hrow.drewN nq
              clear q1 q2 q3 q4 q5 hrow hU hw hcell
              go_wp2
              go_roundw
              case rel => exact ⟨j + 1, by omega, by go_num, hrow1, hU1, hw1⟩
              case measure => simp [intOf]; omega
            · have qk : ((k : Int) == (k : Int)) = true := by simp
              clear hU hrow
              go_wp2
              go_ret
              exact ⟨rfl, hw⟩
end Go.Proofs.Ytcphidmfdakbeaa
