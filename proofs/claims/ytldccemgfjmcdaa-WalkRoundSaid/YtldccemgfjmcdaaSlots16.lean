/- Law 16: Slots: a memory with slots that have these words, and an arena in which they are live. -/
import Derived.Test.YtldccemgfjmcdaaAll16
import Derived.Test.YtldccemgfjmcdaaArgs
namespace Go.Proofs.Ytldccemgfjmcdaa
open Go.RowKit
set_option linter.unusedSimpArgs false
set_option linter.unusedVariables false

/-- Rows of numbers, as a slice of slices. -/
structure RowsL (w : World) (a : Option Addr) (len cap : Nat) (rows : List (RowV Int)) : Prop where
  top : ArgOf RowV.cells 1 (fun _ => True) w a len cap rows
  each : ∀ r ∈ rows, Ints w r.a r.len r.cap r.zs
theorem RowsL.below {w w' : World} {a : Option Addr} {len cap : Nat} {rows : List (RowV Int)} (h : RowsL w a len cap rows) (hb : Below w.heap.size w w') : RowsL w' a len cap rows :=
  ⟨h.top.below hb (Nat.le_refl _), fun r hr => (h.each r hr).below hb (Nat.le_refl _)⟩
theorem RowsL.row {w : World} {a : Option Addr} {len cap : Nat} {rows : List (RowV Int)} (h : RowsL w a len cap rows) {i : Nat} (hi : i < len) :
    ∃ b off r, a = some ⟨b, off, none⟩ ∧ rows[i]? = some r ∧ w.cell? ⟨b, off + i, none⟩ = some (.slice r.a r.len r.cap) ∧ Ints w r.a r.len r.cap r.zs := by
  obtain ⟨b, off, r, ha, hlt, hr, -, hc⟩ := h.top.at_ hi
  refine ⟨b, off, r, ha, hr, ?_, h.each r (List.mem_of_getElem? hr)⟩
  have := hc 0 (.slice r.a r.len r.cap) rfl
  simpa using this

/-- 28 words. -/
def pad28 (zs : List Int) : List Int := zs.take 28 ++ zeros (28 - zs.length)
theorem pad28_len (zs : List Int) : (pad28 zs).length = 28 := by simp [pad28, zeros]; omega
theorem pad28_of {zs : List Int} (h : zs.length = 28) : pad28 zs = zs := by
  unfold pad28
  rw [h, List.take_of_length_le (by omega)]
  simp [zeros]
def flat28 (xs : List (List Int)) : List Int := xs.flatMap pad28
theorem flatI_len : ∀ xs : List (List Int), (flat28 xs).length = xs.length * 28
  | [] => rfl
  | x :: xs => by
    have := flatI_len xs
    simp only [flat28, List.flatMap_cons, List.length_append, pad28_len, List.length_cons] at this ⊢
    omega
theorem flatI_get : ∀ (xs : List (List Int)) (i k : Nat) (x : List Int), xs[i]? = some x → k < 28 → (flat28 xs)[28 * i + k]? = (pad28 x)[k]?
  | [], _, _, _, h, _ => by simp at h
  | y :: xs, 0, k, x, h, hk => by
    simp at h
    subst h
    simp only [flat28, List.flatMap_cons]
    rw [List.getElem?_append_left (by rw [pad28_len]; omega)]
    simp
  | y :: xs, i + 1, k, x, h, hk => by
    simp at h
    have := flatI_get xs i k x h hk
    simp only [flat28, List.flatMap_cons] at this ⊢
    rw [List.getElem?_append_right (by rw [pad28_len]; omega), pad28_len, show 28 * (i + 1) + k - 28 = 28 * i + k by omega]
    exact this
/-- The memory behind so many stores. -/
def slotMem (l : List Int) (t : Nat) : MemS := ⟨[0, 0, 0] ++ (l.take t ++ zeros (l.length - t)), t⟩
def slotAr (N i : Nat) : ArS := ⟨3, List.replicate i (1, true) ++ List.replicate (N - i) (0, false), false, false⟩
theorem slotMem_len (l : List Int) (t : Nat) (h : t ≤ l.length) : (slotMem l t).cells.length = 3 + l.length := by simp [slotMem, zeros]; omega
theorem slotMem_store (l : List Int) (t : Nat) (h : t < l.length) (hl : l.length ≤ 100000) : (slotMem l t).store (3 + (t : Int)) (l.getD t 0) = (0, slotMem l (t + 1)) := by
  have hh : (slotMem l t).has (3 + (t : Int)) = true := by
    simp only [MemS.has, Bool.and_eq_true, decide_eq_true_eq]
    rw [slotMem_len l t (by omega)]
    omega
  unfold MemS.store
  rw [if_pos hh]
  congr 1
  unfold MemS.set MemS.tick slotMem
  simp only [MemS.mk.injEq]
  constructor
  · rw [show ((3 : Int) + (t : Int)).toNat = 3 + t by omega]
    rw [List.set_append_right _ _ (by simp), show 3 + t - [(0 : Int), 0, 0].length = t by simp]
    congr 1
    rw [List.set_append_right _ _ (by simp; omega), show t - (l.take t).length = 0 by simp; omega, show l.length - t = (l.length - (t + 1)) + 1 by omega]
    simp only [zeros, List.replicate_succ, List.set_cons_zero]
    rw [List.take_succ_eq_append_getElem h, List.append_assoc]
    congr 1
    simp [List.getD, h]
  · unfold wrap64
    omega
theorem slotAr_born (N i : Nat) (h : i < N) (hN : N ≤ 1000) : (slotAr N i).born ((i : Int) + 1) = (hand 1 (i + 1), slotAr N (i + 1)) := by
  have hh : (slotAr N i).has ((i : Int) + 1) = true := by
    simp only [ArS.has, Bool.and_eq_true, decide_eq_true_eq, slotAr, List.length_append, List.length_replicate]
    omega
  have hat : (slotAr N i).at_ ((i : Int) + 1) = (0, false) := by
    rw [ArS.at_succ]
    simp only [slotAr]
    rw [List.getD_eq_getElem?_getD, List.getElem?_append_right (by simp), List.length_replicate, Nat.sub_self, show N - i = (N - (i + 1)) + 1 by omega]
    simp [List.replicate_succ]
  unfold ArS.born
  rw [if_pos hh, hat]
  have e : wrap64 (0 + 1) = 1 := by unfold wrap64; rfl
  simp only [e]
  congr 1
  unfold ArS.put slotAr
  simp only [ArS.mk.injEq, true_and, Bool.or_self, and_true]
  rw [show ((i : Int) + 1 - 1).toNat = i by omega, List.set_append_right _ _ (by simp), List.length_replicate, Nat.sub_self, show N - i = (N - (i + 1)) + 1 by omega]
  simp only [List.replicate_succ, List.set_cons_zero]
  rw [← List.replicate_succ, List.replicate_succ']
  simp
theorem slotMem_wf {l : List Int} (h : ∀ x ∈ l, WfI x) (t : Nat) : WfM (slotMem l t) := by
  intro x hx
  simp only [slotMem, List.mem_append, List.mem_cons, List.not_mem_nil, or_false] at hx
  rcases hx with (h0 | h0 | h0) | h0 | h0
  · exact h0 ▸ WfI.zero
  · exact h0 ▸ WfI.zero
  · exact h0 ▸ WfI.zero
  · exact h x (List.mem_of_mem_take h0)
  · exact zeros_wf _ x h0
/-- What Slots answers. -/
def SlotsPost (w : World) (xs : List (List Int)) (e : Ending) (w' : World) : Prop :=
  e = .returned (.tuple #[.pointer (some ⟨w.heap.size + 1, 0, none⟩), .pointer (some ⟨w.heap.size + 3, 0, none⟩)]) ∧ Below w.heap.size w w' ∧
    LandAt w' (w.heap.size + 1) w.heap.size (w.heap.size + 3) (w.heap.size + 2) ⟨slotMem (flat28 xs) (28 * xs.length), slotAr xs.length xs.length⟩

theorem MemAt.thru {w w' : World} {m c : Nat} {s : MemS} (h : MemAt w m c s) (hb : Below w.heap.size w w') : MemAt w' m c s := h.below hb h.1.lt h.2.1.lt
/-- Behind so many births, and stores. -/
structure SInv (w wr : World) (l : List Int) (N i t : Nat) : Prop where
  low : Below w.heap.size w wr
  mem : MemAt wr (w.heap.size + 1) w.heap.size (slotMem l t)
  ar : ArAt wr (w.heap.size + 3) (w.heap.size + 2) (slotAr N i)
theorem SInv.born {w wr w' : World} {l : List Int} {N i t : Nat} {v : Value} {e : Ending} (h : SInv w wr l N i t) (hi : i < N) (hN : N ≤ 1000) (hp : ArPost wr (w.heap.size + 3) (w.heap.size + 2) ((slotAr N i).born ((i : Int) + 1)).2 v e w') : SInv w w' l N (i + 1) t := by
  obtain ⟨-, ha, hu⟩ := hp
  rw [slotAr_born N i hi hN] at ha
  refine ⟨below_upd h.low hu (Nat.le_refl _) (by intro b hb; simp at hb; omega), h.mem.upd hu ?_ ?_, ha⟩
  · simp
  · simp
theorem SInv.store {w wr w' : World} {l : List Int} {N i t : Nat} (h : SInv w wr l N i t) (ht : t < l.length) (hl : l.length ≤ 100000) (hm : MemAt w' (w.heap.size + 1) w.heap.size ((slotMem l t).store (3 + (t : Int)) (l.getD t 0)).2) (hu : Upd [w.heap.size + 1, w.heap.size] wr w') : SInv w w' l N i (t + 1) := by
  rw [slotMem_store l t ht hl] at hm
  refine ⟨below_upd h.low hu (Nat.le_refl _) (by intro b hb; simp at hb; omega), hm, h.ar.upd hu ?_ ?_⟩
  · simp
  · simp
theorem slotMem_zero (l : List Int) : (⟨List.replicate (3 + l.length) 0, 0⟩ : MemS) = slotMem l 0 := by
  unfold slotMem zeros
  simp only [List.take_zero, List.nil_append, Nat.sub_zero, MemS.mk.injEq, Int.natCast_zero, and_true]
  rw [show (3 + l.length) = l.length + 1 + 1 + 1 by omega]
  simp [List.replicate_succ]
theorem slotAr_zero (N : Nat) : (⟨3, List.replicate N (0, false), false, false⟩ : ArS) = slotAr N 0 := by simp [slotAr]
set_option maxRecDepth 100000 in
set_option maxHeartbeats 2000000 in
theorem slots16 (a : Option Addr) (len cap : Nat) (rows : List (RowV Int)) (w : World) (h : RowsL w a len cap rows) (h28 : ∀ r ∈ rows, r.len = 28) (hlen : len ≤ 100) :
    Calls Try.prog 18 #[.slice a len cap] w (SlotsPost w (rows.map (·.zs))) := by
  have HL := Lib.hid h
  have H28 := Lib.hid h28
  have HN := Lib.hid (show rows.length = len from h.top.hl)
  have hlc := h.top.le
  have hcm := h.top.hm
  unfold maxLen at hcm
  have hleni : (len : Int) ≤ 100 := by omega
  have HC := Lib.hid (cell_new (3 + 28 * (len : Int)) w)
  clear h h28
  go_enter Try.func18, Try.ntmps18
  go_wp2_with fail
  refine HC.out.mono ?_
  rintro e w1 ⟨rfl, hm1, hb1, hs1⟩
  have hcap : (capn (3 + 28 * (len : Int))).toNat = 3 + 28 * len := by unfold capn; rw [if_neg (by omega), if_neg (by omega)]; omega
  rw [hcap] at hm1
  have HM1 := Lib.hid hm1
  have HB1 := Lib.hid hb1
  have HS1 := Lib.hid hs1
  have HA := Lib.hid (arena_new 3 len w1 (by omega) (by omega) (by omega))
  rw [HS1.out] at HA
  clear hm1 hb1 hs1 hcap HC
  go_wp2_with fail
  refine HA.out.mono ?_
  rintro e w2 ⟨rfl, ha2, hb2', hs2⟩
  have hb2 : Below w1.heap.size w1 w2 := by rw [HS1.out]; exact hb2'
  obtain ⟨l, hl⟩ : ∃ l, flat28 (rows.map (·.zs)) = l := ⟨_, rfl⟩
  have hll : l.length = 28 * len := by rw [← hl, flatI_len, List.length_map, HN.out]; omega
  have H0 := Lib.hid (show SInv w w2 l len 0 0 from ⟨below_thru HB1.out hb2, by
    have := HM1.out.thru hb2
    rw [← hll, slotMem_zero] at this
    exact this, by rw [slotAr_zero] at ha2; exact ha2⟩)
  have HLL := Lib.hid hll
  have HFL := Lib.hid (show ∀ i k r, rows[i]? = some r → k < 28 → l[28 * i + k]? = r.zs[k]? from by
    intro i k r hr hk
    have hz : r.zs.length = 28 := (HL.out.each r (List.mem_of_getElem? hr)).hl.trans (H28.out r (List.mem_of_getElem? hr))
    have h1 := flatI_get (rows.map (·.zs)) i k r.zs (by rw [List.getElem?_map, hr]; rfl) hk
    rw [hl, pad28_of hz] at h1
    exact h1)
  have HEND := Lib.hid (show ∀ wr, SInv w wr l len len (28 * len) → SlotsPost w (rows.map (·.zs)) (.returned (.tuple #[.pointer (some ⟨w.heap.size + 1, 0, none⟩), .pointer (some ⟨w.heap.size + 3, 0, none⟩)])) wr from fun wr hi => by
    refine ⟨rfl, hi.low, ?_, ?_, ?_⟩
    · rw [hl, List.length_map, HN.out]; exact hi.mem
    · rw [List.length_map, HN.out]; exact hi.ar
    · rw [hl]
      refine slotMem_wf (fun x hx => ?_) _
      rw [← hl] at hx
      simp only [flat28, List.mem_flatMap, List.mem_map] at hx
      obtain ⟨zs, ⟨r, hr, rfl⟩, hx⟩ := hx
      simp only [pad28, List.mem_append] at hx
      rcases hx with hx | hx
      · exact (HL.out.each r hr).wf x (List.mem_of_mem_take hx)
      · exact zeros_wf _ x hx)
  clear hl hll ha2 hb2 hb2' hs2 HM1 HB1 HS1 HA HN
  go_wp2_with fail
  go_loopw [6] (fun v wr => ∃ i : Nat, i ≤ len ∧ v = .int .i64 i ∧ SInv w wr l len i (28 * i)) (fun v _ => len - (intOf v).toNat)
  case atStart => exact ⟨0, Nat.zero_le _, rfl, H0.out⟩
  case round =>
    clear H0
    obtain ⟨i, hi, rfl, hinv⟩ := hrel
    have HI := Lib.hid hinv
    clear hinv
    by_cases hlt : i < len
    · have HBO := Lib.hid (arena_born (w.heap.size + 3) (w.heap.size + 2) (slotAr len i) ((i : Int) + 1) wr HI.out.ar)
      go_wp2_with fail
      refine HBO.out.mono ?_
      rintro e w3 hp
      have HI3 := Lib.hid (HI.out.born hlt (by omega) hp)
      obtain ⟨rfl, -, -⟩ := hp
      clear HI HBO
      obtain ⟨wo, rfl⟩ : ∃ wo : World, wo = wr := ⟨_, rfl⟩
      go_wp2_with fail
      go_loopw [7] (fun v wr => ∃ k : Nat, k ≤ 28 ∧ v = .int .i64 k ∧ SInv w wr l len (i + 1) (28 * i + k)) (fun v _ => 28 - (intOf v).toNat)
      case atStart => exact ⟨0, Nat.zero_le _, rfl, HI3.out⟩
      case round =>
        clear HI3
        obtain ⟨k, hk, rfl, hinv⟩ := hrel
        have HI := Lib.hid hinv
        clear hinv
        obtain ⟨lb, off, r, ra, hr, hc, hints⟩ := (HL.out.below HI.out.low).row hlt
        have hr28 := H28.out r (List.mem_of_getElem? hr)
        rw [hr28] at hc hints
        have HRA := Lib.hid ra
        obtain rfl := ra
        have HR := Lib.hid hr
        have HR28 := Lib.hid hr28
        clear hr hr28
        by_cases hlk : k < 28
        · have hcell := hints.at_ (j := k) (by omega)
          obtain ⟨b', off', hra', hbl', hcell⟩ := hcell
          have HRB := Lib.hid hra'
          have ht : 28 * i + k < l.length := by rw [HLL.out]; omega
          have hval : l.getD (28 * i + k) 0 = r.zs.getD k 0 := by
            rw [List.getD_eq_getElem?_getD, HFL.out i k r HR.out hlk, ← List.getD_eq_getElem?_getD]
          have HST := Lib.hid (cell_store (w.heap.size + 1) w.heap.size (slotMem l (28 * i + k)) (3 + ((28 * i + k : Nat) : Int)) (l.getD (28 * i + k) 0) wr HI.out.mem)
          have HT := Lib.hid ht
          have hll := HLL.out
          rw [show (3 : Int) + ((28 * i + k : Nat) : Int) = 3 + 28 * (i : Int) + k by omega] at HST
          have HV := Lib.hid hval
          rw [hra'] at hc
          rw [hval] at HST
          have hii : (i : Int) < 100 := by omega
          have hle28 := hints.le
          have hcm28 := hints.hm
          unfold maxLen at hcm28
          clear ht hval hll hints hra'
          generalize r.zs.getD k 0 = x at *
          go_wp2_with fail
          refine HST.out.mono ?_
          rintro e w3 ⟨rfl, hm, hu⟩
          have HI3 := Lib.hid (HI.out.store HT.out (by rw [HLL.out]; omega) (by rw [HV.out]; rw [show (3 : Int) + ((28 * i + k : Nat) : Int) = 3 + 28 * (i : Int) + k by omega]; exact hm) hu)
          clear hm hu HST HI
          go_wp2
          go_roundw
          case rel => exact ⟨k + 1, by omega, by go_num, HI3.out⟩
          case measure => simp [intOf]; omega
        · obtain rfl : k = 28 := by omega
          have HI3 := Lib.hid (show SInv w wr l len (i + 1) (28 * (i + 1)) from HI.out)
          clear hc hints HI
          go_wp2
          go_roundw
          case rel => exact ⟨i + 1, by omega, by go_num, HI3.out⟩
          case measure => simp [intOf]; omega
    · obtain rfl : i = len := by omega
      have HE := Lib.hid (HEND.out _ HI.out)
      clear HEND HI
      go_wp2
      go_ret2
      exact HE.out
end Go.Proofs.Ytldccemgfjmcdaa
