/- The reference of layer 19, in memory: Take, Give, Retire. -/
import Derived.Test.YtldccemgfjmcdaaGRow
import Derived.Test.YtldccemgfjmcdaaRingP19
namespace Go.Proofs.Ytldccemgfjmcdaa
open Go.RowKit
set_option linter.unusedSimpArgs false
set_option linter.unusedVariables false

def frees (l : List Nat) : List Value := l.map fun (s : Nat) => .int .i64 s
def keptCells (e : Int × Int) : List Value := [.int .i64 e.1, .int .i64 e.2]
def refRows (L : LS) (A1 : Option Addr) (c1 : Nat) (A2 : Option Addr) (c2 : Nat) (A3 : Option Addr) (c3 : Nat) (A4 : Option Addr) (c4 : Nat) : List FRow :=
  [⟨3, 1, A1, c1, L.free.length, frees L.free⟩, ⟨2, 1, A2, c2, L.gen.length, i64s L.gen⟩, ⟨4, 1, A3, c3, L.live.length, L.live.map Value.bool⟩, ⟨141, 2, A4, c4, L.ring.length, L.ring.flatMap keptCells⟩]
def Ref19 (w : World) (B rb : Nat) (L : LS) (X : List Nat) : Prop :=
  ∃ A1 c1 A2 c2 A3 c3 A4 c4, GRows w B rb 104 (refRows L A1 c1 A2 c2 A3 c3 A4 c4) [.int .i64 L.out, .int .i64 L.put, .int .i64 L.epoch] X
section
variable {w w' : World} {B rb : Nat} {L : LS} {X Y G : List Nat}
theorem Ref19.thru (h : Ref19 w B rb L X) (hb : Below w.heap.size w w') : Ref19 w' B rb L X := by
  obtain ⟨A1, c1, A2, c2, A3, c3, A4, c4, h⟩ := h
  exact ⟨A1, c1, A2, c2, A3, c3, A4, c4, h.thru hb⟩
theorem Ref19.other (h : Ref19 w B rb L X) (hu : Upd G w w') (hG : ∀ b ∈ G, b ∈ X ∨ w.heap.size ≤ b) : Ref19 w' B rb L X := by
  obtain ⟨A1, c1, A2, c2, A3, c3, A4, c4, h⟩ := h
  exact ⟨A1, c1, A2, c2, A3, c3, A4, c4, h.other hu hG⟩
theorem Ref19.more (h : Ref19 w B rb L X) (hY : ∀ b ∈ Y, b ∈ X ∨ w.heap.size ≤ b) : Ref19 w B rb L Y := by
  obtain ⟨A1, c1, A2, c2, A3, c3, A4, c4, h⟩ := h
  exact ⟨A1, c1, A2, c2, A3, c3, A4, c4, h.more hY⟩
end
/-- What keeps the numbers in their bounds. -/
structure Fits (L : LS) : Prop where
  fr : ∀ s ∈ L.free, 1 ≤ s ∧ s ≤ L.gen.length
  ll : L.live.length = L.gen.length
  gl : L.gen.length ≤ 1000
  fl : L.free.length ≤ 1000
  rl : L.ring.length ≤ 1000
  sm : Small L
theorem info_int : (Try.prog.info? 3).map (fun i => (i.zero, i.size, i.bytes)) = some (some (.int .i64 0), 1, 8) := by kernel_rfl
theorem info_kept : (Try.prog.info? 141).map (fun i => (i.zero, i.size, i.bytes)) = some (some (.agg #[.int .i64 0, .int .i64 0]), 2, 16) := by kernel_rfl
theorem frees_at {l : List Nat} {j s : Nat} (h : l[j]? = some s) : (frees l)[j]? = some (.int .i64 s) := by unfold frees; rw [List.getElem?_map, h]; rfl
theorem i64s_at {l : List Int} {j : Nat} (h : j < l.length) : (i64s l)[j]? = some (.int .i64 (l.getD j 0)) := by simp [i64s, List.getElem?_map, List.getElem?_eq_getElem h, List.getD_eq_getElem?_getD]
theorem bools_at {l : List Bool} {j : Nat} (h : j < l.length) : (l.map Value.bool)[j]? = some (.bool (l.getD j false)) := by simp [List.getElem?_map, List.getElem?_eq_getElem h, List.getD_eq_getElem?_getD]
def RefPost (w : World) (B rb : Nat) (L' : LS) (X : List Nat) (x : Value) (e : Ending) (w' : World) : Prop := e = .returned x ∧ Ref19 w' B rb L' X ∧ Off B X w w'
set_option maxRecDepth 100000 in
set_option maxHeartbeats 4000000 in
theorem ref19_take (B rb : Nat) (L : LS) (X : List Nat) (w : World) (h : Ref19 w B rb L X) (hX : ∀ b ∈ X, b < w.heap.size) (hf : Fits L) :
    Calls Try.prog 44 #[.pointer (some ⟨rb, 0, none⟩)] w (RefPost w B rb L.take.2 X (.int .i64 L.take.1)) := by
  obtain ⟨A1, c1, A2, c2, A3, c3, A4, c4, hg⟩ := h
  have HG := Lib.hid hg
  have HX := Lib.hid hX
  have HF := Lib.hid hf
  have f0 := HG.out.field (k := 0) rfl
  have f1 := HG.out.field (k := 1) rfl
  have f2 := HG.out.field (k := 2) rfl
  simp only [FRow.val] at f0 f1 f2
  clear hg hX hf
  cases hfree : L.free with
  | nil =>
    have HR := Lib.hid (show RefPost w B rb L.take.2 X (.int .i64 L.take.1) (.returned (.int .i64 0)) w by
      unfold LS.take
      rw [hfree]
      exact ⟨rfl, ⟨A1, c1, A2, c2, A3, c3, A4, c4, HG.out⟩, Off.refl⟩)
    rw [hfree] at f0
    simp only [List.length_nil] at f0
    clear hfree
    go_enter Try.func44, Try.ntmps44
    go_wp2
    go_ret
    exact HR.out
  | cons s l =>
    have hs := HF.out.fr s (by rw [hfree]; simp)
    obtain ⟨q, rfl⟩ : ∃ q, s = q + 1 := ⟨s - 1, by omega⟩
    have HT := Lib.hid (show L.take = (L.gen.getD q 0 * 65536 + 65536 + ((q + 1 : Nat) : Int), { L with free := l, gen := L.gen.set q (L.gen.getD q 0 + 1), live := L.live.set q true }) by unfold LS.take; rw [hfree]; rfl)
    obtain ⟨g1, rfl, e1, -⟩ := HG.out.elem (k := 0) (r := ⟨3, 1, A1, c1, L.free.length, frees L.free⟩) rfl (j := 0) (frees_at (by rw [hfree]; rfl))
    rw [show (((q + 1 : Nat) : Int)) = (q : Int) + 1 by omega] at e1
    have hfl := HF.out.fl
    have hgl := HF.out.gl
    have hll := HF.out.ll
    rw [hfree] at f0 hfl
    simp only [List.length_cons] at f0 hfl
    obtain ⟨g0, hg0⟩ : ∃ g0, L.gen.getD q 0 = g0 := ⟨_, rfl⟩
    have hsm := getD_small (i := q) HF.out.sm.1
    rw [hg0] at hsm HT
    have HG0 := Lib.hid hg0
    clear hg0
    have hq1 : (q : Int) < L.gen.length := by omega
    have hq2 : (q : Int) < L.live.length := by omega
    have hq3 : (L.gen.length : Int) ≤ 1000 := by omega
    have hb0 := below_alloc0 w (.cells #[] 3)
    have HG1 := Lib.hid (HG.out.thru hb0)
    have HB1 := Lib.hid hb0
    have k0 := HG1.out.field (k := 0) rfl
    simp only [FRow.val] at k0
    rw [hfree] at k0
    simp only [List.length_cons] at k0
    have hcap := own_cap (HG.out.own ⟨3, 1, some ⟨g1, 0, none⟩, c1, L.free.length, frees L.free⟩ (by simp [refRows]))
    simp only [hfree, List.length_cons] at hcap
    obtain ⟨i0, hi0, hz0, hz1, hz2⟩ := info_parts info_int
    have hnew := heap_alloc_new w (.cells #[] 3)
    have hnews : ∀ j u, (frees l)[j]? = some u → (w.alloc (.cells #[] 3)).cell? ((if c1 = 1 then (⟨g1, 0, none⟩ : Addr) else ⟨g1, 1, none⟩).add j) = some u := by
      intro j u hu
      have hjl : j < l.length := by have := (List.getElem?_eq_some_iff.1 hu).1; simpa [frees] using this
      rw [if_neg (by omega)]
      obtain ⟨g, hga, hc, -⟩ := HG1.out.elem (k := 0) (r := ⟨3, 1, some ⟨g1, 0, none⟩, c1, L.free.length, frees L.free⟩) rfl (j := 1 + j) (u := u) (by rw [hfree]; simp only [frees, List.map_cons, Nat.add_comm 1 j, List.getElem?_cons_succ]; exact hu)
      injection hga with hga
      injection hga with hga
      subst hga
      cases j <;> simpa [Addr.add] using hc
    have hs0 : (w.alloc (.cells #[] 3)).ownsRow B 3 1 (.slice (some ⟨w.heap.size, 0, none⟩) 0 0) 0 [] := ⟨rfl, .inr ⟨w.heap.size, 0, #[], rfl, Nat.le_trans HG.out.lo (Nat.le_of_lt HG.out.blk.lt), hnew, Nat.le_refl _, Nat.zero_le _, rfl, rfl⟩⟩
    have HNW := Lib.hid hnews
    have HS0 := Lib.hid hs0
    clear hnews hs0 hnew hb0 hfree hs
    go_enter Try.func44, Try.ntmps44
    go_upto_region 5 with (at_builtin; refine wpList_append_part (P := Try.prog) _ rfl (.tmp 17) (.tmp 22) 100 rfl B 3 i0 _ 1 8 Try.underlying100 hi0 hz0 hz1 hz2 rfl (by decide) (some ⟨w.heap.size, 0, none⟩) 0 0 [] rfl HS0.out _ (if c1 = 1 then (⟨g1, 0, none⟩ : Addr) else ⟨g1, 1, none⟩) l.length (c1 - 1) (frees l) rfl (by split <;> rfl) (by simp [frees]) HNW.out (by simp [frees, Value.oneCell']) (by unfold maxLen; omega) (by omega) (by simp; have := HG.out.lo; have := HG.out.blk.lt; omega) ?_; intro A' cap w4 hown hu4 hb4; simp only [Nat.zero_add, List.nil_append] at hown; obtain ⟨hg5, ho5, c8, f8⟩ := HG.out.setRow (k := 0) (w4 := w4) (r' := ⟨3, 1, A', cap, l.length, frees l⟩) rfl (((Upd.refl _ _).alloc _).trans_new hu4 (by intro b hb; simp [blockOf] at hb; subst hb; exact .inr (Nat.le_refl _))) hown (show 3 ≠ 104 by decide) (fun b hb => .inr ((hb4 b hb).elim (fun h => by simp [blockOf] at h; omega) (fun h => by simp at h; omega))) HX.out; simp only [FRow.val] at c8)
    have HG5 := Lib.hid hg5
    have HO5 := Lib.hid ho5
    clear hg5 ho5 c8 f8 hown hu4 hb4 k0 f0 f1 f2 e1 hcap HNW HS0 HG1 HB1
    simp only [FRow.val] at HG5 HO5 ⊢
    generalize w4.setCell ⟨rb, 0, none⟩ (.slice A' l.length cap) = w5 at *
    have f1 := HG5.out.field (k := 1) rfl
    obtain ⟨g2, rfl, e2, z2⟩ := HG5.out.elem (k := 1) (r := ⟨2, 1, A2, c2, L.gen.length, i64s L.gen⟩) rfl (j := q) (i64s_at (by omega))
    rw [HG0.out] at e2
    simp only [FRow.val] at f1
    obtain ⟨hg6, ho6⟩ := HG5.out.putCell (k := 1) (r := ⟨2, 1, some ⟨g2, 0, none⟩, c2, L.gen.length, i64s L.gen⟩) rfl (j := q) (v := .int .i64 (g0 + 1)) (i64s_at (by omega)) rfl
    go_upto_region 6 with fail
    have HG6 := Lib.hid hg6
    have HO6 := Lib.hid (HO5.out.trans ho6)
    clear hg6 ho6 HG5 HO5 f1 e2 z2
    generalize w5.setCell ⟨g2, q, none⟩ (.int .i64 (g0 + 1)) = w6 at *
    have f2 := HG6.out.field (k := 2) rfl
    obtain ⟨g3, rfl, e3, z3⟩ := HG6.out.elem (k := 2) (r := ⟨4, 1, A3, c3, L.live.length, L.live.map Value.bool⟩) rfl (j := q) (bools_at (by omega))
    simp only [FRow.val] at f2
    obtain ⟨hg7, ho7⟩ := HG6.out.putCell (k := 2) (r := ⟨4, 1, some ⟨g3, 0, none⟩, c3, L.live.length, L.live.map Value.bool⟩) rfl (j := q) (v := .bool true) (bools_at (by omega)) rfl
    go_upto_region 7 with fail
    have HG7 := Lib.hid hg7
    have HO7 := Lib.hid (HO6.out.trans ho7)
    clear hg7 ho7 HG6 HO6 f2 e3 z3
    generalize w6.setCell ⟨g3, q, none⟩ (.bool true) = w7 at *
    have f1 := HG7.out.field (k := 1) rfl
    obtain ⟨g2', hg2, e2, z2⟩ := HG7.out.elem (k := 1) (r := ⟨2, 1, some ⟨g2, 0, none⟩, c2, L.gen.length, (i64s L.gen).set q (.int .i64 (g0 + 1))⟩) rfl (j := q) (u := .int .i64 (g0 + 1)) (by simp only; rw [List.getElem?_set_self (by simp [i64s]; omega)])
    simp only [FRow.val] at f1
    injection hg2 with hg2
    injection hg2 with hg2
    subst hg2
    have HR := Lib.hid (show RefPost w B rb L.take.2 X (.int .i64 L.take.1) (.returned (.int .i64 ((g0 + 1) * 65536 + ((q : Int) + 1)))) w7 by
      rw [HT.out]
      refine ⟨by congr 2; omega, ⟨A', cap, some ⟨g2, 0, none⟩, c2, some ⟨g3, 0, none⟩, c3, A4, c4, ?_⟩, HO7.out⟩
      have := HG7.out
      unfold refRows at this ⊢
      simp only [List.set_cons_zero, List.set_cons_succ] at this
      simpa [i64s, List.map_set] using this)
    clear HG7 HO7 HT HF HX HG
    go_wp2
    all_goals go_ret
    all_goals exact HR.out
/-- Give: a slot that is in bounds. -/
def giveOk (L : LS) (h : Int) : Prop := 0 ≤ h ∧ h < 9223372036854775808 ∧ 1 ≤ h % 65536 ∧ (h % 65536).toNat ≤ L.live.length
set_option maxRecDepth 100000 in
set_option maxHeartbeats 4000000 in
theorem ref19_give (hd : Int) (B rb : Nat) (L : LS) (X : List Nat) (w : World) (h : Ref19 w B rb L X) (hX : ∀ b ∈ X, b < w.heap.size) (hfl : L.free.length ≤ 1000) (hll : L.live.length ≤ 1000) (hok : giveOk L hd) :
    Calls Try.prog 45 #[.pointer (some ⟨rb, 0, none⟩), .int .i64 hd] w (RefPost w B rb (L.give hd) X (.tuple #[])) := by
  obtain ⟨A1, c1, A2, c2, A3, c3, A4, c4, hg⟩ := h
  have HG := Lib.hid hg
  have HX := Lib.hid hX
  obtain ⟨h0, h1, h2, h3⟩ := hok
  obtain ⟨q, hq⟩ : ∃ q : Nat, hd % 65536 = (q : Int) + 1 := ⟨(hd % 65536 - 1).toNat, by omega⟩
  have hqn : (hd % 65536).toNat = q + 1 := by omega
  have HGV := Lib.hid (show L.give hd = { L with free := (q + 1) :: L.free, live := L.live.set q false } by unfold LS.give; rw [hqn]; rfl)
  have hq2 : (q : Int) < L.live.length := by omega
  have htm : hd.tmod 65536 = (q : Int) + 1 := by rw [Int.tmod_eq_emod_of_nonneg h0]; exact hq
  have HLO := Lib.hid (show B ≤ w.heap.size from Nat.le_trans HG.out.lo (Nat.le_of_lt HG.out.blk.lt))
  clear hg hX h2 h3 hq hqn
  obtain ⟨i0, hi0, hz0, hz1, hz2⟩ := info_parts info_int
  go_enter Try.func45, Try.ntmps45
  go_upto_region 2 with fail
  have hn0 := heap_alloc_new w (.cells #[.int .i64 ((q : Int) + 1)] 3)
  have HG1 := Lib.hid (HG.out.thru (below_alloc0 w (.cells #[.int .i64 ((q : Int) + 1)] 3)))
  have HS1 := Lib.hid (show (w.alloc (.cells #[.int .i64 ((q : Int) + 1)] 3)).ownsRow B 3 1 (.slice (some ⟨w.heap.size, 0, none⟩) 1 1) 1 (frees ((q + 1) :: L.free.take 0)) from ⟨rfl, .inr ⟨w.heap.size, 1, _, rfl, HLO.out, hn0, Nat.le_refl _, by decide, rfl, by simp [frees]⟩⟩)
  have HU1 := Lib.hid (show Upd [] w (w.alloc (.cells #[.int .i64 ((q : Int) + 1)] 3)) from (Upd.refl _ _).alloc _)
  have HN1 := Lib.hid (show ∀ b ∈ blockOf (some (⟨w.heap.size, 0, none⟩ : Addr)), w.heap.size ≤ b by simp [blockOf])
  clear hn0
  generalize w.alloc (.cells #[.int .i64 ((q : Int) + 1)] 3) = w1 at *
  go_wp2_with fail
  go_loopw [5, 6] (fun v i wr => ∃ (A : Option Addr) (c j : Nat), j ≤ L.free.length ∧ v = .slice A (1 + j) c ∧ i = .int .i64 j ∧ wr.ownsRow B 3 1 (.slice A (1 + j) c) (1 + j) (frees ((q + 1) :: L.free.take j)) ∧ Upd [] w wr ∧ ∀ b ∈ blockOf A, w.heap.size ≤ b) (fun _ i _ => L.free.length - (intOf i).toNat)
  case atStart => exact ⟨_, _, 0, by omega, rfl, rfl, HS1.out, HU1.out, HN1.out⟩
  case round =>
    clear HG1 HS1 HU1 HN1
    obtain ⟨A, c, j, hj, rfl, rfl, hs, hu, hn⟩ := hrel
    have HS := Lib.hid hs
    have HU := Lib.hid hu
    have HN := Lib.hid hn
    have HGR := Lib.hid (HG.out.other (G := []) hu (by simp))
    have f0 := HGR.out.field (k := 0) rfl
    simp only [FRow.val] at f0
    have HSZ := Lib.hid (show w.heap.size ≤ wr.heap.size from hu.size)
    clear hs hu hn
    by_cases hlt : j < L.free.length
    · have hlti : (j : Int) < L.free.length := by omega
      obtain ⟨s, hs⟩ : ∃ s, L.free[j]? = some s := ⟨_, List.getElem?_eq_getElem hlt⟩
      obtain ⟨g1, rfl, e1, -⟩ := HGR.out.elem (k := 0) (r := ⟨3, 1, A1, c1, L.free.length, frees L.free⟩) rfl (j := j) (frees_at hs)
      have HTK := Lib.hid (show frees ((q + 1) :: L.free.take j) ++ [.int .i64 (s : Int)] = frees ((q + 1) :: L.free.take (j + 1)) by
        simp only [frees, List.map_cons, List.cons_append, List.take_add_one, hs, Option.toList, List.map_append, List.map_nil])
      have f0 := (HGR.out.thru (below_alloc0 wr (.cells #[.int .i64 (s : Int)] 3))).field (k := 0) rfl
      clear hs
      go_wp2_with (at_builtin; refine wpList_append_lies (P := Try.prog) _ rfl (.tmp 20) (.tmp 28) 100 rfl B 3 i0 _ 1 8 Try.underlying100 hi0 hz0 hz1 hz2 rfl (by decide) (.slice A (1 + j) c) (1 + j) (frees ((q + 1) :: L.free.take j)) rfl (HS.out.alloc _) ⟨wr.heap.size, 0, none⟩ 1 1 [.int .i64 (s : Int)] rfl rfl (World.news_of_block (cs := #[.int .i64 (s : Int)]) (t := 3) (fr := (0, 0)) (heap_alloc_new wr _)) (by simp [Value.oneCell']) (by omega) (by unfold maxLen; omega) (by omega) (by simp; have := HLO.out; have := HSZ.out; omega) (wr.heap.size + 1) (by simp) ?_; intro g cap' w4 hown hgrow hat hlt'; have HO4 := Lib.hid hown; have HU4 := Lib.hid (((HU.out.alloc _).grown hgrow (fun b hb => .inr (HN.out b (blockOf_own.1 hb))))); have HN4 := Lib.hid (show ∀ b ∈ blockOf (some (⟨g, 0, none⟩ : Addr)), w.heap.size ≤ b from fun b hb => by simp [blockOf] at hb; subst hb; rcases hat with e | e; exact HN.out _ (blockOf_own.1 e); have := HSZ.out; omega); clear hown hgrow hat hlt')
      rw [HTK.out] at HO4
      go_roundw
      case rel => exact ⟨_, cap', j + 1, by omega, by rfl, by go_num, HO4.out, HU4.out, HN4.out⟩
      case measure => simp [intOf]; omega
    · obtain rfl : j = L.free.length := by omega
      rw [List.take_length] at HS
      obtain ⟨hg5, ho5, c8, f8⟩ := HG.out.setRow (k := 0) (w4 := wr) (r' := ⟨3, 1, A, c, 1 + L.free.length, frees ((q + 1) :: L.free)⟩) rfl (HU.out.mono (by simp)) HS.out (show 3 ≠ 104 by decide) (fun b hb => .inr (HN.out b hb)) HX.out
      simp only [FRow.val] at c8 hg5 ho5
      go_upto_region 7 with fail
      have HG5 := Lib.hid hg5
      have HO5 := Lib.hid ho5
      clear hg5 ho5 c8 f8 HGR HS HU HN f0
      generalize wr.setCell ⟨rb, 0, none⟩ (.slice A (1 + L.free.length) c) = w5 at *
      have f2 := HG5.out.field (k := 2) rfl
      obtain ⟨g3, rfl, e3, z3⟩ := HG5.out.elem (k := 2) (r := ⟨4, 1, A3, c3, L.live.length, L.live.map Value.bool⟩) rfl (j := q) (bools_at (by omega))
      simp only [FRow.val] at f2
      obtain ⟨hg7, ho7⟩ := HG5.out.putCell (k := 2) (r := ⟨4, 1, some ⟨g3, 0, none⟩, c3, L.live.length, L.live.map Value.bool⟩) rfl (j := q) (v := .bool false) (bools_at (by omega)) rfl
      have HR := Lib.hid (show RefPost w B rb (L.give hd) X (.tuple #[]) (.returned (.tuple #[])) (w5.setCell ⟨g3, q, none⟩ (.bool false)) by
        rw [HGV.out]
        refine ⟨rfl, ⟨A, c, A2, c2, some ⟨g3, 0, none⟩, c3, A4, c4, ?_⟩, HO5.out.trans ho7⟩
        have := hg7
        unfold refRows at this ⊢
        simp only [List.set_cons_zero, List.set_cons_succ] at this
        simpa [List.map_set, Nat.add_comm] using this)
      clear hg7 ho7 HG5 HO5 HGV HX HG
      go_wp2
      go_end0
      exact HR.out
theorem flat_kept_snoc (l : List (Int × Int)) (e : Int × Int) : l.flatMap keptCells ++ keptCells e = (l ++ [e]).flatMap keptCells := by simp
set_option maxRecDepth 100000 in
set_option maxHeartbeats 4000000 in
theorem ref19_retire (hd tag : Int) (B rb : Nat) (L : LS) (X : List Nat) (w : World) (h : Ref19 w B rb L X) (hX : ∀ b ∈ X, b < w.heap.size) (hrl : L.ring.length ≤ 1000) (hp : -100000000000 < L.put ∧ L.put < 100000000000) :
    Calls Try.prog 46 #[.pointer (some ⟨rb, 0, none⟩), .int .i64 hd, .int .i64 tag] w (RefPost w B rb (L.retire hd tag) X (.tuple #[])) := by
  obtain ⟨A1, c1, A2, c2, A3, c3, A4, c4, hg⟩ := h
  have HG := Lib.hid hg
  have HX := Lib.hid hX
  have HLO := Lib.hid (show B ≤ w.heap.size from Nat.le_trans HG.out.lo (Nat.le_of_lt HG.out.blk.lt))
  clear hg hX
  obtain ⟨i0, hi0, hz0, hz1, hz2⟩ := info_parts info_kept
  have k0 := HG.out.field (k := 3) rfl
  simp only [FRow.val] at k0
  have HOWN := Lib.hid (HG.out.own ⟨141, 2, A4, c4, L.ring.length, L.ring.flatMap keptCells⟩ (by simp [refRows]))
  go_enter Try.func46, Try.ntmps46
  go_upto_region 1 with (at_builtin; refine wpList_append_lies (P := Try.prog) _ rfl (.tmp 10) (.tmp 14) 102 rfl B 141 i0 _ 2 16 (by kernel_rfl) hi0 hz0 hz1 hz2 rfl (by decide) (.slice A4 L.ring.length c4) L.ring.length (L.ring.flatMap keptCells) rfl (HOWN.out.alloc _) ⟨w.heap.size, 0, none⟩ 1 1 [.int .i64 hd, .int .i64 tag] rfl rfl (World.news_of_block (cs := #[.int .i64 hd, .int .i64 tag]) (t := 141) (fr := (0, 0)) (heap_alloc_new w _)) (by simp [Value.oneCell']) (by omega) (by unfold maxLen; omega) (by omega) (by simp; have := HLO.out; omega) (w.heap.size + 1) (by simp) ?_; intro g cap' w4 hown hgrow hat hlt'; obtain ⟨hg5, ho5, c8, f8⟩ := HG.out.append (k := 3) (m := 1) (r := ⟨141, 2, A4, c4, L.ring.length, L.ring.flatMap keptCells⟩) rfl hown hgrow hat HX.out; simp only [FRow.val] at c8)
  have HG5 := Lib.hid hg5
  have HO5 := Lib.hid ho5
  clear hg5 ho5 c8 f8 hown hgrow hat hlt' k0 HOWN
  generalize w4.setCell ⟨rb, 3, none⟩ (.slice (some ⟨g, 0, none⟩) (L.ring.length + 1) cap') = w5 at *
  have f5 := HG5.out.blk.at_ (i := 5) (v := .int .i64 L.put) rfl
  have z5 := HG5.out.blk.free 5
  obtain ⟨hg6, ho6⟩ := HG5.out.putTail 1 (.int .i64 (L.put + 1))
  have HR := Lib.hid (show RefPost w B rb (L.retire hd tag) X (.tuple #[]) (.returned (.tuple #[])) (w5.setCell ⟨rb, 5, none⟩ (.int .i64 (L.put + 1))) from by
    refine ⟨rfl, ⟨A1, c1, A2, c2, A3, c3, some ⟨g, 0, none⟩, cap', ?_⟩, HO5.out.trans ho6⟩
    have := hg6
    unfold refRows at this ⊢
    simp only [List.set_cons_zero, List.set_cons_succ] at this
    simpa [LS.retire, keptCells] using this)
  clear hg6 ho6 HG5 HO5 HX HG
  go_wp2
  go_end0
  exact HR.out
end Go.Proofs.Ytldccemgfjmcdaa
