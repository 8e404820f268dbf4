/- Law 7's Made: the right list of areas that are put one by one; law 10's Some. -/
import Derived.Test.YtohidmkfpaiklaaListR7
import Derived.Deep.WholeRow
namespace Go.Proofs.Ytohidmkfpaiklaa
open Go.RowKit
set_option linter.unusedSimpArgs false
set_option linter.unusedVariables false

theorem ArgOf.one {E : Type} {cells : E → List Value} {z : Nat} {ok : E → Prop} {w : World} {lb lo len cap i : Nat} {zs : List E} {a : E} (h : ArgOf cells z ok w (some ⟨lb, lo, none⟩) len cap zs) (ha : zs[i]? = some a) :
    ArgOf cells z ok w (some ⟨lb, lo + i * z, none⟩) 1 (cap - i) [a] := by
  have hl := h.hl
  have hle := h.le
  have hm := h.hm
  have hi : i < zs.length := (List.getElem?_eq_some_iff.1 ha).1
  refine ⟨rfl, by omega, by omega, by intro x hx; simp at hx; subst hx; exact h.good _ (List.mem_of_getElem? ha), .inr ?_⟩
  rcases h.reads with h0 | ⟨b, off, e, hlt, hc⟩
  · subst h0; simp at hi
  · injection e with e
    injection e with e1 e2
    subst e1 e2
    refine ⟨lb, lo + i * z, rfl, hlt, fun k x hx j u hu => ?_⟩
    have hk : k = 0 := by have := (List.getElem?_eq_some_iff.1 hx).1; simpa using this
    subst hk
    simp at hx
    subst hx
    rw [Nat.zero_mul, Nat.add_zero]
    exact hc i _ ha j u hu
def copyTo (s t : Spc) (q : Nat) : Spc := fun p => if p < q ∧ (t p).isSome = true then t p else s p
theorem copyTo_zero (s t : Spc) : copyTo s t 0 = s := by
  funext p
  unfold copyTo
  rw [if_neg (by omega)]
theorem copyTo_some (s t : Spc) {q : Nat} {x : AttrV} (h : t q = some x) : (copyTo s t q).upd q (some x) = copyTo s t (q + 1) := by
  funext p
  unfold Spc.upd copyTo
  by_cases e : p = q
  · subst e
    rw [if_pos rfl, if_pos ⟨by omega, by rw [h]; rfl⟩, h]
  · rw [if_neg e]
    by_cases h2 : p < q ∧ (t p).isSome = true
    · rw [if_pos h2, if_pos ⟨by omega, h2.2⟩]
    · rw [if_neg h2, if_neg (fun h3 => h2 ⟨by omega, h3.2⟩)]
theorem copyTo_none (s t : Spc) {q : Nat} (h : t q = none) : copyTo s t q = copyTo s t (q + 1) := by
  funext p
  unfold copyTo
  by_cases e : p = q
  · subst e
    rw [if_neg (by omega), if_neg (by rw [h]; simp)]
  · by_cases h2 : p < q ∧ (t p).isSome = true
    · rw [if_pos h2, if_pos ⟨by omega, h2.2⟩]
    · rw [if_neg h2, if_neg (fun h3 => h2 ⟨by omega, h3.2⟩)]
theorem spcA_congr {s s' : Spc} (h : ∀ p, p < 512 → s p = s' p) : spcA s = spcA s' := by
  unfold spcA spcL
  rw [show (List.range 512).map s = (List.range 512).map s' from List.map_congr_left fun p hp => h p (by simpa using hp)]
theorem copy_of (s : Spc) (a : AreaV) : spcA (copyTo s (ofL [a]) 512) = spcA (ofA s a) := by
  refine spcA_congr fun p hp => ?_
  have e : ofL [a] p = if a.start / 4096 ≤ (p : Int) ∧ (p : Int) < a.stop / 4096 then some (a.at_ p) else none := rfl
  have e2 : ofA s a p = if a.start / 4096 ≤ (p : Int) ∧ (p : Int) < a.stop / 4096 then some (a.at_ p) else s p := rfl
  rw [e2]
  unfold copyTo
  generalize ofL [a] p = u at *
  subst e
  by_cases h : a.start / 4096 ≤ (p : Int) ∧ (p : Int) < a.stop / 4096
  · simp only [if_pos h]
    rw [if_pos ⟨hp, rfl⟩]
  · simp only [if_neg h]
    rw [if_neg (by simp)]
def madeStep (s : Spc) (a : AreaV) : Spc := if a.formedB = true then ofA s a else s
def madeTo (l : List AreaV) (i : Nat) : Spc := (l.take i).foldl madeStep Spc.none
def madeS (l : List AreaV) : Spc := madeTo l 40
theorem madeTo_next {l : List AreaV} {i : Nat} {a : AreaV} (h : l[i]? = some a) : madeTo l (i + 1) = madeStep (madeTo l i) a := by
  unfold madeTo
  rw [List.take_add_one, h]
  simp [List.foldl_append]
theorem madeTo_all {l : List AreaV} {i : Nat} (h : l.length ≤ i ∨ i = 40) (hi : i ≤ 40) : madeTo l i = madeS l := by
  unfold madeS madeTo
  rcases h with h | h
  · rw [List.take_of_length_le h, List.take_of_length_le (by omega)]
  · rw [h]
theorem ofA_ok {s : Spc} {a : AreaV} (hs : SpcOk s) (ha : a.formedB = true) : SpcOk (ofA s a) := by
  intro p x hx
  unfold ofA ofTo at hx
  split at hx
  · rename_i h
    injection hx with hx
    subst hx
    exact at_small ha h.1 h.2
  · exact hs p x hx
theorem madeStep_ok {s : Spc} {a : AreaV} (hs : SpcOk s) : SpcOk (madeStep s a) := by
  unfold madeStep
  split
  · exact ofA_ok hs (by assumption)
  · exact hs
theorem foldMade_ok : ∀ (l : List AreaV) (s : Spc), SpcOk s → SpcOk (l.foldl madeStep s)
  | [], s, h => h
  | a :: l, s, h => foldMade_ok l _ (madeStep_ok h)
theorem madeS_ok (l : List AreaV) : SpcOk (madeS l) := foldMade_ok _ _ (fun p x h => by simp [Spc.none] at h)
set_option maxRecDepth 100000 in
set_option maxHeartbeats 4000000 in
theorem law07_made (la : Option Addr) (len cap : Nat) (zs : List AreaV) (w : World) (hz : ArgOf AreaV.cells 6 AreaV.Ok w la len cap zs) :
    Calls Try.prog 37 #[.slice la len cap] w fun e w' => ∃ A c, e = .returned (.slice A (listR (madeS zs)).length c) ∧ w'.ownsRow w.heap.size 79 6 (.slice A (listR (madeS zs)).length c) (listR (madeS zs)).length ((listR (madeS zs)).flatMap AreaV.cells) ∧ Below w.heap.size w w' := by
  have hzl := hz.hl
  have hle := hz.le
  have hzm := hz.hm
  unfold maxLen at hzm
  have HZ := Lib.hid hz
  clear hz
  go_enter Try.func37, Try.ntmps37
  go_upto_region 1 with fail
  go_wp2_with (refine Great.wpList_allocTo (P := Try.prog) rfl _ rfl _ _ (alloc_space _ _ _ rfl) ?_)
  have HB := Lib.hid (below_alloc0 w (.cells (spcA Spc.none) 125))
  have HS := Lib.hid (Blk.new w 125 (spcA Spc.none))
  generalize w.alloc (.cells (spcA Spc.none) 125) = w1 at *
  obtain ⟨sb, hsb⟩ : ∃ sb, w.heap.size = sb := ⟨_, rfl⟩
  simp only [hsb] at HS ⊢
  have HSB := Lib.hid hsb
  clear hsb
  go_loopw [4] (fun v wr => ∃ i : Nat, i ≤ len ∧ i ≤ 40 ∧ v = .int .i64 i ∧ Blk wr sb 125 (spcA (madeTo zs i)) ∧ Below w.heap.size w wr) (fun v _ => 40 - (intOf v).toNat)
  case atStart => exact ⟨0, by omega, by omega, rfl, HS.out, HB.out⟩
  case round =>
    clear HS HB
    obtain ⟨i, hi, hi40, rfl, hS, hlow⟩ := hrel
    have HS := Lib.hid hS
    have HLOW := Lib.hid hlow
    clear hS hlow
    by_cases hlt : i < len ∧ i < 40
    · obtain ⟨hlt, hlt40⟩ := hlt
      have hlti : (i : Int) < len := by omega
      have hlt4 : (i : Int) < 40 := by omega
      obtain ⟨lb, lo, a, rfl, hlb, ha, hok, hcell⟩ := HZ.out.at_ hlt
      have HNX := Lib.hid (madeTo_next ha)
      have HONE := Lib.hid (HZ.out.one ha)
      have HOK := Lib.hid hok
      have HFO := Lib.hid (fun w => ref06_formed a w hok)
      obtain ⟨x0, x1, x2, x3, x4, x5⟩ := six7 (a0 := a.start) (a1 := a.stop) (a2 := a.prot) (a3 := a.shared) (a4 := a.back) (a5 := a.off) (z := wr) (g := lb) (o := lo + i * 6) (fun j u hu => (HLOW.out.cell (p := ⟨lb, lo + i * 6 + j, none⟩) hlb).trans (hcell j u hu))
      have HLB := Lib.hid hlb
      clear hcell hlb ha hok
      obtain ⟨T, hT⟩ : ∃ T, madeTo zs i = T := ⟨_, rfl⟩
      simp only [hT] at HS HNX
      clear hT
      go_wp2_with fail
      refine (HFO.out _).mono ?_
      rintro e w2 ⟨rfl, hb⟩
      have HS2 := Lib.hid (HS.out.thru hb)
      have HL2 := Lib.hid (below_thru HLOW.out hb)
      clear hb HS HLOW HFO x0 x1 x2 x3 x4 x5
      unfold madeStep at HNX
      cases hf : a.formedB with
      | false =>
        rw [hf, if_neg (by simp)] at HNX
        clear hf
        go_wp2
        go_roundw
        case rel => exact ⟨i + 1, by omega, by omega, by go_num, by rw [HNX.out]; exact HS2.out, HL2.out⟩
        case measure => simp [intOf]; omega
      | true =>
        rw [hf, if_pos rfl] at HNX
        have HF := Lib.hid hf
        clear hf
        have ew1 : IntKind.i64.wrap ((i : Int) + 1) = i + 1 := IntWalk.i64_in _ (by omega)
        have hne : ¬ cap = i := by omega
        have hle1 : (i : Int) + 1 ≤ cap := by omega
        have hle2 : (i : Int) ≤ i + 1 := by omega
        have hle3 : (0 : Int) ≤ i := by omega
        go_wp2_with fail
        refine (ref07_of _ 1 (cap - i) [a] w2 (HONE.out.below HL2.out (Nat.le_refl _)) (by intro x hx; simp at hx; subst hx; exact HF.out) (by omega)).mono ?_
        rintro e w3 ⟨rfl, hb⟩
        have HS3 := Lib.hid (HS2.out.thru hb)
        have HL3 := Lib.hid (below_thru HL2.out hb)
        have HC := Lib.hid (copy_of T a)
        obtain ⟨t, ht⟩ : ∃ t, ofL [a] = t := ⟨_, rfl⟩
        simp only [ht] at HC ⊢
        clear hb HS2 HL2 ht
        have HT0 := Lib.hid (Blk.new w3 125 (spcA Spc.none))
        go_wp2_with (first
          | refine Great.wpList_allocTo (P := Try.prog) rfl _ rfl _ _ (alloc_space _ _ _ rfl) ?_
          | refine wpList_store_row (P := Try.prog) rfl 125 (.tmp 5) (.tmp 28) rfl w3.heap.size (spcA t) rfl rfl 125 (spcA Spc.none) HT0.out (by rw [size_space, spcA_size]) (by rw [spcA_size, spcA_size]) (spcA_one _) ?_
          | fail)
        rw [World.setRow_alloc_new]
        have HT := Lib.hid (Blk.new w3 125 (spcA t))
        have HS4 := Lib.hid (HS3.out.thru (below_alloc0 w3 (.cells (spcA t) 125)))
        have HL4 := Lib.hid (below_thru HL3.out (below_alloc0 w3 (.cells (spcA t) 125)))
        have hts := HS3.out.lt
        generalize w3.alloc (.cells (spcA t) 125) = w4 at *
        generalize w3.heap.size = tb at *
        clear HT0 HS3 HL3 ew1 hne hle1 hle2 hle3
        have HTS := Lib.hid hts
        clear hts
        go_loopw [6] (fun v wq => ∃ q : Nat, q ≤ 512 ∧ v = .int .i64 q ∧ Blk wq sb 125 (spcA (copyTo T t q)) ∧ Blk wq tb 125 (spcA t) ∧ Below w.heap.size w wq) (fun v _ => 512 - (intOf v).toNat)
        case atStart => exact ⟨0, by omega, rfl, by rw [copyTo_zero]; exact HS4.out, HT.out, HL4.out⟩
        case round =>
          clear HS4 HT HL4
          obtain ⟨q, hq, rfl, hS, hT, hlow⟩ := hrel
          have HS := Lib.hid hS
          have HT := Lib.hid hT
          have HLOW := Lib.hid hlow
          clear hS hT hlow
          by_cases hlq : q < 512
          · have hlqi : (q : Int) < 512 := by omega
            cases htq : t q with
            | none =>
              obtain ⟨m0, m1, m2, m3, m4⟩ := spc_five HT.out hlq (by rw [htq]; rfl : pageOf (t q) = [.bool false, .int .i64 0, .bool false, .int .i64 0, .int .i64 0])
              rw [copyTo_none T t htq] at HS
              clear htq
              go_wp2
              go_roundw
              case rel => exact ⟨q + 1, by omega, by go_num, HS.out, HT.out, HLOW.out⟩
              case measure => simp [intOf]; omega
            | some x =>
              obtain ⟨m0, m1, m2, m3, m4⟩ := spc_five HT.out hlq (by rw [htq]; rfl : pageOf (t q) = [.bool true, .int .i64 x.prot, .bool x.shared, .int .i64 x.back, .int .i64 x.off])
              obtain ⟨v0, v1, v2, v3, v4, hv⟩ := pageOf_five (copyTo T t q q)
              obtain ⟨n0, n1, n2, n3, n4⟩ := spc_five HS.out hlq hv
              have f0 := HS.out.free (q * 5)
              have f1 := HS.out.free (q * 5 + 1)
              have f2 := HS.out.free (q * 5 + 2)
              have f3 := HS.out.free (q * 5 + 3)
              have f4 := HS.out.free (q * 5 + 4)
              obtain ⟨x0, x1, x2, x3⟩ := x
              simp only at m1 m2 m3 m4
              have HS6 := Lib.hid (spc_put5 HS.out hlq (some ⟨x0, x1, x2, x3⟩) (v0 := .bool true) (v1 := .int .i64 x0) (v2 := .bool x1) (v3 := .int .i64 x2) (v4 := .int .i64 x3) rfl)
              have HU6 := Lib.hid (upd_cells5 wr sb (q * 5) (.bool true) (.int .i64 x0) (.bool x1) (.int .i64 x2) (.int .i64 x3))
              rw [copyTo_some T t htq] at HS6
              have HT6 := Lib.hid (HT.out.upd HU6.out (by have := HTS.out; simp; omega))
              have HL6 := Lib.hid (below_upd HLOW.out HU6.out (Nat.le_refl _) (by intro b hb; simp at hb; subst hb; rw [HSB.out]; omega))
              clear htq hv HS HT HLOW HU6
              go_wp2
              go_roundw
              case rel => exact ⟨q + 1, by omega, by go_num, HS6.out, HT6.out, HL6.out⟩
              case measure => simp [intOf]; omega
          · obtain rfl : q = 512 := by omega
            rw [HC.out] at HS
            go_wp2
            go_roundw
            case rel => exact ⟨i + 1, by omega, by omega, by go_num, by rw [HNX.out]; exact HS.out, HLOW.out⟩
            case measure => simp [intOf]; omega
    · have hE := madeTo_all (l := zs) (i := i) (by omega) hi40
      have HE := Lib.hid (show Blk wr sb 125 (spcA (madeS zs)) by rw [← hE]; exact HS.out)
      have HLI := Lib.hid (ref07_list (madeS zs) wr (madeS_ok zs))
      obtain ⟨R, hR⟩ : ∃ R, listR (madeS zs) = R := ⟨_, rfl⟩
      simp only [hR] at HLI
      have HR := Lib.hid hR
      clear hE hR HS
      have hbad : ((i : Int) < len) = False ∨ ((i : Int) < 40) = False := by
        rcases Nat.lt_or_ge i len with h | h
        · exact .inr (by simp; omega)
        · exact .inl (by simp; omega)
      by_cases hb1 : i < len
      · have hb2 : ¬ i < 40 := fun h => hlt ⟨hb1, h⟩
        have hb1i : (i : Int) < len := by omega
        have hb2i : ¬ (i : Int) < 40 := by omega
        clear hlt hbad
        go_upto_region 12 with fail
        go_wp2_with (first | refine wpList_load_row (P := Try.prog) rfl 125 (.tmp 3) rfl sb rfl 125 (spcA (madeS zs)) (0, 0) _ HE.out Try.underlying125 rfl (by rw [size_space, spcA_size]) ?_ | fail)
        refine (HLI.out).mono ?_
        rintro e w5 ⟨A, c, rfl, ho, hb⟩
        have HO := Lib.hid ho
        have HL := Lib.hid (below_thru HLOW.out hb)
        clear ho hb
        go_wp2
        go_ret
        exact ⟨A, c, by rw [HR.out]; rfl, by rw [HR.out]; exact World.ownsRow.mono HO.out HLOW.out.size, HL.out⟩
      · have hb1i : ¬ (i : Int) < len := by omega
        clear hlt hbad
        go_upto_region 12 with fail
        go_wp2_with (first | refine wpList_load_row (P := Try.prog) rfl 125 (.tmp 3) rfl sb rfl 125 (spcA (madeS zs)) (0, 0) _ HE.out Try.underlying125 rfl (by rw [size_space, spcA_size]) ?_ | fail)
        refine (HLI.out).mono ?_
        rintro e w5 ⟨A, c, rfl, ho, hb⟩
        have HO := Lib.hid ho
        have HL := Lib.hid (below_thru HLOW.out hb)
        clear ho hb
        go_wp2
        go_ret
        exact ⟨A, c, by rw [HR.out]; rfl, by rw [HR.out]; exact World.ownsRow.mono HO.out HLOW.out.size, HL.out⟩
end Go.Proofs.Ytohidmkfpaiklaa
