/- Layer 7: the reference's spaces (512 pages): how they lie; Of. -/
import Derived.Test.YtohidmkfpaiklaaRefR7
import Derived.Great.Walk
import Derived.Great.Ranges
namespace Go.Proofs.Ytohidmkfpaiklaa
open Go.RowKit
set_option linter.unusedSimpArgs false
set_option linter.unusedVariables false

/-- A space: of each page what it has, or nothing. -/
abbrev Spc := Nat → Option AttrV
def pageOf : Option AttrV → List Value
  | none => [.bool false, .int .i64 0, .bool false, .int .i64 0, .int .i64 0]
  | some x => [.bool true, .int .i64 x.prot, .bool x.shared, .int .i64 x.back, .int .i64 x.off]
theorem pageOf_len (x : Option AttrV) : (pageOf x).length = 5 := by cases x <;> rfl
def spcL (s : Spc) : List Value := ((List.range 512).map s).flatMap pageOf
def spcA (s : Spc) : Array Value := (spcL s).toArray
def Spc.upd (s : Spc) (p : Nat) (x : Option AttrV) : Spc := fun q => if q = p then x else s q
theorem spcL_len (s : Spc) : (spcL s).length = 2560 := by
  unfold spcL
  rw [flat_len pageOf_len]
  simp
theorem spcA_size (s : Spc) : (spcA s).size = 2560 := by unfold spcA; rw [List.size_toArray, spcL_len]
theorem spcL_get (s : Spc) {p j : Nat} (hp : p < 512) (hj : j < 5) : (spcL s)[p * 5 + j]? = (pageOf (s p))[j]? := by
  unfold spcL
  exact flat_get pageOf_len _ p (s p) j (by simp [List.getElem?_range hp]) hj
theorem spcA_get (s : Spc) {p j : Nat} (hp : p < 512) (hj : j < 5) : (spcA s)[p * 5 + j]? = (pageOf (s p))[j]? := by
  unfold spcA
  rw [List.getElem?_toArray, spcL_get s hp hj]
theorem spcA_put (s : Spc) {p : Nat} (hp : p < 512) (x : Option AttrV) {v0 v1 v2 v3 v4 : Value} (hx : pageOf x = [v0, v1, v2, v3, v4]) :
    (((((spcA s).setIfInBounds (p * 5) v0).setIfInBounds (p * 5 + 1) v1).setIfInBounds (p * 5 + 2) v2).setIfInBounds (p * 5 + 3) v3).setIfInBounds (p * 5 + 4) v4 = spcA (s.upd p x) := by
  apply Array.ext'
  unfold spcA
  simp only [List.setIfInBounds_toArray]
  have e : (List.range 512).map (s.upd p x) = ((List.range 512).map s).set p x := by
    apply List.ext_getElem?
    intro k
    rw [List.getElem?_set]
    simp only [List.getElem?_map, List.length_map, List.length_range]
    by_cases hk : p = k
    · subst hk
      rw [if_pos rfl, if_pos hp, List.getElem?_range hp]
      simp [Spc.upd]
    · rw [if_neg hk]
      rcases Nat.lt_or_ge k 512 with h | h
      · rw [List.getElem?_range h]
        simp [Spc.upd, Ne.symm hk]
      · rw [List.getElem?_eq_none (by simpa using h)]
        rfl
  have e2 : spcL (s.upd p x) = (((List.range 512).map s).set p x).flatMap pageOf := by unfold spcL; rw [e]
  rw [e2]
  have hl : (((((spcL s).set (p * 5) v0).set (p * 5 + 1) v1).set (p * 5 + 2) v2).set (p * 5 + 3) v3).length = 2560 := by simp [spcL_len]
  refine flat_put pageOf_len _ _ p x (by simp [spcL_len]) (by simpa using hp) ?_ ?_
  · intro j hj
    rw [hx]
    have hl := spcL_len s
    obtain rfl | rfl | rfl | rfl | rfl : j = 0 ∨ j = 1 ∨ j = 2 ∨ j = 3 ∨ j = 4 := by omega
    all_goals simp only [List.getElem?_set, List.length_set, hl, Nat.add_zero]
    all_goals simp
    all_goals omega
  · intro k hk
    rw [List.getElem?_set_ne (by omega), List.getElem?_set_ne (by omega), List.getElem?_set_ne (by omega), List.getElem?_set_ne (by omega), List.getElem?_set_ne (by omega)]
    rfl
def Spc.none : Spc := fun _ => Option.none
theorem zero_space : (Try.prog.info? 125).bind (·.zero) = some (.agg ((List.range 512).flatMap (fun _ => [Value.bool false, .int .i64 0, .bool false, .int .i64 0, .int .i64 0])).toArray) := by kernel_rfl
theorem size_space : (Try.prog.info? 125).map (·.size) = some 2560 := by kernel_rfl
theorem spcA_none : spcA Spc.none = ((List.range 512).flatMap (fun _ => [Value.bool false, .int .i64 0, .bool false, .int .i64 0, .int .i64 0])).toArray := by
  unfold spcA spcL
  rw [List.flatMap_map]
  rfl
/-- A new variable of a type whose zero value is known. -/
theorem run_alloc_zero {P : Program} (w : World) (t : TypeId) (cs : Array Value) (hz : (P.info? t).bind (·.zero) = some (.agg cs)) (ρ : Operand → Value) (o : Oper) (ho : o.op = .alloc t) :
    (execOp ρ o).run P w = .ok (.value (.pointer (some ⟨w.heap.size, 0, none⟩))) (w.alloc (.cells cs t)) := by
  cases hi : P.info? t with
  | none => simp [hi] at hz
  | some i =>
    simp only [hi, Option.bind_some] at hz
    unfold execOp
    rw [ho]
    simp [go_sem, Instr.alloc, zeroValue, typeInfo, hi, hz, newVar, newRow, Value.cells]
theorem alloc_space (w : World) (ρ : Operand → Value) (o : Oper) (ho : o.op = .alloc 125) :
    (execOp ρ o).run Try.prog w = .ok (.value (.pointer (some ⟨w.heap.size, 0, none⟩))) (w.alloc (.cells (spcA Spc.none) 125)) :=
  run_alloc_zero w _ _ (by rw [spcA_none]; exact zero_space) ρ o ho
/-- The pages of one area more, those ahead of q. -/
def ofTo (s : Spc) (a : AreaV) (q : Int) : Spc := fun p => if a.start / 4096 ≤ p ∧ (p : Int) < q then some (a.at_ p) else s p
def ofA (s : Spc) (a : AreaV) : Spc := ofTo s a (a.stop / 4096)
def ofL (l : List AreaV) : Spc := l.foldl ofA Spc.none
theorem ofTo_start (s : Spc) (a : AreaV) : ofTo s a (a.start / 4096) = s := by
  funext p
  unfold ofTo
  rw [if_neg (by omega)]
theorem ofTo_next (s : Spc) (a : AreaV) {q : Nat} (h : a.start / 4096 ≤ q) : (ofTo s a q).upd q (some (a.at_ q)) = ofTo s a ((q : Int) + 1) := by
  funext p
  unfold Spc.upd ofTo
  by_cases e : p = q
  · subst e
    rw [if_pos rfl, if_pos (by omega)]
  · rw [if_neg e]
    by_cases h2 : a.start / 4096 ≤ (p : Int) ∧ (p : Int) < (q : Int)
    · rw [if_pos h2, if_pos (by omega)]
    · rw [if_neg h2, if_neg (by omega)]
theorem ofL_snoc (l : List AreaV) (a : AreaV) : ofL (l ++ [a]) = ofA (ofL l) a := by simp [ofL, List.foldl_append]
theorem pageOf_five (x : Option AttrV) : ∃ v0 v1 v2 v3 v4, pageOf x = [v0, v1, v2, v3, v4] := by
  cases x <;> exact ⟨_, _, _, _, _, rfl⟩
theorem spc_five {w : World} {b : Nat} {ty : TypeId} {s : Spc} (h : Blk w b ty (spcA s)) {p : Nat} (hp : p < 512) {v0 v1 v2 v3 v4 : Value} (hx : pageOf (s p) = [v0, v1, v2, v3, v4]) :
    w.cell? ⟨b, p * 5, none⟩ = some v0 ∧ w.cell? ⟨b, p * 5 + 1, none⟩ = some v1 ∧ w.cell? ⟨b, p * 5 + 2, none⟩ = some v2 ∧ w.cell? ⟨b, p * 5 + 3, none⟩ = some v3 ∧ w.cell? ⟨b, p * 5 + 4, none⟩ = some v4 := by
  have g := fun j (hj : j < 5) => spcA_get s hp hj
  rw [hx] at g
  exact ⟨h.at_ (g 0 (by omega)), h.at_ (g 1 (by omega)), h.at_ (g 2 (by omega)), h.at_ (g 3 (by omega)), h.at_ (g 4 (by omega))⟩
theorem spc_put5 {w : World} {b : Nat} {ty : TypeId} {s : Spc} (h : Blk w b ty (spcA s)) {p : Nat} (hp : p < 512) (x : Option AttrV) {v0 v1 v2 v3 v4 : Value} (hx : pageOf x = [v0, v1, v2, v3, v4]) :
    Blk (((((w.setCell ⟨b, p * 5, none⟩ v0).setCell ⟨b, p * 5 + 1, none⟩ v1).setCell ⟨b, p * 5 + 2, none⟩ v2).setCell ⟨b, p * 5 + 3, none⟩ v3).setCell ⟨b, p * 5 + 4, none⟩ v4) b ty (spcA (s.upd p x)) := by
  rw [← spcA_put s hp x hx]
  exact ((((h.put _ v0).put _ v1).put _ v2).put _ v3).put _ v4
theorem upd_cells5 (w : World) (b o : Nat) (v0 v1 v2 v3 v4 : Value) : Upd [b] w (((((w.setCell ⟨b, o, none⟩ v0).setCell ⟨b, o + 1, none⟩ v1).setCell ⟨b, o + 2, none⟩ v2).setCell ⟨b, o + 3, none⟩ v3).setCell ⟨b, o + 4, none⟩ v4) :=
  (((((Upd.refl [b] w).put (p := ⟨b, o, none⟩) (.inl (by simp)) v0).put (p := ⟨b, o + 1, none⟩) (.inl (by simp)) v1).put (p := ⟨b, o + 2, none⟩) (.inl (by simp)) v2).put (p := ⟨b, o + 3, none⟩) (.inl (by simp)) v3).put (p := ⟨b, o + 4, none⟩) (.inl (by simp)) v4
theorem spcA_one (s : Spc) : (spcA s).all (·.oneCell') = true := by
  unfold spcA
  rw [List.all_toArray, List.all_eq_true]
  intro v hv
  unfold spcL at hv
  rw [List.mem_flatMap] at hv
  obtain ⟨x, -, hv⟩ := hv
  cases x <;> simp only [pageOf, List.mem_cons, List.not_mem_nil, or_false] at hv <;> rcases hv with rfl | rfl | rfl | rfl | rfl <;> rfl
theorem upd_setRow (w : World) (b : Nat) (cs : Array Value) : Upd [b] w (w.setRow b cs) := by
  refine ⟨rfl, rfl, rfl, by simp [World.setRow], fun i hi hn => ?_⟩
  simp only [World.setRow, Array.getElem?_modify]
  rw [if_neg (by simp at hn; exact fun e => hn e.symm)]
set_option maxRecDepth 100000 in
set_option maxHeartbeats 4000000 in
theorem ref07_of (la : Option Addr) (len cap : Nat) (zs : List AreaV) (w : World) (hz : ArgOf AreaV.cells 6 AreaV.Ok w la len cap zs) (hf : ∀ a ∈ zs, a.formedB = true) (hlen : len ≤ 1000) :
    Calls Try.prog 64 #[.slice la len cap] w fun e w' => e = .returned (.agg (spcA (ofL zs))) ∧ Below w.heap.size w w' := by
  have hzl := hz.hl
  have HZ := Lib.hid hz
  have HF := Lib.hid hf
  have HB := Lib.hid (Below.refl w.heap.size w)
  clear hz hf
  go_enter Try.func64, Try.ntmps64
  go_upto_region 0 with fail
  go_wp2_with (refine Great.wpList_allocTo (P := Try.prog) rfl _ rfl _ _ (alloc_space _ _ _ rfl) ?_)
  have hb1 : Below w.heap.size w ((w.alloc (.cells (spcA Spc.none) 125)).alloc (.cells (spcA Spc.none) 125)) := below_thru (below_alloc0 _ _) (below_alloc0 _ _)
  have hR : Blk ((w.alloc (.cells (spcA Spc.none) 125)).alloc (.cells (spcA Spc.none) 125)) w.heap.size 125 (spcA Spc.none) := (Blk.new w _ _).thru (below_alloc0 _ _)
  have hS := Blk.new (w.alloc (.cells (spcA Spc.none) 125)) 125 (spcA Spc.none)
  rw [World.size_alloc] at hS
  generalize (w.alloc (.cells (spcA Spc.none) 125)).alloc (.cells (spcA Spc.none) 125) = w2 at *
  obtain ⟨rb, hrb⟩ : ∃ rb, w.heap.size = rb := ⟨_, rfl⟩
  have hHB : Below w.heap.size w w2 := hb1
  rw [hrb] at hR hS
  simp only [hrb]
  have HRB := Lib.hid hrb
  have HR := Lib.hid hR
  have HS := Lib.hid hS
  replace HB := Lib.hid hb1
  clear hHB hb1 hR hS hrb
  go_loopw [4] (fun v wr => ∃ i : Nat, i ≤ len ∧ v = .int .i64 i ∧ Blk wr rb 125 (spcA Spc.none) ∧ Blk wr (rb + 1) 125 (spcA (ofL (zs.take i))) ∧ Below w.heap.size w wr) (fun v _ => len - (intOf v).toNat)
  case atStart => exact ⟨0, by omega, rfl, HR.out, HS.out, HB.out⟩
  case round =>
    clear HR HS HB
    obtain ⟨i, hi, rfl, hR, hS, hlow⟩ := hrel
    have HR := Lib.hid hR
    have HS := Lib.hid hS
    have HLOW := Lib.hid hlow
    clear hR hS hlow
    by_cases hlt : i < len
    · have hlti : (i : Int) < len := by omega
      obtain ⟨lb, lo, a, rfl, hlb, ha, hok, hcell⟩ := HZ.out.at_ hlt
      have haf := HF.out a (List.mem_of_getElem? ha)
      have HAF := Lib.hid haf
      have HTK := Lib.hid (show zs.take (i + 1) = zs.take i ++ [a] by rw [List.take_add_one, ha]; rfl)
      have HLB := Lib.hid hlb
      have hfi := a.formed_iff.1 haf
      have HAC := Lib.hid (fun (wx : World) (hb : Below w.heap.size w wx) => six7 (a0 := a.start) (a1 := a.stop) (a2 := a.prot) (a3 := a.shared) (a4 := a.back) (a5 := a.off) (z := wx) (g := lb) (o := lo + i * 6) (fun j u hu => (hb.cell (p := ⟨lb, lo + i * 6 + j, none⟩) hlb).trans (hcell j u hu)))
      have HAT := Lib.hid (fun (q : Nat) (w : World) (h0 : a.start / 4096 ≤ q) (h1 : (q : Int) < a.stop / 4096) => (show Calls Try.prog 70 #[.agg (areaCells a), .int .i64 q] w fun e w' => e = .returned (.tuple #[.agg (a.at_ q).cells, .bool true]) ∧ Below w.heap.size w w' by
        have := ref06_attr a q w haf (by omega) (by omega)
        have hh : a.hasPage q = true := by unfold AreaV.hasPage; simp only [Bool.and_eq_true, decide_eq_true_eq]; omega
        rwa [if_pos hh, hh] at this))
      obtain ⟨a0, a1, a2, a3, a4, a5⟩ := a
      simp only at hfi
      have e0 : a0.tdiv 4096 = a0 / 4096 := tdiv_pos (by omega)
      have ew : IntKind.i64.wrap (a0 / 4096) = a0 / 4096 := IntWalk.i64_in _ (by omega)
      obtain ⟨S, hSd⟩ : ∃ S, ofL (zs.take i) = S := ⟨_, rfl⟩
      simp only [hSd] at HS
      have HSD := Lib.hid hSd
      obtain ⟨n0, hn0⟩ : ∃ n0 : Nat, a0 / 4096 = n0 := ⟨(a0 / 4096).toNat, by omega⟩
      obtain ⟨n1, hn1⟩ : ∃ n1 : Nat, a1 / 4096 = n1 := ⟨(a1 / 4096).toNat, by omega⟩
      have h512 : n1 ≤ 512 := by omega
      have h01 : n0 < n1 := by omega
      have e1 : a1.tdiv 4096 = n1 := (tdiv_pos (by omega)).trans hn1
      rw [hn0] at e0 ew
      have HN0 := Lib.hid hn0
      have HN1 := Lib.hid hn1
      clear hcell hlb ha hok haf hSd hn0 hn1 hfi
      obtain ⟨x0, x1, x2, x3, x4, x5⟩ := HAC.out wr HLOW.out
      go_wp2_with fail
      simp only [areaCells] at HAT
      go_loopw [5] (fun v wq => ∃ q : Nat, n0 ≤ q ∧ q ≤ n1 ∧ v = .int .i64 q ∧ Blk wq rb 125 (spcA Spc.none) ∧ Blk wq (rb + 1) 125 (spcA (ofTo S ⟨a0, a1, a2, a3, a4, a5⟩ q)) ∧ Below w.heap.size w wq) (fun v _ => n1 - (intOf v).toNat)
      case atStart => exact ⟨n0, Nat.le_refl _, by omega, rfl, HR.out, by rw [← HN0.out, ofTo_start]; exact HS.out, HLOW.out⟩
      case round =>
        clear HR HS HLOW x0 x1 x2 x3 x4 x5
        obtain ⟨q, hq0, hq1, rfl, hR, hS, hlow⟩ := hrel
        have HR := Lib.hid hR
        have HS := Lib.hid hS
        have HLOW := Lib.hid hlow
        clear hR hS hlow
        obtain ⟨x0, x1, x2, x3, x4, x5⟩ := HAC.out _ HLOW.out
        by_cases hlq : q < n1
        · have hlqi : (q : Int) < n1 := by omega
          obtain ⟨X, hX⟩ : ∃ X, AreaV.at_ ⟨a0, a1, a2, a3, a4, a5⟩ q = X := ⟨_, rfl⟩
          have hAq := fun w => HAT.out q w (by rw [HN0.out]; omega) (by rw [HN1.out]; omega)
          have HNX := Lib.hid (ofTo_next S ⟨a0, a1, a2, a3, a4, a5⟩ (q := q) (by simp only; rw [HN0.out]; omega))
          simp only [hX] at hAq HNX
          have HAQ := Lib.hid hAq
          obtain ⟨y0, y1, y2, y3⟩ := X
          simp only [AttrV.cells] at HAQ
          clear hX hAq
          go_wp2_with fail
          refine (HAQ.out _).mono ?_
          rintro e w4 ⟨rfl, hb⟩
          have HR4 := Lib.hid (HR.out.thru hb)
          have HS4 := Lib.hid (HS.out.thru hb)
          have HL4 := Lib.hid (below_thru HLOW.out hb)
          clear hb HR HS HLOW x0 x1 x2 x3 x4 x5
          go_upto_region 9 with fail
          have HR5 := Lib.hid (HR4.out.thru (below_alloc0 w4 (.cells #[.int .i64 y0, .bool y1, .int .i64 y2, .int .i64 y3] 121)))
          have HS5 := Lib.hid (HS4.out.thru (below_alloc0 w4 (.cells #[.int .i64 y0, .bool y1, .int .i64 y2, .int .i64 y3] 121)))
          have HL5 := Lib.hid (below_thru HL4.out (below_alloc0 w4 (.cells #[.int .i64 y0, .bool y1, .int .i64 y2, .int .i64 y3] 121)))
          have HN5 := Lib.hid (Blk.new w4 121 #[.int .i64 y0, .bool y1, .int .i64 y2, .int .i64 y3])
          generalize w4.alloc (.cells #[.int .i64 y0, .bool y1, .int .i64 y2, .int .i64 y3] 121) = w5 at *
          generalize w4.heap.size = nb at *
          clear HR4 HS4 HL4
          obtain ⟨k0, k1, k2, k3⟩ := HN5.out.at4
          have hq5 : q < 512 := by omega
          have hq5i : (q : Int) < 512 := by omega
          obtain ⟨v0, v1, v2, v3, v4, hv⟩ := pageOf_five (ofTo S ⟨a0, a1, a2, a3, a4, a5⟩ q q)
          obtain ⟨m0, m1, m2, m3, m4⟩ := spc_five HS5.out hq5 hv
          have f0 := HS5.out.free (q * 5)
          have f1 := HS5.out.free (q * 5 + 1)
          have f2 := HS5.out.free (q * 5 + 2)
          have f3 := HS5.out.free (q * 5 + 3)
          have f4 := HS5.out.free (q * 5 + 4)
          have HS6 := Lib.hid (spc_put5 HS5.out hq5 (some ⟨y0, y1, y2, y3⟩) (v0 := .bool true) (v1 := .int .i64 y0) (v2 := .bool y1) (v3 := .int .i64 y2) (v4 := .int .i64 y3) rfl)
          have HU6 := Lib.hid (upd_cells5 w5 (rb + 1) (q * 5) (.bool true) (.int .i64 y0) (.bool y1) (.int .i64 y2) (.int .i64 y3))
          rw [HNX.out] at HS6
          clear hv HNX HAQ
          go_wp2
          go_roundw
          case rel =>
            refine ⟨q + 1, by omega, by omega, by go_num, HR5.out.upd HU6.out (by simp), ?_, below_upd HL5.out HU6.out (Nat.le_refl _) (by intro b hb; simp at hb; subst hb; rw [HRB.out]; omega)⟩
            exact HS6.out
          case measure => simp [intOf]; omega
        · have hqe : q = n1 := by omega
          subst hqe
          have HS7 := Lib.hid (show Blk wr (rb + 1) 125 (spcA (ofL (zs.take (i + 1)))) by rw [HTK.out, ofL_snoc, HSD.out, ofA]; simp only; rw [HN1.out]; exact HS.out)
          clear HS
          go_wp2
          go_roundw
          case rel => exact ⟨i + 1, by omega, by go_num, HR.out, HS7.out, HLOW.out⟩
          case measure => simp [intOf]; omega
    · obtain rfl : i = len := by omega
      have HSE := Lib.hid (show Blk wr (rb + 1) 125 (spcA (ofL zs)) by rw [← hzl, List.take_length] at HS; exact HS.out)
      go_upto_region 10 with fail
      go_wp2_with (first
        | refine wpList_load_row (P := Try.prog) rfl 125 (.tmp 3) rfl (rb + 1) rfl 125 (spcA (ofL zs)) (0, 0) _ HSE.out Try.underlying125 rfl (by rw [size_space, spcA_size]) ?_
        | refine wpList_store_row (P := Try.prog) rfl 125 (.tmp 2) (.tmp 43) rfl rb (spcA (ofL zs)) rfl rfl 125 (spcA Spc.none) HR.out (by rw [size_space, spcA_size]) (by rw [spcA_size, spcA_size]) (spcA_one _) ?_
        | fail)
      refine bodyPost_ret (v := .agg (spcA (ofL zs))) (results_cell_row (P := Try.prog) rfl _ _ rb 125 (spcA (ofL zs)) (0, 0) _ rfl (setRow_heap _ _ _ _ _ _ HR.out) Try.underlying125 rfl (by rw [size_space, spcA_size])) rfl ⟨rfl, ?_⟩
      exact below_upd HLOW.out (upd_setRow wr rb _) (Nat.le_refl _) (by intro b hb; simp at hb; subst hb; rw [HRB.out]; omega)
end Go.Proofs.Ytohidmkfpaiklaa
