/- Layer 7: list.Right (printed by wip/gen_right7.py). -/
import Derived.Test.YtohidmkfpaiklaaList7
namespace Go.Proofs.Ytohidmkfpaiklaa
open Go.RowKit
set_option linter.unusedSimpArgs false
set_option linter.unusedVariables false

def AreaV.cells (a : AreaV) : List Value := (areaCells a).toList
theorem AreaV.cells_len (a : AreaV) : a.cells.length = 6 := rfl
def AreaV.zero : AreaV := ⟨0, 0, 0, false, 0, 0⟩
/-- The area at place i may stand there. -/
def okAt (l : List AreaV) (i : Nat) : Bool := (l.getD i .zero).formedB && (i == 0 || !(decide ((l.getD i .zero).start < (l.getD (i - 1) .zero).stop) || (l.getD (i - 1) .zero).goes (l.getD i .zero)))
def rightB (l : List AreaV) : Bool := (List.range l.length).all (okAt l)
theorem rightB_all {l : List AreaV} {n : Nat} (hn : l.length = n) (h : ∀ k, k < n → okAt l k = true) : rightB l = true := by
  unfold rightB
  rw [List.all_eq_true]
  intro k hk
  exact h k (by rw [← hn]; simpa using hk)
theorem rightB_bad {l : List AreaV} {i : Nat} (hi : i < l.length) (h : okAt l i = false) : rightB l = false := by
  unfold rightB
  rw [List.all_eq_false]
  exact ⟨i, by simpa using hi, by rw [h]; decide⟩
/-- An area in a block of its own, and another one in a row. -/
structure Pair7 (w0 : World) (a b : AreaV) (x p o : Nat) (w : World) : Prop where
  low : Below w0.heap.size w0 w
  l : Blk w x 79 (areaCells a)
  lt : p < w.heap.size
  r : ∀ j u, b.cells[j]? = some u → w.cell? ⟨p, o + j, none⟩ = some u
theorem Pair7.thru {w0 w w' : World} {a b : AreaV} {x p o : Nat} (h : Pair7 w0 a b x p o w) (hb : Below w.heap.size w w') : Pair7 w0 a b x p o w' :=
  ⟨below_thru h.low hb, h.l.thru hb, Nat.lt_of_lt_of_le h.lt hb.size, fun j u hu => (hb.cell (p := ⟨p, o + j, none⟩) h.lt).trans (h.r j u hu)⟩
theorem Pair7.held {w0 w : World} {a b : AreaV} {x p o : Nat} (h : Pair7 w0 a b x p o w) :
    w.cell? ⟨x, 0, none⟩ = some (.int .i64 a.start) ∧ w.cell? ⟨x, 1, none⟩ = some (.int .i64 a.stop) ∧ w.cell? ⟨x, 2, none⟩ = some (.int .i64 a.prot) ∧ w.cell? ⟨x, 3, none⟩ = some (.bool a.shared) ∧ w.cell? ⟨x, 4, none⟩ = some (.int .i64 a.back) ∧ w.cell? ⟨x, 5, none⟩ = some (.int .i64 a.off) ∧
    w.cell? ⟨p, o, none⟩ = some (.int .i64 b.start) ∧ w.cell? ⟨p, o + 1, none⟩ = some (.int .i64 b.stop) ∧ w.cell? ⟨p, o + 2, none⟩ = some (.int .i64 b.prot) ∧ w.cell? ⟨p, o + 3, none⟩ = some (.bool b.shared) ∧ w.cell? ⟨p, o + 4, none⟩ = some (.int .i64 b.back) ∧ w.cell? ⟨p, o + 5, none⟩ = some (.int .i64 b.off) :=
  ⟨h.l.at_ rfl, h.l.at_ rfl, h.l.at_ rfl, h.l.at_ rfl, h.l.at_ rfl, h.l.at_ rfl, h.r 0 _ rfl, h.r 1 _ rfl, h.r 2 _ rfl, h.r 3 _ rfl, h.r 4 _ rfl, h.r 5 _ rfl⟩
set_option maxRecDepth 100000 in
set_option maxHeartbeats 4000000 in
theorem list_right (la : Option Addr) (len cap : Nat) (zs : List AreaV) (w : World) (hz : ArgOf AreaV.cells 6 AreaV.Ok w la len cap zs) (hlen : len ≤ 1000) :
    Calls Try.prog 38 #[.slice la len cap] w fun e w' => e = .returned (.bool (rightB zs)) ∧ Below w.heap.size w w' := by
  have hzl := hz.hl
  have HZ := Lib.hid hz
  have HB := Lib.hid (Below.refl w.heap.size w)
  clear hz
  go_enter Try.func38, Try.ntmps38
  go_wp2_with fail
  go_loopw [7] (fun v wr => ∃ i : Nat, i ≤ len ∧ v = .int .i64 i ∧ (∀ k, k < i → okAt zs k = true) ∧ Below w.heap.size w wr) (fun v _ => len - (intOf v).toNat)
  case atStart => exact ⟨0, by omega, rfl, by omega, HB.out⟩
  case round =>
    clear HB
    obtain ⟨i, hi, rfl, hall, hlow⟩ := hrel
    by_cases hlt : i < len
    · have hlti : (i : Int) < len := by omega
      obtain ⟨lb, lo, a, rfl, hlb, ha, hok, hcell⟩ := (HZ.out.below hlow (Nat.le_refl _)).at_ hlt
      have haD : zs.getD i .zero = a := by rw [List.getD_eq_getElem?_getD, ha]; rfl
      -- the area ahead, or the same one
      obtain ⟨b, pb, po, hb⟩ : ∃ (b : AreaV) (pb po : Nat), pb < wr.heap.size ∧ (∀ j u, b.cells[j]? = some u → wr.cell? ⟨pb, po + j, none⟩ = some u) ∧ ((i = 0 ∧ okAt zs i = a.formedB) ∨ ∃ k, i = k + 1 ∧ pb = lb ∧ po = lo + k * 6 ∧ okAt zs i = (a.formedB && !(decide (a.start < b.stop) || b.goes a)) ∧ b.Ok) := by
        cases i with
        | zero => exact ⟨a, lb, lo + 0 * 6, hlb, hcell, .inl ⟨rfl, by unfold okAt; rw [haD]; simp⟩⟩
        | succ k =>
          obtain ⟨lb', lo', b, e, -, hb, hbok, hbc⟩ := (HZ.out.below hlow (Nat.le_refl _)).at_ (i := k) (by omega)
          injection e with e
          injection e with e1 e2
          subst e1 e2
          have hbD : zs.getD k .zero = b := by rw [List.getD_eq_getElem?_getD, hb]; rfl
          exact ⟨b, lb, lo + k * 6, hlb, hbc, .inr ⟨k, rfl, rfl, rfl, by unfold okAt; rw [haD, Nat.add_sub_cancel, hbD]; simp, hbok⟩⟩
      obtain ⟨hpl, hpc, hcase⟩ := hb
      have HFO := Lib.hid (fun w => area_formed a w hok)
      have HBD := Lib.hid (fun (h : okAt zs i = false) => rightB_bad (by rw [hzl]; exact hlt) h)
      have HGD := Lib.hid (fun (h : okAt zs i = true) (k : Nat) (hk : k < i + 1) => if e : k = i then (e ▸ h : okAt zs k = true) else hall k (by omega))
      have HPC := Lib.hid (fun (wx : World) (hb : Below wr.heap.size wr wx) (j : Nat) (u : Value) (hu : b.cells[j]? = some u) => (hb.cell (p := ⟨pb, po + j, none⟩) hpl).trans (hpc j u hu))
      have HPL := Lib.hid hpl
      have HLW := Lib.hid hlow
      have HGG := Lib.hid (fun (hb : b.Ok) (w : World) => area_goes b a w hb hok)
      obtain ⟨ko, hko⟩ : ∃ ko, okAt zs i = ko := ⟨_, rfl⟩
      rw [hko] at hcase
      have HOK0 := Lib.hid hko
      obtain ⟨fa, hfa⟩ : ∃ fa, a.formedB = fa := ⟨_, rfl⟩
      rw [hfa] at HFO hcase
      obtain ⟨gg, hgg⟩ : ∃ gg, b.goes a = gg := ⟨_, rfl⟩
      rw [hgg] at HGG hcase
      clear hko hfa haD ha hgg hpc hpl hall hlow hok
      obtain ⟨a0, a1, a2, a3, a4, a5⟩ := a
      obtain ⟨b0, b1, b2, b3, b4, b5⟩ := b
      have x0 := hcell 0 (.int .i64 a0) rfl
      have x1 := hcell 1 (.int .i64 a1) rfl
      have x2 := hcell 2 (.int .i64 a2) rfl
      have x3 := hcell 3 (.bool a3) rfl
      have x4 := hcell 4 (.int .i64 a4) rfl
      have x5 := hcell 5 (.int .i64 a5) rfl
      simp only [Nat.add_zero] at x0
      simp only at hcase
      have HCASE := Lib.hid hcase
      have HBW := Lib.hid (Below.refl wr.heap.size wr)
      clear hcell hcase
      replace HBW := Lib.hid (below_thru HBW.out (below_alloc0 wr (.cells #[.int .i64 a0, .int .i64 a1, .int .i64 a2, .bool a3, .int .i64 a4, .int .i64 a5] 79)))
      have HAB := Lib.hid (Blk.new wr 79 #[.int .i64 a0, .int .i64 a1, .int .i64 a2, .bool a3, .int .i64 a4, .int .i64 a5])
      go_upto_region 4 with fail
      have HZ := Lib.hid (World.size_alloc wr (.cells #[.int .i64 a0, .int .i64 a1, .int .i64 a2, .bool a3, .int .i64 a4, .int .i64 a5] 79))
      obtain ⟨ab, hab⟩ : ∃ x, wr.heap.size = x := ⟨_, rfl⟩
      simp only [hab] at HAB HZ ⊢
      replace hab := Lib.hid hab
      generalize wr.alloc (.cells #[.int .i64 a0, .int .i64 a1, .int .i64 a2, .bool a3, .int .i64 a4, .int .i64 a5] 79) = w1 at *
      have HT := Lib.hid (show Pair7 w ⟨a0, a1, a2, a3, a4, a5⟩ ⟨b0, b1, b2, b3, b4, b5⟩ ab pb po w1.drew from (⟨below_thru HLW.out HBW.out, HAB.out, Nat.lt_of_lt_of_le HPL.out HBW.out.size, HPC.out _ HBW.out⟩ : Pair7 w ⟨a0, a1, a2, a3, a4, a5⟩ ⟨b0, b1, b2, b3, b4, b5⟩ ab pb po w1).thru (show Below w1.heap.size w1 w1.drew from below_drewN0 w1 1))
      clear x0 x1 x2 x3 x4 x5 HBW HAB HLW HPC HPL HZ hab
      cases fa with
      | false =>
        have hk : ko = false := by rcases HCASE.out with ⟨-, h⟩ | ⟨k, -, -, -, h, -⟩ <;> simpa using h
        have HBAD := Lib.hid (HBD.out (HOK0.out.trans hk))
        clear hk
        refine wp_region_H (fun z => z.cell? ⟨ab, 0, none⟩ = some (.int .i64 a0) ∧ z.cell? ⟨ab, 1, none⟩ = some (.int .i64 a1) ∧ z.cell? ⟨ab, 2, none⟩ = some (.int .i64 a2) ∧ z.cell? ⟨ab, 3, none⟩ = some (.bool a3) ∧ z.cell? ⟨ab, 4, none⟩ = some (.int .i64 a4) ∧ z.cell? ⟨ab, 5, none⟩ = some (.int .i64 a5) ∧ z.cell? ⟨pb, po, none⟩ = some (.int .i64 b0) ∧ z.cell? ⟨pb, po + 1, none⟩ = some (.int .i64 b1) ∧ z.cell? ⟨pb, po + 2, none⟩ = some (.int .i64 b2) ∧ z.cell? ⟨pb, po + 3, none⟩ = some (.bool b3) ∧ z.cell? ⟨pb, po + 4, none⟩ = some (.int .i64 b4) ∧ z.cell? ⟨pb, po + 5, none⟩ = some (.int .i64 b5)) 27 (by rfl) (by kernel_rfl) ?_
        have hS : (fun z : World => z.cell? ⟨ab, 0, none⟩ = some (.int .i64 a0) ∧ z.cell? ⟨ab, 1, none⟩ = some (.int .i64 a1) ∧ z.cell? ⟨ab, 2, none⟩ = some (.int .i64 a2) ∧ z.cell? ⟨ab, 3, none⟩ = some (.bool a3) ∧ z.cell? ⟨ab, 4, none⟩ = some (.int .i64 a4) ∧ z.cell? ⟨ab, 5, none⟩ = some (.int .i64 a5) ∧ z.cell? ⟨pb, po, none⟩ = some (.int .i64 b0) ∧ z.cell? ⟨pb, po + 1, none⟩ = some (.int .i64 b1) ∧ z.cell? ⟨pb, po + 2, none⟩ = some (.int .i64 b2) ∧ z.cell? ⟨pb, po + 3, none⟩ = some (.bool b3) ∧ z.cell? ⟨pb, po + 4, none⟩ = some (.int .i64 b4) ∧ z.cell? ⟨pb, po + 5, none⟩ = some (.int .i64 b5)) w1.drew := HT.out.held
        try simp only [Array.replicate, List.replicate, List.setIfInBounds_toArray]
        refine wpAnyH_takes (i := 0) (d := 12) (v := ?_) rfl rfl (by kernel_rfl) (fun _ _ _ h => h) (Or.inl ⟨by rfl, ?_⟩) hS ?_
        rotate_left
        · intro wq hq; (try dsimp only at hq); obtain ⟨hq1, hq2, hq3, hq4, hq5, hq6, hq7, hq8, hq9, hq10, hq11, hq12⟩ := hq; go_simp; try with_reducible rfl
        simp only [List.setIfInBounds_toArray, List.set_cons_zero, List.set_cons_succ]
        refine wpAnyH_one (i := 1) (by kernel_rfl) rfl (by rfl) (fun K hK => ?_)
        simp only [List.getElem_toArray, List.getElem_cons_succ, List.getElem_cons_zero]
        go_simp
        refine (HFO.out _).mono ?_
        rintro e wa ⟨rfl, hb⟩
        have HTa := Lib.hid (HT.out.thru hb)
        clear hb
        refine hK.out _ _ HTa.out.held ?_
        clear hK K hS
        have hS := HTa.out.held
        try simp only [Act.put, List.setIfInBounds_toArray, List.set_cons_zero, List.set_cons_succ]
        refine wpAnyH_takes (i := 2) (d := 14) (v := ?_) rfl rfl (by kernel_rfl) (fun _ _ _ h => h) (Or.inl ⟨by rfl, ?_⟩) hS ?_
        rotate_left
        · intro wq hq; (try dsimp only at hq); obtain ⟨hq1, hq2, hq3, hq4, hq5, hq6, hq7, hq8, hq9, hq10, hq11, hq12⟩ := hq; go_simp; try with_reducible rfl
        simp only [List.setIfInBounds_toArray, List.set_cons_zero, List.set_cons_succ]
        refine wpAnyH_takes (i := 3) (d := 15) (v := ?_) rfl rfl (by kernel_rfl) (fun _ _ _ h => h) (Or.inl ⟨by rfl, ?_⟩) hS ?_
        rotate_left
        · intro wq hq; (try dsimp only at hq); obtain ⟨hq1, hq2, hq3, hq4, hq5, hq6, hq7, hq8, hq9, hq10, hq11, hq12⟩ := hq; go_simp; try with_reducible rfl
        simp only [List.setIfInBounds_toArray, List.set_cons_zero, List.set_cons_succ]
        refine wpAnyH_takes (i := 4) (d := 16) (v := undef) rfl rfl (by kernel_rfl) (fun _ _ _ h => h) (Or.inr ⟨by first | rfl | (simp only [Int.natCast_zero, Int.lt_irrefl, decide_false]; rfl), by rfl⟩) hS ?_
        simp only [List.setIfInBounds_toArray, List.set_cons_zero, List.set_cons_succ]
        refine wpAnyH_takes (i := 5) (d := 17) (v := undef) rfl rfl (by kernel_rfl) (fun _ _ _ h => h) (Or.inr ⟨by first | rfl | (simp only [Int.natCast_zero, Int.lt_irrefl, decide_false]; rfl), by rfl⟩) hS ?_
        simp only [List.setIfInBounds_toArray, List.set_cons_zero, List.set_cons_succ]
        refine wpAnyH_takes (i := 6) (d := 18) (v := undef) rfl rfl (by kernel_rfl) (fun _ _ _ h => h) (Or.inr ⟨by first | rfl | (simp only [Int.natCast_zero, Int.lt_irrefl, decide_false]; rfl), by rfl⟩) hS ?_
        simp only [List.setIfInBounds_toArray, List.set_cons_zero, List.set_cons_succ]
        refine wpAnyH_takes (i := 7) (d := 19) (v := undef) rfl rfl (by kernel_rfl) (fun _ _ _ h => h) (Or.inr ⟨by first | rfl | (simp only [Int.natCast_zero, Int.lt_irrefl, decide_false]; rfl), by rfl⟩) hS ?_
        simp only [List.setIfInBounds_toArray, List.set_cons_zero, List.set_cons_succ]
        refine wpAnyH_takes (i := 8) (d := 20) (v := undef) rfl rfl (by kernel_rfl) (fun _ _ _ h => h) (Or.inr ⟨by first | rfl | (simp only [Int.natCast_zero, Int.lt_irrefl, decide_false]; rfl), by rfl⟩) hS ?_
        simp only [List.setIfInBounds_toArray, List.set_cons_zero, List.set_cons_succ]
        refine wpAnyH_takes (i := 9) (d := 21) (v := undef) rfl rfl (by kernel_rfl) (fun _ _ _ h => h) (Or.inr ⟨by first | rfl | (simp only [Int.natCast_zero, Int.lt_irrefl, decide_false]; rfl), by rfl⟩) hS ?_
        simp only [List.setIfInBounds_toArray, List.set_cons_zero, List.set_cons_succ]
        refine wpAnyH_takes (i := 10) (d := 22) (v := undef) rfl rfl (by kernel_rfl) (fun _ _ _ h => h) (Or.inr ⟨by first | rfl | (simp only [Int.natCast_zero, Int.lt_irrefl, decide_false]; rfl), by rfl⟩) hS ?_
        simp only [List.setIfInBounds_toArray, List.set_cons_zero, List.set_cons_succ]
        refine wpAnyH_takes (i := 11) (d := 23) (v := undef) rfl rfl (by kernel_rfl) (fun _ _ _ h => h) (Or.inr ⟨by first | rfl | (simp only [Int.natCast_zero, Int.lt_irrefl, decide_false]; rfl), by rfl⟩) hS ?_
        simp only [List.setIfInBounds_toArray, List.set_cons_zero, List.set_cons_succ]
        refine wpAnyH_takes (i := 12) (d := 24) (v := undef) rfl rfl (by kernel_rfl) (fun _ _ _ h => h) (Or.inr ⟨by first | rfl | (simp only [Int.natCast_zero, Int.lt_irrefl, decide_false]; rfl), by rfl⟩) hS ?_
        simp only [List.setIfInBounds_toArray, List.set_cons_zero, List.set_cons_succ]
        refine wpAnyH_takes (i := 13) (d := 25) (v := undef) rfl rfl (by kernel_rfl) (fun _ _ _ h => h) (Or.inr ⟨by first | rfl | (simp only [Int.natCast_zero, Int.lt_irrefl, decide_false]; rfl), by rfl⟩) hS ?_
        simp only [List.setIfInBounds_toArray, List.set_cons_zero, List.set_cons_succ]
        refine wpAnyH_takes (i := 14) (d := 26) (v := undef) rfl rfl (by kernel_rfl) (fun _ _ _ h => h) (Or.inr ⟨by first | rfl | (simp only [Int.natCast_zero, Int.lt_irrefl, decide_false]; rfl), by rfl⟩) hS ?_
        simp only [List.setIfInBounds_toArray, List.set_cons_zero, List.set_cons_succ]
        refine wpAnyH_takes (i := 15) (d := 27) (v := undef) rfl rfl (by kernel_rfl) (fun _ _ _ h => h) (Or.inr ⟨by first | rfl | (simp only [Int.natCast_zero, Int.lt_irrefl, decide_false]; rfl), by rfl⟩) hS ?_
        simp only [List.setIfInBounds_toArray, List.set_cons_zero, List.set_cons_succ]
        refine wpAnyH_takes (i := 16) (d := 28) (v := undef) rfl rfl (by kernel_rfl) (fun _ _ _ h => h) (Or.inr ⟨by first | rfl | (simp only [Int.natCast_zero, Int.lt_irrefl, decide_false]; rfl), by rfl⟩) hS ?_
        simp only [List.setIfInBounds_toArray, List.set_cons_zero, List.set_cons_succ]
        refine wpAnyH_takes (i := 17) (d := 29) (v := undef) rfl rfl (by kernel_rfl) (fun _ _ _ h => h) (Or.inr ⟨by first | rfl | (simp only [Int.natCast_zero, Int.lt_irrefl, decide_false]; rfl), by rfl⟩) hS ?_
        simp only [List.setIfInBounds_toArray, List.set_cons_zero, List.set_cons_succ]
        refine wpAnyH_takes (i := 18) (d := 30) (v := undef) rfl rfl (by kernel_rfl) (fun _ _ _ h => h) (Or.inr ⟨by first | rfl | (simp only [Int.natCast_zero, Int.lt_irrefl, decide_false]; rfl), by rfl⟩) hS ?_
        simp only [List.setIfInBounds_toArray, List.set_cons_zero, List.set_cons_succ]
        refine wpAnyH_takes (i := 19) (d := 31) (v := undef) rfl rfl (by kernel_rfl) (fun _ _ _ h => h) (Or.inr ⟨by first | rfl | (simp only [Int.natCast_zero, Int.lt_irrefl, decide_false]; rfl), by rfl⟩) hS ?_
        simp only [List.setIfInBounds_toArray, List.set_cons_zero, List.set_cons_succ]
        refine wpAnyH_takes (i := 20) (d := 32) (v := undef) rfl rfl (by kernel_rfl) (fun _ _ _ h => h) (Or.inr ⟨by first | rfl | (simp only [Int.natCast_zero, Int.lt_irrefl, decide_false]; rfl), by rfl⟩) hS ?_
        simp only [List.setIfInBounds_toArray, List.set_cons_zero, List.set_cons_succ]
        refine wpAnyH_takes (i := 21) (d := 33) (v := undef) rfl rfl (by kernel_rfl) (fun _ _ _ h => h) (Or.inr ⟨by first | rfl | (simp only [Int.natCast_zero, Int.lt_irrefl, decide_false]; rfl), by rfl⟩) hS ?_
        simp only [List.setIfInBounds_toArray, List.set_cons_zero, List.set_cons_succ]
        refine wpAnyH_takes (i := 22) (d := 34) (v := undef) rfl rfl (by kernel_rfl) (fun _ _ _ h => h) (Or.inr ⟨by first | rfl | (simp only [Int.natCast_zero, Int.lt_irrefl, decide_false]; rfl), by rfl⟩) hS ?_
        simp only [List.setIfInBounds_toArray, List.set_cons_zero, List.set_cons_succ]
        refine wpAnyH_takes (i := 23) (d := 35) (v := undef) rfl rfl (by kernel_rfl) (fun _ _ _ h => h) (Or.inr ⟨by first | rfl | (simp only [Int.natCast_zero, Int.lt_irrefl, decide_false]; rfl), by rfl⟩) hS ?_
        simp only [List.setIfInBounds_toArray, List.set_cons_zero, List.set_cons_succ]
        refine wpAnyH_takes (i := 24) (d := 36) (v := undef) rfl rfl (by kernel_rfl) (fun _ _ _ h => h) (Or.inr ⟨by first | rfl | (simp only [Int.natCast_zero, Int.lt_irrefl, decide_false]; rfl), by rfl⟩) hS ?_
        simp only [List.setIfInBounds_toArray, List.set_cons_zero, List.set_cons_succ]
        refine wpAnyH_takes (i := 25) (d := 37) (v := undef) rfl rfl (by kernel_rfl) (fun _ _ _ h => h) (Or.inr ⟨by first | rfl | (simp only [Int.natCast_zero, Int.lt_irrefl, decide_false]; rfl), by rfl⟩) hS ?_
        simp only [List.setIfInBounds_toArray, List.set_cons_zero, List.set_cons_succ]
        refine wpAnyH_takes (i := 26) (d := 38) (v := ?_) rfl rfl (by kernel_rfl) (fun _ _ _ h => h) (Or.inl ⟨by rfl, ?_⟩) hS ?_
        rotate_left
        · intro wq hq; (try dsimp only at hq); obtain ⟨hq1, hq2, hq3, hq4, hq5, hq6, hq7, hq8, hq9, hq10, hq11, hq12⟩ := hq; go_simp; try with_reducible rfl
        simp only [List.setIfInBounds_toArray, List.set_cons_zero, List.set_cons_succ]
        refine wpAnyH_done (by kernel_rfl) ?_ _
        go_wp2
        go_ret
        exact ⟨ret_goes (by rw [HBAD.out]), HTa.out.low⟩
      | true =>
        rcases HCASE.out with ⟨hi0, hok⟩ | ⟨k, hik, hpb, hpo, hok, hbo⟩
        · have HGOOD := Lib.hid (HGD.out (HOK0.out.trans hok))
          subst hi0
          clear hok
          refine wp_region_H (fun z => z.cell? ⟨ab, 0, none⟩ = some (.int .i64 a0) ∧ z.cell? ⟨ab, 1, none⟩ = some (.int .i64 a1) ∧ z.cell? ⟨ab, 2, none⟩ = some (.int .i64 a2) ∧ z.cell? ⟨ab, 3, none⟩ = some (.bool a3) ∧ z.cell? ⟨ab, 4, none⟩ = some (.int .i64 a4) ∧ z.cell? ⟨ab, 5, none⟩ = some (.int .i64 a5) ∧ z.cell? ⟨pb, po, none⟩ = some (.int .i64 b0) ∧ z.cell? ⟨pb, po + 1, none⟩ = some (.int .i64 b1) ∧ z.cell? ⟨pb, po + 2, none⟩ = some (.int .i64 b2) ∧ z.cell? ⟨pb, po + 3, none⟩ = some (.bool b3) ∧ z.cell? ⟨pb, po + 4, none⟩ = some (.int .i64 b4) ∧ z.cell? ⟨pb, po + 5, none⟩ = some (.int .i64 b5)) 27 (by rfl) (by kernel_rfl) ?_
          have hS : (fun z : World => z.cell? ⟨ab, 0, none⟩ = some (.int .i64 a0) ∧ z.cell? ⟨ab, 1, none⟩ = some (.int .i64 a1) ∧ z.cell? ⟨ab, 2, none⟩ = some (.int .i64 a2) ∧ z.cell? ⟨ab, 3, none⟩ = some (.bool a3) ∧ z.cell? ⟨ab, 4, none⟩ = some (.int .i64 a4) ∧ z.cell? ⟨ab, 5, none⟩ = some (.int .i64 a5) ∧ z.cell? ⟨pb, po, none⟩ = some (.int .i64 b0) ∧ z.cell? ⟨pb, po + 1, none⟩ = some (.int .i64 b1) ∧ z.cell? ⟨pb, po + 2, none⟩ = some (.int .i64 b2) ∧ z.cell? ⟨pb, po + 3, none⟩ = some (.bool b3) ∧ z.cell? ⟨pb, po + 4, none⟩ = some (.int .i64 b4) ∧ z.cell? ⟨pb, po + 5, none⟩ = some (.int .i64 b5)) w1.drew := HT.out.held
          try simp only [Array.replicate, List.replicate, List.setIfInBounds_toArray]
          refine wpAnyH_takes (i := 0) (d := 12) (v := ?_) rfl rfl (by kernel_rfl) (fun _ _ _ h => h) (Or.inl ⟨by rfl, ?_⟩) hS ?_
          rotate_left
          · intro wq hq; (try dsimp only at hq); obtain ⟨hq1, hq2, hq3, hq4, hq5, hq6, hq7, hq8, hq9, hq10, hq11, hq12⟩ := hq; go_simp; try with_reducible rfl
          simp only [List.setIfInBounds_toArray, List.set_cons_zero, List.set_cons_succ]
          refine wpAnyH_one (i := 1) (by kernel_rfl) rfl (by rfl) (fun K hK => ?_)
          simp only [List.getElem_toArray, List.getElem_cons_succ, List.getElem_cons_zero]
          go_simp
          refine (HFO.out _).mono ?_
          rintro e wa ⟨rfl, hb⟩
          have HTa := Lib.hid (HT.out.thru hb)
          clear hb
          refine hK.out _ _ HTa.out.held ?_
          clear hK K hS
          have hS := HTa.out.held
          try simp only [Act.put, List.setIfInBounds_toArray, List.set_cons_zero, List.set_cons_succ]
          refine wpAnyH_takes (i := 2) (d := 14) (v := ?_) rfl rfl (by kernel_rfl) (fun _ _ _ h => h) (Or.inl ⟨by rfl, ?_⟩) hS ?_
          rotate_left
          · intro wq hq; (try dsimp only at hq); obtain ⟨hq1, hq2, hq3, hq4, hq5, hq6, hq7, hq8, hq9, hq10, hq11, hq12⟩ := hq; go_simp; try with_reducible rfl
          simp only [List.setIfInBounds_toArray, List.set_cons_zero, List.set_cons_succ]
          refine wpAnyH_takes (i := 3) (d := 15) (v := ?_) rfl rfl (by kernel_rfl) (fun _ _ _ h => h) (Or.inl ⟨by rfl, ?_⟩) hS ?_
          rotate_left
          · intro wq hq; (try dsimp only at hq); obtain ⟨hq1, hq2, hq3, hq4, hq5, hq6, hq7, hq8, hq9, hq10, hq11, hq12⟩ := hq; go_simp; try with_reducible rfl
          simp only [List.setIfInBounds_toArray, List.set_cons_zero, List.set_cons_succ]
          refine wpAnyH_takes (i := 4) (d := 16) (v := ?_) rfl rfl (by kernel_rfl) (fun _ _ _ h => h) (Or.inl ⟨by rfl, ?_⟩) hS ?_
          rotate_left
          · intro wq hq; (try dsimp only at hq); obtain ⟨hq1, hq2, hq3, hq4, hq5, hq6, hq7, hq8, hq9, hq10, hq11, hq12⟩ := hq; go_simp; try with_reducible rfl
          simp only [List.setIfInBounds_toArray, List.set_cons_zero, List.set_cons_succ]
          refine wpAnyH_takes (i := 5) (d := 17) (v := ?_) rfl rfl (by kernel_rfl) (fun _ _ _ h => h) (Or.inl ⟨by rfl, ?_⟩) hS ?_
          rotate_left
          · intro wq hq; (try dsimp only at hq); obtain ⟨hq1, hq2, hq3, hq4, hq5, hq6, hq7, hq8, hq9, hq10, hq11, hq12⟩ := hq; go_simp; try with_reducible rfl
          simp only [List.setIfInBounds_toArray, List.set_cons_zero, List.set_cons_succ]
          refine wpAnyH_takes (i := 6) (d := 18) (v := ?_) rfl rfl (by kernel_rfl) (fun _ _ _ h => h) (Or.inl ⟨by rfl, ?_⟩) hS ?_
          rotate_left
          · intro wq hq; (try dsimp only at hq); obtain ⟨hq1, hq2, hq3, hq4, hq5, hq6, hq7, hq8, hq9, hq10, hq11, hq12⟩ := hq; go_simp; try with_reducible rfl
          simp only [List.setIfInBounds_toArray, List.set_cons_zero, List.set_cons_succ]
          refine wpAnyH_takes (i := 7) (d := 19) (v := undef) rfl rfl (by kernel_rfl) (fun _ _ _ h => h) (Or.inr ⟨by first | rfl | (simp only [Int.natCast_zero, Int.lt_irrefl, decide_false]; rfl), by rfl⟩) hS ?_
          simp only [List.setIfInBounds_toArray, List.set_cons_zero, List.set_cons_succ]
          refine wpAnyH_takes (i := 8) (d := 20) (v := undef) rfl rfl (by kernel_rfl) (fun _ _ _ h => h) (Or.inr ⟨by first | rfl | (simp only [Int.natCast_zero, Int.lt_irrefl, decide_false]; rfl), by rfl⟩) hS ?_
          simp only [List.setIfInBounds_toArray, List.set_cons_zero, List.set_cons_succ]
          refine wpAnyH_takes (i := 9) (d := 21) (v := undef) rfl rfl (by kernel_rfl) (fun _ _ _ h => h) (Or.inr ⟨by first | rfl | (simp only [Int.natCast_zero, Int.lt_irrefl, decide_false]; rfl), by rfl⟩) hS ?_
          simp only [List.setIfInBounds_toArray, List.set_cons_zero, List.set_cons_succ]
          refine wpAnyH_takes (i := 10) (d := 22) (v := undef) rfl rfl (by kernel_rfl) (fun _ _ _ h => h) (Or.inr ⟨by first | rfl | (simp only [Int.natCast_zero, Int.lt_irrefl, decide_false]; rfl), by rfl⟩) hS ?_
          simp only [List.setIfInBounds_toArray, List.set_cons_zero, List.set_cons_succ]
          refine wpAnyH_takes (i := 11) (d := 23) (v := undef) rfl rfl (by kernel_rfl) (fun _ _ _ h => h) (Or.inr ⟨by first | rfl | (simp only [Int.natCast_zero, Int.lt_irrefl, decide_false]; rfl), by rfl⟩) hS ?_
          simp only [List.setIfInBounds_toArray, List.set_cons_zero, List.set_cons_succ]
          refine wpAnyH_takes (i := 12) (d := 24) (v := undef) rfl rfl (by kernel_rfl) (fun _ _ _ h => h) (Or.inr ⟨by first | rfl | (simp only [Int.natCast_zero, Int.lt_irrefl, decide_false]; rfl), by rfl⟩) hS ?_
          simp only [List.setIfInBounds_toArray, List.set_cons_zero, List.set_cons_succ]
          refine wpAnyH_takes (i := 13) (d := 25) (v := undef) rfl rfl (by kernel_rfl) (fun _ _ _ h => h) (Or.inr ⟨by first | rfl | (simp only [Int.natCast_zero, Int.lt_irrefl, decide_false]; rfl), by rfl⟩) hS ?_
          simp only [List.setIfInBounds_toArray, List.set_cons_zero, List.set_cons_succ]
          refine wpAnyH_takes (i := 14) (d := 26) (v := undef) rfl rfl (by kernel_rfl) (fun _ _ _ h => h) (Or.inr ⟨by first | rfl | (simp only [Int.natCast_zero, Int.lt_irrefl, decide_false]; rfl), by rfl⟩) hS ?_
          simp only [List.setIfInBounds_toArray, List.set_cons_zero, List.set_cons_succ]
          refine wpAnyH_takes (i := 15) (d := 27) (v := undef) rfl rfl (by kernel_rfl) (fun _ _ _ h => h) (Or.inr ⟨by first | rfl | (simp only [Int.natCast_zero, Int.lt_irrefl, decide_false]; rfl), by rfl⟩) hS ?_
          simp only [List.setIfInBounds_toArray, List.set_cons_zero, List.set_cons_succ]
          refine wpAnyH_takes (i := 16) (d := 28) (v := undef) rfl rfl (by kernel_rfl) (fun _ _ _ h => h) (Or.inr ⟨by first | rfl | (simp only [Int.natCast_zero, Int.lt_irrefl, decide_false]; rfl), by rfl⟩) hS ?_
          simp only [List.setIfInBounds_toArray, List.set_cons_zero, List.set_cons_succ]
          refine wpAnyH_takes (i := 17) (d := 29) (v := undef) rfl rfl (by kernel_rfl) (fun _ _ _ h => h) (Or.inr ⟨by first | rfl | (simp only [Int.natCast_zero, Int.lt_irrefl, decide_false]; rfl), by rfl⟩) hS ?_
          simp only [List.setIfInBounds_toArray, List.set_cons_zero, List.set_cons_succ]
          refine wpAnyH_takes (i := 18) (d := 30) (v := undef) rfl rfl (by kernel_rfl) (fun _ _ _ h => h) (Or.inr ⟨by first | rfl | (simp only [Int.natCast_zero, Int.lt_irrefl, decide_false]; rfl), by rfl⟩) hS ?_
          simp only [List.setIfInBounds_toArray, List.set_cons_zero, List.set_cons_succ]
          refine wpAnyH_takes (i := 19) (d := 31) (v := undef) rfl rfl (by kernel_rfl) (fun _ _ _ h => h) (Or.inr ⟨by first | rfl | (simp only [Int.natCast_zero, Int.lt_irrefl, decide_false]; rfl), by rfl⟩) hS ?_
          simp only [List.setIfInBounds_toArray, List.set_cons_zero, List.set_cons_succ]
          refine wpAnyH_takes (i := 20) (d := 32) (v := undef) rfl rfl (by kernel_rfl) (fun _ _ _ h => h) (Or.inr ⟨by first | rfl | (simp only [Int.natCast_zero, Int.lt_irrefl, decide_false]; rfl), by rfl⟩) hS ?_
          simp only [List.setIfInBounds_toArray, List.set_cons_zero, List.set_cons_succ]
          refine wpAnyH_takes (i := 21) (d := 33) (v := undef) rfl rfl (by kernel_rfl) (fun _ _ _ h => h) (Or.inr ⟨by first | rfl | (simp only [Int.natCast_zero, Int.lt_irrefl, decide_false]; rfl), by rfl⟩) hS ?_
          simp only [List.setIfInBounds_toArray, List.set_cons_zero, List.set_cons_succ]
          refine wpAnyH_takes (i := 22) (d := 34) (v := undef) rfl rfl (by kernel_rfl) (fun _ _ _ h => h) (Or.inr ⟨by first | rfl | (simp only [Int.natCast_zero, Int.lt_irrefl, decide_false]; rfl), by rfl⟩) hS ?_
          simp only [List.setIfInBounds_toArray, List.set_cons_zero, List.set_cons_succ]
          refine wpAnyH_takes (i := 23) (d := 35) (v := undef) rfl rfl (by kernel_rfl) (fun _ _ _ h => h) (Or.inr ⟨by first | rfl | (simp only [Int.natCast_zero, Int.lt_irrefl, decide_false]; rfl), by rfl⟩) hS ?_
          simp only [List.setIfInBounds_toArray, List.set_cons_zero, List.set_cons_succ]
          refine wpAnyH_takes (i := 24) (d := 36) (v := undef) rfl rfl (by kernel_rfl) (fun _ _ _ h => h) (Or.inr ⟨by first | rfl | (simp only [Int.natCast_zero, Int.lt_irrefl, decide_false]; rfl), by rfl⟩) hS ?_
          simp only [List.setIfInBounds_toArray, List.set_cons_zero, List.set_cons_succ]
          refine wpAnyH_takes (i := 25) (d := 37) (v := ?_) rfl rfl (by kernel_rfl) (fun _ _ _ h => h) (Or.inl ⟨by rfl, ?_⟩) hS ?_
          rotate_left
          · intro wq hq; (try dsimp only at hq); obtain ⟨hq1, hq2, hq3, hq4, hq5, hq6, hq7, hq8, hq9, hq10, hq11, hq12⟩ := hq; go_simp; try with_reducible rfl
          simp only [List.setIfInBounds_toArray, List.set_cons_zero, List.set_cons_succ]
          refine wpAnyH_takes (i := 26) (d := 38) (v := ?_) rfl rfl (by kernel_rfl) (fun _ _ _ h => h) (Or.inl ⟨by rfl, ?_⟩) hS ?_
          rotate_left
          · intro wq hq; (try dsimp only at hq); obtain ⟨hq1, hq2, hq3, hq4, hq5, hq6, hq7, hq8, hq9, hq10, hq11, hq12⟩ := hq; go_simp; try with_reducible rfl
          simp only [List.setIfInBounds_toArray, List.set_cons_zero, List.set_cons_succ]
          refine wpAnyH_done (by kernel_rfl) ?_ _
          go_wp2
          go_roundw
          case rel => exact ⟨0 + 1, by omega, by go_num, HGOOD.out, HTa.out.low⟩
          case measure => simp [intOf]; omega
        · have HGO := Lib.hid (HGG.out hbo)
          subst hpb hpo hik
          have ewk : IntKind.i64.wrap ((k : Int) + 1 - 1) = k := by rw [show (k : Int) + 1 - 1 = k by omega]; exact IntWalk.i64_in _ (by omega)
          have ewl : IntKind.i64.wrap (k : Int) = k := IntWalk.i64_in _ (by omega)
          have hkl : (k : Int) < len := by omega
          simp only [Bool.true_and] at hok
          clear hbo
          cases hgt : decide (a0 < b1) with
          | true =>
            have HBAD := Lib.hid (HBD.out (HOK0.out.trans (by rw [hok, hgt]; rfl)))
            clear hok
            refine wp_region_H (fun z => z.cell? ⟨ab, 0, none⟩ = some (.int .i64 a0) ∧ z.cell? ⟨ab, 1, none⟩ = some (.int .i64 a1) ∧ z.cell? ⟨ab, 2, none⟩ = some (.int .i64 a2) ∧ z.cell? ⟨ab, 3, none⟩ = some (.bool a3) ∧ z.cell? ⟨ab, 4, none⟩ = some (.int .i64 a4) ∧ z.cell? ⟨ab, 5, none⟩ = some (.int .i64 a5) ∧ z.cell? ⟨pb, lo + k * 6, none⟩ = some (.int .i64 b0) ∧ z.cell? ⟨pb, lo + k * 6 + 1, none⟩ = some (.int .i64 b1) ∧ z.cell? ⟨pb, lo + k * 6 + 2, none⟩ = some (.int .i64 b2) ∧ z.cell? ⟨pb, lo + k * 6 + 3, none⟩ = some (.bool b3) ∧ z.cell? ⟨pb, lo + k * 6 + 4, none⟩ = some (.int .i64 b4) ∧ z.cell? ⟨pb, lo + k * 6 + 5, none⟩ = some (.int .i64 b5)) 27 (by rfl) (by kernel_rfl) ?_
            have hS : (fun z : World => z.cell? ⟨ab, 0, none⟩ = some (.int .i64 a0) ∧ z.cell? ⟨ab, 1, none⟩ = some (.int .i64 a1) ∧ z.cell? ⟨ab, 2, none⟩ = some (.int .i64 a2) ∧ z.cell? ⟨ab, 3, none⟩ = some (.bool a3) ∧ z.cell? ⟨ab, 4, none⟩ = some (.int .i64 a4) ∧ z.cell? ⟨ab, 5, none⟩ = some (.int .i64 a5) ∧ z.cell? ⟨pb, lo + k * 6, none⟩ = some (.int .i64 b0) ∧ z.cell? ⟨pb, lo + k * 6 + 1, none⟩ = some (.int .i64 b1) ∧ z.cell? ⟨pb, lo + k * 6 + 2, none⟩ = some (.int .i64 b2) ∧ z.cell? ⟨pb, lo + k * 6 + 3, none⟩ = some (.bool b3) ∧ z.cell? ⟨pb, lo + k * 6 + 4, none⟩ = some (.int .i64 b4) ∧ z.cell? ⟨pb, lo + k * 6 + 5, none⟩ = some (.int .i64 b5)) w1.drew := HT.out.held
            try simp only [Array.replicate, List.replicate, List.setIfInBounds_toArray]
            refine wpAnyH_takes (i := 0) (d := 12) (v := ?_) rfl rfl (by kernel_rfl) (fun _ _ _ h => h) (Or.inl ⟨by rfl, ?_⟩) hS ?_
            rotate_left
            · intro wq hq; (try dsimp only at hq); obtain ⟨hq1, hq2, hq3, hq4, hq5, hq6, hq7, hq8, hq9, hq10, hq11, hq12⟩ := hq; go_simp; try with_reducible rfl
            simp only [List.setIfInBounds_toArray, List.set_cons_zero, List.set_cons_succ]
            refine wpAnyH_one (i := 1) (by kernel_rfl) rfl (by rfl) (fun K hK => ?_)
            simp only [List.getElem_toArray, List.getElem_cons_succ, List.getElem_cons_zero]
            go_simp
            refine (HFO.out _).mono ?_
            rintro e wa ⟨rfl, hb⟩
            have HTa := Lib.hid (HT.out.thru hb)
            clear hb
            refine hK.out _ _ HTa.out.held ?_
            clear hK K hS
            have hS := HTa.out.held
            try simp only [Act.put, List.setIfInBounds_toArray, List.set_cons_zero, List.set_cons_succ]
            refine wpAnyH_takes (i := 2) (d := 14) (v := ?_) rfl rfl (by kernel_rfl) (fun _ _ _ h => h) (Or.inl ⟨by rfl, ?_⟩) hS ?_
            rotate_left
            · intro wq hq; (try dsimp only at hq); obtain ⟨hq1, hq2, hq3, hq4, hq5, hq6, hq7, hq8, hq9, hq10, hq11, hq12⟩ := hq; go_simp; try with_reducible rfl
            simp only [List.setIfInBounds_toArray, List.set_cons_zero, List.set_cons_succ]
            refine wpAnyH_takes (i := 3) (d := 15) (v := ?_) rfl rfl (by kernel_rfl) (fun _ _ _ h => h) (Or.inl ⟨by rfl, ?_⟩) hS ?_
            rotate_left
            · intro wq hq; (try dsimp only at hq); obtain ⟨hq1, hq2, hq3, hq4, hq5, hq6, hq7, hq8, hq9, hq10, hq11, hq12⟩ := hq; go_simp; try with_reducible rfl
            simp only [List.setIfInBounds_toArray, List.set_cons_zero, List.set_cons_succ]
            refine wpAnyH_takes (i := 4) (d := 16) (v := ?_) rfl rfl (by kernel_rfl) (fun _ _ _ h => h) (Or.inl ⟨by rfl, ?_⟩) hS ?_
            rotate_left
            · intro wq hq; (try dsimp only at hq); obtain ⟨hq1, hq2, hq3, hq4, hq5, hq6, hq7, hq8, hq9, hq10, hq11, hq12⟩ := hq; go_simp; try with_reducible rfl
            simp only [List.setIfInBounds_toArray, List.set_cons_zero, List.set_cons_succ]
            refine wpAnyH_takes (i := 5) (d := 17) (v := ?_) rfl rfl (by kernel_rfl) (fun _ _ _ h => h) (Or.inl ⟨by rfl, ?_⟩) hS ?_
            rotate_left
            · intro wq hq; (try dsimp only at hq); obtain ⟨hq1, hq2, hq3, hq4, hq5, hq6, hq7, hq8, hq9, hq10, hq11, hq12⟩ := hq; go_simp; try with_reducible rfl
            simp only [List.setIfInBounds_toArray, List.set_cons_zero, List.set_cons_succ]
            refine wpAnyH_takes (i := 6) (d := 18) (v := ?_) rfl rfl (by kernel_rfl) (fun _ _ _ h => h) (Or.inl ⟨by rfl, ?_⟩) hS ?_
            rotate_left
            · intro wq hq; (try dsimp only at hq); obtain ⟨hq1, hq2, hq3, hq4, hq5, hq6, hq7, hq8, hq9, hq10, hq11, hq12⟩ := hq; go_simp; try with_reducible rfl
            simp only [List.setIfInBounds_toArray, List.set_cons_zero, List.set_cons_succ]
            refine wpAnyH_takes (i := 7) (d := 19) (v := ?_) rfl rfl (by kernel_rfl) (fun _ _ _ h => h) (Or.inl ⟨by rfl, ?_⟩) hS ?_
            rotate_left
            · intro wq hq; (try dsimp only at hq); obtain ⟨hq1, hq2, hq3, hq4, hq5, hq6, hq7, hq8, hq9, hq10, hq11, hq12⟩ := hq; go_simp; try with_reducible rfl
            simp only [List.setIfInBounds_toArray, List.set_cons_zero, List.set_cons_succ]
            refine wpAnyH_takes (i := 8) (d := 20) (v := ?_) rfl rfl (by kernel_rfl) (fun _ _ _ h => h) (Or.inl ⟨by rfl, ?_⟩) hS ?_
            rotate_left
            · intro wq hq; (try dsimp only at hq); obtain ⟨hq1, hq2, hq3, hq4, hq5, hq6, hq7, hq8, hq9, hq10, hq11, hq12⟩ := hq; go_simp; try with_reducible rfl
            simp only [List.setIfInBounds_toArray, List.set_cons_zero, List.set_cons_succ]
            refine wpAnyH_takes (i := 9) (d := 21) (v := ?_) rfl rfl (by kernel_rfl) (fun _ _ _ h => h) (Or.inl ⟨by rfl, ?_⟩) hS ?_
            rotate_left
            · intro wq hq; (try dsimp only at hq); obtain ⟨hq1, hq2, hq3, hq4, hq5, hq6, hq7, hq8, hq9, hq10, hq11, hq12⟩ := hq; go_simp; try with_reducible rfl
            simp only [List.setIfInBounds_toArray, List.set_cons_zero, List.set_cons_succ]
            refine wpAnyH_takes (i := 10) (d := 22) (v := ?_) rfl rfl (by kernel_rfl) (fun _ _ _ h => h) (Or.inl ⟨by rfl, ?_⟩) hS ?_
            rotate_left
            · intro wq hq; (try dsimp only at hq); obtain ⟨hq1, hq2, hq3, hq4, hq5, hq6, hq7, hq8, hq9, hq10, hq11, hq12⟩ := hq; go_simp; try with_reducible rfl
            simp only [List.setIfInBounds_toArray, List.set_cons_zero, List.set_cons_succ]
            refine wpAnyH_takes (i := 11) (d := 23) (v := ?_) rfl rfl (by kernel_rfl) (fun _ _ _ h => h) (Or.inl ⟨by rfl, ?_⟩) hS ?_
            rotate_left
            · intro wq hq; (try dsimp only at hq); obtain ⟨hq1, hq2, hq3, hq4, hq5, hq6, hq7, hq8, hq9, hq10, hq11, hq12⟩ := hq; go_simp; try with_reducible rfl
            simp only [List.setIfInBounds_toArray, List.set_cons_zero, List.set_cons_succ]
            refine wpAnyH_takes (i := 12) (d := 24) (v := ?_) rfl rfl (by kernel_rfl) (fun _ _ _ h => h) (Or.inl ⟨by rfl, ?_⟩) hS ?_
            rotate_left
            · intro wq hq; (try dsimp only at hq); obtain ⟨hq1, hq2, hq3, hq4, hq5, hq6, hq7, hq8, hq9, hq10, hq11, hq12⟩ := hq; go_simp; try with_reducible rfl
            simp only [List.setIfInBounds_toArray, List.set_cons_zero, List.set_cons_succ]
            refine wpAnyH_takes (i := 13) (d := 25) (v := ?_) rfl rfl (by kernel_rfl) (fun _ _ _ h => h) (Or.inl ⟨by rfl, ?_⟩) hS ?_
            rotate_left
            · intro wq hq; (try dsimp only at hq); obtain ⟨hq1, hq2, hq3, hq4, hq5, hq6, hq7, hq8, hq9, hq10, hq11, hq12⟩ := hq; go_simp; try with_reducible rfl
            simp only [List.setIfInBounds_toArray, List.set_cons_zero, List.set_cons_succ]
            refine wpAnyH_takes (i := 14) (d := 26) (v := ?_) rfl rfl (by kernel_rfl) (fun _ _ _ h => h) (Or.inl ⟨by rfl, ?_⟩) hS ?_
            rotate_left
            · intro wq hq; (try dsimp only at hq); obtain ⟨hq1, hq2, hq3, hq4, hq5, hq6, hq7, hq8, hq9, hq10, hq11, hq12⟩ := hq; go_simp; try with_reducible rfl
            simp only [List.setIfInBounds_toArray, List.set_cons_zero, List.set_cons_succ]
            refine wpAnyH_takes (i := 15) (d := 27) (v := ?_) rfl rfl (by kernel_rfl) (fun _ _ _ h => h) (Or.inl ⟨by rfl, ?_⟩) hS ?_
            rotate_left
            · intro wq hq; (try dsimp only at hq); obtain ⟨hq1, hq2, hq3, hq4, hq5, hq6, hq7, hq8, hq9, hq10, hq11, hq12⟩ := hq; go_simp; try with_reducible rfl
            simp only [List.setIfInBounds_toArray, List.set_cons_zero, List.set_cons_succ]
            refine wpAnyH_takes (i := 16) (d := 28) (v := ?_) rfl rfl (by kernel_rfl) (fun _ _ _ h => h) (Or.inl ⟨by rfl, ?_⟩) hS ?_
            rotate_left
            · intro wq hq; (try dsimp only at hq); obtain ⟨hq1, hq2, hq3, hq4, hq5, hq6, hq7, hq8, hq9, hq10, hq11, hq12⟩ := hq; go_simp; try with_reducible rfl
            simp only [List.setIfInBounds_toArray, List.set_cons_zero, List.set_cons_succ]
            refine wpAnyH_takes (i := 17) (d := 29) (v := undef) rfl rfl (by kernel_rfl) (fun _ _ _ h => h) (Or.inr ⟨by first | rfl | (simp only [Int.natCast_zero, Int.lt_irrefl, decide_false]; rfl), by rfl⟩) hS ?_
            simp only [List.setIfInBounds_toArray, List.set_cons_zero, List.set_cons_succ]
            refine wpAnyH_takes (i := 18) (d := 30) (v := undef) rfl rfl (by kernel_rfl) (fun _ _ _ h => h) (Or.inr ⟨by first | rfl | (simp only [Int.natCast_zero, Int.lt_irrefl, decide_false]; rfl), by rfl⟩) hS ?_
            simp only [List.setIfInBounds_toArray, List.set_cons_zero, List.set_cons_succ]
            refine wpAnyH_takes (i := 19) (d := 31) (v := undef) rfl rfl (by kernel_rfl) (fun _ _ _ h => h) (Or.inr ⟨by first | rfl | (simp only [Int.natCast_zero, Int.lt_irrefl, decide_false]; rfl), by rfl⟩) hS ?_
            simp only [List.setIfInBounds_toArray, List.set_cons_zero, List.set_cons_succ]
            refine wpAnyH_takes (i := 20) (d := 32) (v := undef) rfl rfl (by kernel_rfl) (fun _ _ _ h => h) (Or.inr ⟨by first | rfl | (simp only [Int.natCast_zero, Int.lt_irrefl, decide_false]; rfl), by rfl⟩) hS ?_
            simp only [List.setIfInBounds_toArray, List.set_cons_zero, List.set_cons_succ]
            refine wpAnyH_takes (i := 21) (d := 33) (v := undef) rfl rfl (by kernel_rfl) (fun _ _ _ h => h) (Or.inr ⟨by first | rfl | (simp only [Int.natCast_zero, Int.lt_irrefl, decide_false]; rfl), by rfl⟩) hS ?_
            simp only [List.setIfInBounds_toArray, List.set_cons_zero, List.set_cons_succ]
            refine wpAnyH_takes (i := 22) (d := 34) (v := undef) rfl rfl (by kernel_rfl) (fun _ _ _ h => h) (Or.inr ⟨by first | rfl | (simp only [Int.natCast_zero, Int.lt_irrefl, decide_false]; rfl), by rfl⟩) hS ?_
            simp only [List.setIfInBounds_toArray, List.set_cons_zero, List.set_cons_succ]
            refine wpAnyH_takes (i := 23) (d := 35) (v := undef) rfl rfl (by kernel_rfl) (fun _ _ _ h => h) (Or.inr ⟨by first | rfl | (simp only [Int.natCast_zero, Int.lt_irrefl, decide_false]; rfl), by rfl⟩) hS ?_
            simp only [List.setIfInBounds_toArray, List.set_cons_zero, List.set_cons_succ]
            refine wpAnyH_takes (i := 24) (d := 36) (v := ?_) rfl rfl (by kernel_rfl) (fun _ _ _ h => h) (Or.inl ⟨by rfl, ?_⟩) hS ?_
            rotate_left
            · intro wq hq; (try dsimp only at hq); obtain ⟨hq1, hq2, hq3, hq4, hq5, hq6, hq7, hq8, hq9, hq10, hq11, hq12⟩ := hq; go_simp; try with_reducible rfl
            simp only [List.setIfInBounds_toArray, List.set_cons_zero, List.set_cons_succ]
            refine wpAnyH_takes (i := 25) (d := 37) (v := ?_) rfl rfl (by kernel_rfl) (fun _ _ _ h => h) (Or.inl ⟨by rfl, ?_⟩) hS ?_
            rotate_left
            · intro wq hq; (try dsimp only at hq); obtain ⟨hq1, hq2, hq3, hq4, hq5, hq6, hq7, hq8, hq9, hq10, hq11, hq12⟩ := hq; go_simp; try with_reducible rfl
            simp only [List.setIfInBounds_toArray, List.set_cons_zero, List.set_cons_succ]
            refine wpAnyH_takes (i := 26) (d := 38) (v := ?_) rfl rfl (by kernel_rfl) (fun _ _ _ h => h) (Or.inl ⟨by rfl, ?_⟩) hS ?_
            rotate_left
            · intro wq hq; (try dsimp only at hq); obtain ⟨hq1, hq2, hq3, hq4, hq5, hq6, hq7, hq8, hq9, hq10, hq11, hq12⟩ := hq; go_simp; try with_reducible rfl
            simp only [List.setIfInBounds_toArray, List.set_cons_zero, List.set_cons_succ]
            refine wpAnyH_done (by kernel_rfl) ?_ _
            go_wp2
            go_ret
            exact ⟨ret_goes (by rw [HBAD.out]), HTa.out.low⟩
          | false =>
            cases gg with
            | true =>
              have HBAD := Lib.hid (HBD.out (HOK0.out.trans (by rw [hok, hgt]; rfl)))
              clear hok
              refine wp_region_H (fun z => z.cell? ⟨ab, 0, none⟩ = some (.int .i64 a0) ∧ z.cell? ⟨ab, 1, none⟩ = some (.int .i64 a1) ∧ z.cell? ⟨ab, 2, none⟩ = some (.int .i64 a2) ∧ z.cell? ⟨ab, 3, none⟩ = some (.bool a3) ∧ z.cell? ⟨ab, 4, none⟩ = some (.int .i64 a4) ∧ z.cell? ⟨ab, 5, none⟩ = some (.int .i64 a5) ∧ z.cell? ⟨pb, lo + k * 6, none⟩ = some (.int .i64 b0) ∧ z.cell? ⟨pb, lo + k * 6 + 1, none⟩ = some (.int .i64 b1) ∧ z.cell? ⟨pb, lo + k * 6 + 2, none⟩ = some (.int .i64 b2) ∧ z.cell? ⟨pb, lo + k * 6 + 3, none⟩ = some (.bool b3) ∧ z.cell? ⟨pb, lo + k * 6 + 4, none⟩ = some (.int .i64 b4) ∧ z.cell? ⟨pb, lo + k * 6 + 5, none⟩ = some (.int .i64 b5)) 27 (by rfl) (by kernel_rfl) ?_
              have hS : (fun z : World => z.cell? ⟨ab, 0, none⟩ = some (.int .i64 a0) ∧ z.cell? ⟨ab, 1, none⟩ = some (.int .i64 a1) ∧ z.cell? ⟨ab, 2, none⟩ = some (.int .i64 a2) ∧ z.cell? ⟨ab, 3, none⟩ = some (.bool a3) ∧ z.cell? ⟨ab, 4, none⟩ = some (.int .i64 a4) ∧ z.cell? ⟨ab, 5, none⟩ = some (.int .i64 a5) ∧ z.cell? ⟨pb, lo + k * 6, none⟩ = some (.int .i64 b0) ∧ z.cell? ⟨pb, lo + k * 6 + 1, none⟩ = some (.int .i64 b1) ∧ z.cell? ⟨pb, lo + k * 6 + 2, none⟩ = some (.int .i64 b2) ∧ z.cell? ⟨pb, lo + k * 6 + 3, none⟩ = some (.bool b3) ∧ z.cell? ⟨pb, lo + k * 6 + 4, none⟩ = some (.int .i64 b4) ∧ z.cell? ⟨pb, lo + k * 6 + 5, none⟩ = some (.int .i64 b5)) w1.drew := HT.out.held
              try simp only [Array.replicate, List.replicate, List.setIfInBounds_toArray]
              refine wpAnyH_takes (i := 0) (d := 12) (v := ?_) rfl rfl (by kernel_rfl) (fun _ _ _ h => h) (Or.inl ⟨by rfl, ?_⟩) hS ?_
              rotate_left
              · intro wq hq; (try dsimp only at hq); obtain ⟨hq1, hq2, hq3, hq4, hq5, hq6, hq7, hq8, hq9, hq10, hq11, hq12⟩ := hq; go_simp; try with_reducible rfl
              simp only [List.setIfInBounds_toArray, List.set_cons_zero, List.set_cons_succ]
              refine wpAnyH_one (i := 1) (by kernel_rfl) rfl (by rfl) (fun K hK => ?_)
              simp only [List.getElem_toArray, List.getElem_cons_succ, List.getElem_cons_zero]
              go_simp
              refine (HFO.out _).mono ?_
              rintro e wa ⟨rfl, hb⟩
              have HTa := Lib.hid (HT.out.thru hb)
              clear hb
              refine hK.out _ _ HTa.out.held ?_
              clear hK K hS
              have hS := HTa.out.held
              try simp only [Act.put, List.setIfInBounds_toArray, List.set_cons_zero, List.set_cons_succ]
              refine wpAnyH_takes (i := 2) (d := 14) (v := ?_) rfl rfl (by kernel_rfl) (fun _ _ _ h => h) (Or.inl ⟨by rfl, ?_⟩) hS ?_
              rotate_left
              · intro wq hq; (try dsimp only at hq); obtain ⟨hq1, hq2, hq3, hq4, hq5, hq6, hq7, hq8, hq9, hq10, hq11, hq12⟩ := hq; go_simp; try with_reducible rfl
              simp only [List.setIfInBounds_toArray, List.set_cons_zero, List.set_cons_succ]
              refine wpAnyH_takes (i := 3) (d := 15) (v := ?_) rfl rfl (by kernel_rfl) (fun _ _ _ h => h) (Or.inl ⟨by rfl, ?_⟩) hS ?_
              rotate_left
              · intro wq hq; (try dsimp only at hq); obtain ⟨hq1, hq2, hq3, hq4, hq5, hq6, hq7, hq8, hq9, hq10, hq11, hq12⟩ := hq; go_simp; try with_reducible rfl
              simp only [List.setIfInBounds_toArray, List.set_cons_zero, List.set_cons_succ]
              refine wpAnyH_takes (i := 4) (d := 16) (v := ?_) rfl rfl (by kernel_rfl) (fun _ _ _ h => h) (Or.inl ⟨by rfl, ?_⟩) hS ?_
              rotate_left
              · intro wq hq; (try dsimp only at hq); obtain ⟨hq1, hq2, hq3, hq4, hq5, hq6, hq7, hq8, hq9, hq10, hq11, hq12⟩ := hq; go_simp; try with_reducible rfl
              simp only [List.setIfInBounds_toArray, List.set_cons_zero, List.set_cons_succ]
              refine wpAnyH_takes (i := 5) (d := 17) (v := ?_) rfl rfl (by kernel_rfl) (fun _ _ _ h => h) (Or.inl ⟨by rfl, ?_⟩) hS ?_
              rotate_left
              · intro wq hq; (try dsimp only at hq); obtain ⟨hq1, hq2, hq3, hq4, hq5, hq6, hq7, hq8, hq9, hq10, hq11, hq12⟩ := hq; go_simp; try with_reducible rfl
              simp only [List.setIfInBounds_toArray, List.set_cons_zero, List.set_cons_succ]
              refine wpAnyH_takes (i := 6) (d := 18) (v := ?_) rfl rfl (by kernel_rfl) (fun _ _ _ h => h) (Or.inl ⟨by rfl, ?_⟩) hS ?_
              rotate_left
              · intro wq hq; (try dsimp only at hq); obtain ⟨hq1, hq2, hq3, hq4, hq5, hq6, hq7, hq8, hq9, hq10, hq11, hq12⟩ := hq; go_simp; try with_reducible rfl
              simp only [List.setIfInBounds_toArray, List.set_cons_zero, List.set_cons_succ]
              refine wpAnyH_takes (i := 7) (d := 19) (v := ?_) rfl rfl (by kernel_rfl) (fun _ _ _ h => h) (Or.inl ⟨by rfl, ?_⟩) hS ?_
              rotate_left
              · intro wq hq; (try dsimp only at hq); obtain ⟨hq1, hq2, hq3, hq4, hq5, hq6, hq7, hq8, hq9, hq10, hq11, hq12⟩ := hq; go_simp; try with_reducible rfl
              simp only [List.setIfInBounds_toArray, List.set_cons_zero, List.set_cons_succ]
              refine wpAnyH_takes (i := 8) (d := 20) (v := ?_) rfl rfl (by kernel_rfl) (fun _ _ _ h => h) (Or.inl ⟨by rfl, ?_⟩) hS ?_
              rotate_left
              · intro wq hq; (try dsimp only at hq); obtain ⟨hq1, hq2, hq3, hq4, hq5, hq6, hq7, hq8, hq9, hq10, hq11, hq12⟩ := hq; go_simp; try with_reducible rfl
              simp only [List.setIfInBounds_toArray, List.set_cons_zero, List.set_cons_succ]
              refine wpAnyH_takes (i := 9) (d := 21) (v := ?_) rfl rfl (by kernel_rfl) (fun _ _ _ h => h) (Or.inl ⟨by rfl, ?_⟩) hS ?_
              rotate_left
              · intro wq hq; (try dsimp only at hq); obtain ⟨hq1, hq2, hq3, hq4, hq5, hq6, hq7, hq8, hq9, hq10, hq11, hq12⟩ := hq; go_simp; try with_reducible rfl
              simp only [List.setIfInBounds_toArray, List.set_cons_zero, List.set_cons_succ]
              refine wpAnyH_takes (i := 10) (d := 22) (v := ?_) rfl rfl (by kernel_rfl) (fun _ _ _ h => h) (Or.inl ⟨by rfl, ?_⟩) hS ?_
              rotate_left
              · intro wq hq; (try dsimp only at hq); obtain ⟨hq1, hq2, hq3, hq4, hq5, hq6, hq7, hq8, hq9, hq10, hq11, hq12⟩ := hq; go_simp; try with_reducible rfl
              simp only [List.setIfInBounds_toArray, List.set_cons_zero, List.set_cons_succ]
              refine wpAnyH_takes (i := 11) (d := 23) (v := ?_) rfl rfl (by kernel_rfl) (fun _ _ _ h => h) (Or.inl ⟨by rfl, ?_⟩) hS ?_
              rotate_left
              · intro wq hq; (try dsimp only at hq); obtain ⟨hq1, hq2, hq3, hq4, hq5, hq6, hq7, hq8, hq9, hq10, hq11, hq12⟩ := hq; go_simp; try with_reducible rfl
              simp only [List.setIfInBounds_toArray, List.set_cons_zero, List.set_cons_succ]
              refine wpAnyH_takes (i := 12) (d := 24) (v := ?_) rfl rfl (by kernel_rfl) (fun _ _ _ h => h) (Or.inl ⟨by rfl, ?_⟩) hS ?_
              rotate_left
              · intro wq hq; (try dsimp only at hq); obtain ⟨hq1, hq2, hq3, hq4, hq5, hq6, hq7, hq8, hq9, hq10, hq11, hq12⟩ := hq; go_simp; try with_reducible rfl
              simp only [List.setIfInBounds_toArray, List.set_cons_zero, List.set_cons_succ]
              refine wpAnyH_takes (i := 13) (d := 25) (v := ?_) rfl rfl (by kernel_rfl) (fun _ _ _ h => h) (Or.inl ⟨by rfl, ?_⟩) hS ?_
              rotate_left
              · intro wq hq; (try dsimp only at hq); obtain ⟨hq1, hq2, hq3, hq4, hq5, hq6, hq7, hq8, hq9, hq10, hq11, hq12⟩ := hq; go_simp; try with_reducible rfl
              simp only [List.setIfInBounds_toArray, List.set_cons_zero, List.set_cons_succ]
              refine wpAnyH_takes (i := 14) (d := 26) (v := ?_) rfl rfl (by kernel_rfl) (fun _ _ _ h => h) (Or.inl ⟨by rfl, ?_⟩) hS ?_
              rotate_left
              · intro wq hq; (try dsimp only at hq); obtain ⟨hq1, hq2, hq3, hq4, hq5, hq6, hq7, hq8, hq9, hq10, hq11, hq12⟩ := hq; go_simp; try with_reducible rfl
              simp only [List.setIfInBounds_toArray, List.set_cons_zero, List.set_cons_succ]
              refine wpAnyH_takes (i := 15) (d := 27) (v := ?_) rfl rfl (by kernel_rfl) (fun _ _ _ h => h) (Or.inl ⟨by rfl, ?_⟩) hS ?_
              rotate_left
              · intro wq hq; (try dsimp only at hq); obtain ⟨hq1, hq2, hq3, hq4, hq5, hq6, hq7, hq8, hq9, hq10, hq11, hq12⟩ := hq; go_simp; try with_reducible rfl
              simp only [List.setIfInBounds_toArray, List.set_cons_zero, List.set_cons_succ]
              refine wpAnyH_takes (i := 16) (d := 28) (v := ?_) rfl rfl (by kernel_rfl) (fun _ _ _ h => h) (Or.inl ⟨by rfl, ?_⟩) hS ?_
              rotate_left
              · intro wq hq; (try dsimp only at hq); obtain ⟨hq1, hq2, hq3, hq4, hq5, hq6, hq7, hq8, hq9, hq10, hq11, hq12⟩ := hq; go_simp; try with_reducible rfl
              simp only [List.setIfInBounds_toArray, List.set_cons_zero, List.set_cons_succ]
              refine wpAnyH_takes (i := 17) (d := 29) (v := ?_) rfl rfl (by kernel_rfl) (fun _ _ _ h => h) (Or.inl ⟨by rfl, ?_⟩) hS ?_
              rotate_left
              · intro wq hq; (try dsimp only at hq); obtain ⟨hq1, hq2, hq3, hq4, hq5, hq6, hq7, hq8, hq9, hq10, hq11, hq12⟩ := hq; go_simp; try with_reducible rfl
              simp only [List.setIfInBounds_toArray, List.set_cons_zero, List.set_cons_succ]
              refine wpAnyH_takes (i := 18) (d := 30) (v := ?_) rfl rfl (by kernel_rfl) (fun _ _ _ h => h) (Or.inl ⟨by rfl, ?_⟩) hS ?_
              rotate_left
              · intro wq hq; (try dsimp only at hq); obtain ⟨hq1, hq2, hq3, hq4, hq5, hq6, hq7, hq8, hq9, hq10, hq11, hq12⟩ := hq; go_simp; try with_reducible rfl
              simp only [List.setIfInBounds_toArray, List.set_cons_zero, List.set_cons_succ]
              refine wpAnyH_takes (i := 19) (d := 31) (v := ?_) rfl rfl (by kernel_rfl) (fun _ _ _ h => h) (Or.inl ⟨by rfl, ?_⟩) hS ?_
              rotate_left
              · intro wq hq; (try dsimp only at hq); obtain ⟨hq1, hq2, hq3, hq4, hq5, hq6, hq7, hq8, hq9, hq10, hq11, hq12⟩ := hq; go_simp; try with_reducible rfl
              simp only [List.setIfInBounds_toArray, List.set_cons_zero, List.set_cons_succ]
              refine wpAnyH_takes (i := 20) (d := 32) (v := ?_) rfl rfl (by kernel_rfl) (fun _ _ _ h => h) (Or.inl ⟨by rfl, ?_⟩) hS ?_
              rotate_left
              · intro wq hq; (try dsimp only at hq); obtain ⟨hq1, hq2, hq3, hq4, hq5, hq6, hq7, hq8, hq9, hq10, hq11, hq12⟩ := hq; go_simp; try with_reducible rfl
              simp only [List.setIfInBounds_toArray, List.set_cons_zero, List.set_cons_succ]
              refine wpAnyH_takes (i := 21) (d := 33) (v := ?_) rfl rfl (by kernel_rfl) (fun _ _ _ h => h) (Or.inl ⟨by rfl, ?_⟩) hS ?_
              rotate_left
              · intro wq hq; (try dsimp only at hq); obtain ⟨hq1, hq2, hq3, hq4, hq5, hq6, hq7, hq8, hq9, hq10, hq11, hq12⟩ := hq; go_simp; try with_reducible rfl
              simp only [List.setIfInBounds_toArray, List.set_cons_zero, List.set_cons_succ]
              refine wpAnyH_takes (i := 22) (d := 34) (v := ?_) rfl rfl (by kernel_rfl) (fun _ _ _ h => h) (Or.inl ⟨by rfl, ?_⟩) hS ?_
              rotate_left
              · intro wq hq; (try dsimp only at hq); obtain ⟨hq1, hq2, hq3, hq4, hq5, hq6, hq7, hq8, hq9, hq10, hq11, hq12⟩ := hq; go_simp; try with_reducible rfl
              simp only [List.setIfInBounds_toArray, List.set_cons_zero, List.set_cons_succ]
              refine wpAnyH_one (i := 23) (by kernel_rfl) rfl (by rfl) (fun K hK => ?_)
              simp only [List.getElem_toArray, List.getElem_cons_succ, List.getElem_cons_zero]
              go_simp
              refine (HGO.out _).mono ?_
              rintro e wb ⟨rfl, hb⟩
              have HTb := Lib.hid (HTa.out.thru hb)
              clear hb
              refine hK.out _ _ HTb.out.held ?_
              clear hK K hS
              have hS := HTb.out.held
              try simp only [Act.put, List.setIfInBounds_toArray, List.set_cons_zero, List.set_cons_succ]
              refine wpAnyH_takes (i := 24) (d := 36) (v := ?_) rfl rfl (by kernel_rfl) (fun _ _ _ h => h) (Or.inl ⟨by rfl, ?_⟩) hS ?_
              rotate_left
              · intro wq hq; (try dsimp only at hq); obtain ⟨hq1, hq2, hq3, hq4, hq5, hq6, hq7, hq8, hq9, hq10, hq11, hq12⟩ := hq; go_simp; try with_reducible rfl
              simp only [List.setIfInBounds_toArray, List.set_cons_zero, List.set_cons_succ]
              refine wpAnyH_takes (i := 25) (d := 37) (v := ?_) rfl rfl (by kernel_rfl) (fun _ _ _ h => h) (Or.inl ⟨by rfl, ?_⟩) hS ?_
              rotate_left
              · intro wq hq; (try dsimp only at hq); obtain ⟨hq1, hq2, hq3, hq4, hq5, hq6, hq7, hq8, hq9, hq10, hq11, hq12⟩ := hq; go_simp; try with_reducible rfl
              simp only [List.setIfInBounds_toArray, List.set_cons_zero, List.set_cons_succ]
              refine wpAnyH_takes (i := 26) (d := 38) (v := ?_) rfl rfl (by kernel_rfl) (fun _ _ _ h => h) (Or.inl ⟨by rfl, ?_⟩) hS ?_
              rotate_left
              · intro wq hq; (try dsimp only at hq); obtain ⟨hq1, hq2, hq3, hq4, hq5, hq6, hq7, hq8, hq9, hq10, hq11, hq12⟩ := hq; go_simp; try with_reducible rfl
              simp only [List.setIfInBounds_toArray, List.set_cons_zero, List.set_cons_succ]
              refine wpAnyH_done (by kernel_rfl) ?_ _
              go_wp2
              go_ret
              exact ⟨ret_goes (by rw [HBAD.out]), HTb.out.low⟩
            | false =>
              have HGOOD := Lib.hid (HGD.out (HOK0.out.trans (by rw [hok, hgt]; rfl)))
              clear hok
              refine wp_region_H (fun z => z.cell? ⟨ab, 0, none⟩ = some (.int .i64 a0) ∧ z.cell? ⟨ab, 1, none⟩ = some (.int .i64 a1) ∧ z.cell? ⟨ab, 2, none⟩ = some (.int .i64 a2) ∧ z.cell? ⟨ab, 3, none⟩ = some (.bool a3) ∧ z.cell? ⟨ab, 4, none⟩ = some (.int .i64 a4) ∧ z.cell? ⟨ab, 5, none⟩ = some (.int .i64 a5) ∧ z.cell? ⟨pb, lo + k * 6, none⟩ = some (.int .i64 b0) ∧ z.cell? ⟨pb, lo + k * 6 + 1, none⟩ = some (.int .i64 b1) ∧ z.cell? ⟨pb, lo + k * 6 + 2, none⟩ = some (.int .i64 b2) ∧ z.cell? ⟨pb, lo + k * 6 + 3, none⟩ = some (.bool b3) ∧ z.cell? ⟨pb, lo + k * 6 + 4, none⟩ = some (.int .i64 b4) ∧ z.cell? ⟨pb, lo + k * 6 + 5, none⟩ = some (.int .i64 b5)) 27 (by rfl) (by kernel_rfl) ?_
              have hS : (fun z : World => z.cell? ⟨ab, 0, none⟩ = some (.int .i64 a0) ∧ z.cell? ⟨ab, 1, none⟩ = some (.int .i64 a1) ∧ z.cell? ⟨ab, 2, none⟩ = some (.int .i64 a2) ∧ z.cell? ⟨ab, 3, none⟩ = some (.bool a3) ∧ z.cell? ⟨ab, 4, none⟩ = some (.int .i64 a4) ∧ z.cell? ⟨ab, 5, none⟩ = some (.int .i64 a5) ∧ z.cell? ⟨pb, lo + k * 6, none⟩ = some (.int .i64 b0) ∧ z.cell? ⟨pb, lo + k * 6 + 1, none⟩ = some (.int .i64 b1) ∧ z.cell? ⟨pb, lo + k * 6 + 2, none⟩ = some (.int .i64 b2) ∧ z.cell? ⟨pb, lo + k * 6 + 3, none⟩ = some (.bool b3) ∧ z.cell? ⟨pb, lo + k * 6 + 4, none⟩ = some (.int .i64 b4) ∧ z.cell? ⟨pb, lo + k * 6 + 5, none⟩ = some (.int .i64 b5)) w1.drew := HT.out.held
              try simp only [Array.replicate, List.replicate, List.setIfInBounds_toArray]
              refine wpAnyH_takes (i := 0) (d := 12) (v := ?_) rfl rfl (by kernel_rfl) (fun _ _ _ h => h) (Or.inl ⟨by rfl, ?_⟩) hS ?_
              rotate_left
              · intro wq hq; (try dsimp only at hq); obtain ⟨hq1, hq2, hq3, hq4, hq5, hq6, hq7, hq8, hq9, hq10, hq11, hq12⟩ := hq; go_simp; try with_reducible rfl
              simp only [List.setIfInBounds_toArray, List.set_cons_zero, List.set_cons_succ]
              refine wpAnyH_one (i := 1) (by kernel_rfl) rfl (by rfl) (fun K hK => ?_)
              simp only [List.getElem_toArray, List.getElem_cons_succ, List.getElem_cons_zero]
              go_simp
              refine (HFO.out _).mono ?_
              rintro e wa ⟨rfl, hb⟩
              have HTa := Lib.hid (HT.out.thru hb)
              clear hb
              refine hK.out _ _ HTa.out.held ?_
              clear hK K hS
              have hS := HTa.out.held
              try simp only [Act.put, List.setIfInBounds_toArray, List.set_cons_zero, List.set_cons_succ]
              refine wpAnyH_takes (i := 2) (d := 14) (v := ?_) rfl rfl (by kernel_rfl) (fun _ _ _ h => h) (Or.inl ⟨by rfl, ?_⟩) hS ?_
              rotate_left
              · intro wq hq; (try dsimp only at hq); obtain ⟨hq1, hq2, hq3, hq4, hq5, hq6, hq7, hq8, hq9, hq10, hq11, hq12⟩ := hq; go_simp; try with_reducible rfl
              simp only [List.setIfInBounds_toArray, List.set_cons_zero, List.set_cons_succ]
              refine wpAnyH_takes (i := 3) (d := 15) (v := ?_) rfl rfl (by kernel_rfl) (fun _ _ _ h => h) (Or.inl ⟨by rfl, ?_⟩) hS ?_
              rotate_left
              · intro wq hq; (try dsimp only at hq); obtain ⟨hq1, hq2, hq3, hq4, hq5, hq6, hq7, hq8, hq9, hq10, hq11, hq12⟩ := hq; go_simp; try with_reducible rfl
              simp only [List.setIfInBounds_toArray, List.set_cons_zero, List.set_cons_succ]
              refine wpAnyH_takes (i := 4) (d := 16) (v := ?_) rfl rfl (by kernel_rfl) (fun _ _ _ h => h) (Or.inl ⟨by rfl, ?_⟩) hS ?_
              rotate_left
              · intro wq hq; (try dsimp only at hq); obtain ⟨hq1, hq2, hq3, hq4, hq5, hq6, hq7, hq8, hq9, hq10, hq11, hq12⟩ := hq; go_simp; try with_reducible rfl
              simp only [List.setIfInBounds_toArray, List.set_cons_zero, List.set_cons_succ]
              refine wpAnyH_takes (i := 5) (d := 17) (v := ?_) rfl rfl (by kernel_rfl) (fun _ _ _ h => h) (Or.inl ⟨by rfl, ?_⟩) hS ?_
              rotate_left
              · intro wq hq; (try dsimp only at hq); obtain ⟨hq1, hq2, hq3, hq4, hq5, hq6, hq7, hq8, hq9, hq10, hq11, hq12⟩ := hq; go_simp; try with_reducible rfl
              simp only [List.setIfInBounds_toArray, List.set_cons_zero, List.set_cons_succ]
              refine wpAnyH_takes (i := 6) (d := 18) (v := ?_) rfl rfl (by kernel_rfl) (fun _ _ _ h => h) (Or.inl ⟨by rfl, ?_⟩) hS ?_
              rotate_left
              · intro wq hq; (try dsimp only at hq); obtain ⟨hq1, hq2, hq3, hq4, hq5, hq6, hq7, hq8, hq9, hq10, hq11, hq12⟩ := hq; go_simp; try with_reducible rfl
              simp only [List.setIfInBounds_toArray, List.set_cons_zero, List.set_cons_succ]
              refine wpAnyH_takes (i := 7) (d := 19) (v := ?_) rfl rfl (by kernel_rfl) (fun _ _ _ h => h) (Or.inl ⟨by rfl, ?_⟩) hS ?_
              rotate_left
              · intro wq hq; (try dsimp only at hq); obtain ⟨hq1, hq2, hq3, hq4, hq5, hq6, hq7, hq8, hq9, hq10, hq11, hq12⟩ := hq; go_simp; try with_reducible rfl
              simp only [List.setIfInBounds_toArray, List.set_cons_zero, List.set_cons_succ]
              refine wpAnyH_takes (i := 8) (d := 20) (v := ?_) rfl rfl (by kernel_rfl) (fun _ _ _ h => h) (Or.inl ⟨by rfl, ?_⟩) hS ?_
              rotate_left
              · intro wq hq; (try dsimp only at hq); obtain ⟨hq1, hq2, hq3, hq4, hq5, hq6, hq7, hq8, hq9, hq10, hq11, hq12⟩ := hq; go_simp; try with_reducible rfl
              simp only [List.setIfInBounds_toArray, List.set_cons_zero, List.set_cons_succ]
              refine wpAnyH_takes (i := 9) (d := 21) (v := ?_) rfl rfl (by kernel_rfl) (fun _ _ _ h => h) (Or.inl ⟨by rfl, ?_⟩) hS ?_
              rotate_left
              · intro wq hq; (try dsimp only at hq); obtain ⟨hq1, hq2, hq3, hq4, hq5, hq6, hq7, hq8, hq9, hq10, hq11, hq12⟩ := hq; go_simp; try with_reducible rfl
              simp only [List.setIfInBounds_toArray, List.set_cons_zero, List.set_cons_succ]
              refine wpAnyH_takes (i := 10) (d := 22) (v := ?_) rfl rfl (by kernel_rfl) (fun _ _ _ h => h) (Or.inl ⟨by rfl, ?_⟩) hS ?_
              rotate_left
              · intro wq hq; (try dsimp only at hq); obtain ⟨hq1, hq2, hq3, hq4, hq5, hq6, hq7, hq8, hq9, hq10, hq11, hq12⟩ := hq; go_simp; try with_reducible rfl
              simp only [List.setIfInBounds_toArray, List.set_cons_zero, List.set_cons_succ]
              refine wpAnyH_takes (i := 11) (d := 23) (v := ?_) rfl rfl (by kernel_rfl) (fun _ _ _ h => h) (Or.inl ⟨by rfl, ?_⟩) hS ?_
              rotate_left
              · intro wq hq; (try dsimp only at hq); obtain ⟨hq1, hq2, hq3, hq4, hq5, hq6, hq7, hq8, hq9, hq10, hq11, hq12⟩ := hq; go_simp; try with_reducible rfl
              simp only [List.setIfInBounds_toArray, List.set_cons_zero, List.set_cons_succ]
              refine wpAnyH_takes (i := 12) (d := 24) (v := ?_) rfl rfl (by kernel_rfl) (fun _ _ _ h => h) (Or.inl ⟨by rfl, ?_⟩) hS ?_
              rotate_left
              · intro wq hq; (try dsimp only at hq); obtain ⟨hq1, hq2, hq3, hq4, hq5, hq6, hq7, hq8, hq9, hq10, hq11, hq12⟩ := hq; go_simp; try with_reducible rfl
              simp only [List.setIfInBounds_toArray, List.set_cons_zero, List.set_cons_succ]
              refine wpAnyH_takes (i := 13) (d := 25) (v := ?_) rfl rfl (by kernel_rfl) (fun _ _ _ h => h) (Or.inl ⟨by rfl, ?_⟩) hS ?_
              rotate_left
              · intro wq hq; (try dsimp only at hq); obtain ⟨hq1, hq2, hq3, hq4, hq5, hq6, hq7, hq8, hq9, hq10, hq11, hq12⟩ := hq; go_simp; try with_reducible rfl
              simp only [List.setIfInBounds_toArray, List.set_cons_zero, List.set_cons_succ]
              refine wpAnyH_takes (i := 14) (d := 26) (v := ?_) rfl rfl (by kernel_rfl) (fun _ _ _ h => h) (Or.inl ⟨by rfl, ?_⟩) hS ?_
              rotate_left
              · intro wq hq; (try dsimp only at hq); obtain ⟨hq1, hq2, hq3, hq4, hq5, hq6, hq7, hq8, hq9, hq10, hq11, hq12⟩ := hq; go_simp; try with_reducible rfl
              simp only [List.setIfInBounds_toArray, List.set_cons_zero, List.set_cons_succ]
              refine wpAnyH_takes (i := 15) (d := 27) (v := ?_) rfl rfl (by kernel_rfl) (fun _ _ _ h => h) (Or.inl ⟨by rfl, ?_⟩) hS ?_
              rotate_left
              · intro wq hq; (try dsimp only at hq); obtain ⟨hq1, hq2, hq3, hq4, hq5, hq6, hq7, hq8, hq9, hq10, hq11, hq12⟩ := hq; go_simp; try with_reducible rfl
              simp only [List.setIfInBounds_toArray, List.set_cons_zero, List.set_cons_succ]
              refine wpAnyH_takes (i := 16) (d := 28) (v := ?_) rfl rfl (by kernel_rfl) (fun _ _ _ h => h) (Or.inl ⟨by rfl, ?_⟩) hS ?_
              rotate_left
              · intro wq hq; (try dsimp only at hq); obtain ⟨hq1, hq2, hq3, hq4, hq5, hq6, hq7, hq8, hq9, hq10, hq11, hq12⟩ := hq; go_simp; try with_reducible rfl
              simp only [List.setIfInBounds_toArray, List.set_cons_zero, List.set_cons_succ]
              refine wpAnyH_takes (i := 17) (d := 29) (v := ?_) rfl rfl (by kernel_rfl) (fun _ _ _ h => h) (Or.inl ⟨by rfl, ?_⟩) hS ?_
              rotate_left
              · intro wq hq; (try dsimp only at hq); obtain ⟨hq1, hq2, hq3, hq4, hq5, hq6, hq7, hq8, hq9, hq10, hq11, hq12⟩ := hq; go_simp; try with_reducible rfl
              simp only [List.setIfInBounds_toArray, List.set_cons_zero, List.set_cons_succ]
              refine wpAnyH_takes (i := 18) (d := 30) (v := ?_) rfl rfl (by kernel_rfl) (fun _ _ _ h => h) (Or.inl ⟨by rfl, ?_⟩) hS ?_
              rotate_left
              · intro wq hq; (try dsimp only at hq); obtain ⟨hq1, hq2, hq3, hq4, hq5, hq6, hq7, hq8, hq9, hq10, hq11, hq12⟩ := hq; go_simp; try with_reducible rfl
              simp only [List.setIfInBounds_toArray, List.set_cons_zero, List.set_cons_succ]
              refine wpAnyH_takes (i := 19) (d := 31) (v := ?_) rfl rfl (by kernel_rfl) (fun _ _ _ h => h) (Or.inl ⟨by rfl, ?_⟩) hS ?_
              rotate_left
              · intro wq hq; (try dsimp only at hq); obtain ⟨hq1, hq2, hq3, hq4, hq5, hq6, hq7, hq8, hq9, hq10, hq11, hq12⟩ := hq; go_simp; try with_reducible rfl
              simp only [List.setIfInBounds_toArray, List.set_cons_zero, List.set_cons_succ]
              refine wpAnyH_takes (i := 20) (d := 32) (v := ?_) rfl rfl (by kernel_rfl) (fun _ _ _ h => h) (Or.inl ⟨by rfl, ?_⟩) hS ?_
              rotate_left
              · intro wq hq; (try dsimp only at hq); obtain ⟨hq1, hq2, hq3, hq4, hq5, hq6, hq7, hq8, hq9, hq10, hq11, hq12⟩ := hq; go_simp; try with_reducible rfl
              simp only [List.setIfInBounds_toArray, List.set_cons_zero, List.set_cons_succ]
              refine wpAnyH_takes (i := 21) (d := 33) (v := ?_) rfl rfl (by kernel_rfl) (fun _ _ _ h => h) (Or.inl ⟨by rfl, ?_⟩) hS ?_
              rotate_left
              · intro wq hq; (try dsimp only at hq); obtain ⟨hq1, hq2, hq3, hq4, hq5, hq6, hq7, hq8, hq9, hq10, hq11, hq12⟩ := hq; go_simp; try with_reducible rfl
              simp only [List.setIfInBounds_toArray, List.set_cons_zero, List.set_cons_succ]
              refine wpAnyH_takes (i := 22) (d := 34) (v := ?_) rfl rfl (by kernel_rfl) (fun _ _ _ h => h) (Or.inl ⟨by rfl, ?_⟩) hS ?_
              rotate_left
              · intro wq hq; (try dsimp only at hq); obtain ⟨hq1, hq2, hq3, hq4, hq5, hq6, hq7, hq8, hq9, hq10, hq11, hq12⟩ := hq; go_simp; try with_reducible rfl
              simp only [List.setIfInBounds_toArray, List.set_cons_zero, List.set_cons_succ]
              refine wpAnyH_one (i := 23) (by kernel_rfl) rfl (by rfl) (fun K hK => ?_)
              simp only [List.getElem_toArray, List.getElem_cons_succ, List.getElem_cons_zero]
              go_simp
              refine (HGO.out _).mono ?_
              rintro e wb ⟨rfl, hb⟩
              have HTb := Lib.hid (HTa.out.thru hb)
              clear hb
              refine hK.out _ _ HTb.out.held ?_
              clear hK K hS
              have hS := HTb.out.held
              try simp only [Act.put, List.setIfInBounds_toArray, List.set_cons_zero, List.set_cons_succ]
              refine wpAnyH_takes (i := 24) (d := 36) (v := ?_) rfl rfl (by kernel_rfl) (fun _ _ _ h => h) (Or.inl ⟨by rfl, ?_⟩) hS ?_
              rotate_left
              · intro wq hq; (try dsimp only at hq); obtain ⟨hq1, hq2, hq3, hq4, hq5, hq6, hq7, hq8, hq9, hq10, hq11, hq12⟩ := hq; go_simp; try with_reducible rfl
              simp only [List.setIfInBounds_toArray, List.set_cons_zero, List.set_cons_succ]
              refine wpAnyH_takes (i := 25) (d := 37) (v := ?_) rfl rfl (by kernel_rfl) (fun _ _ _ h => h) (Or.inl ⟨by rfl, ?_⟩) hS ?_
              rotate_left
              · intro wq hq; (try dsimp only at hq); obtain ⟨hq1, hq2, hq3, hq4, hq5, hq6, hq7, hq8, hq9, hq10, hq11, hq12⟩ := hq; go_simp; try with_reducible rfl
              simp only [List.setIfInBounds_toArray, List.set_cons_zero, List.set_cons_succ]
              refine wpAnyH_takes (i := 26) (d := 38) (v := ?_) rfl rfl (by kernel_rfl) (fun _ _ _ h => h) (Or.inl ⟨by rfl, ?_⟩) hS ?_
              rotate_left
              · intro wq hq; (try dsimp only at hq); obtain ⟨hq1, hq2, hq3, hq4, hq5, hq6, hq7, hq8, hq9, hq10, hq11, hq12⟩ := hq; go_simp; try with_reducible rfl
              simp only [List.setIfInBounds_toArray, List.set_cons_zero, List.set_cons_succ]
              refine wpAnyH_done (by kernel_rfl) ?_ _
              go_wp2
              go_roundw
              case rel => exact ⟨k + 1 + 1, by omega, by go_num, HGOOD.out, HTb.out.low⟩
              case measure => simp [intOf]; omega
    · obtain rfl : i = len := by omega
      have HE := Lib.hid (rightB_all hzl hall)
      go_wp2
      go_ret
      exact ⟨ret_goes (by rw [HE.out]), hlow⟩
end Go.Proofs.Ytohidmkfpaiklaa
