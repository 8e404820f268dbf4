/- What is done with cells, by the program's memory and by the reference's: the same. -/
import Derived.Test.YtnglbgdokdcefaaLaw01
import Derived.Deep.LoopGhost
import Derived.Deep.QuietTactic
import Derived.BigQuiet
import Derived.Deep.DeepCutAuto
namespace Go.Proofs.Ytnglbgdokdcefaa
open Go.RowKit Go.WideShapes

/-- An access: its kind, its cell, its value, what is to be there. -/
structure OpV where
  kind : Int
  i : Int
  v : Int
  old : Int
def OpV.cells (o : OpV) : List Value := [.int .u8 o.kind, .int .i64 o.i, .int .i64 o.v, .int .i64 o.old]
def OpV.agg (o : OpV) : Value := .agg #[.int .u8 o.kind, .int .i64 o.i, .int .i64 o.v, .int .i64 o.old]
structure OpV.Ok (o : OpV) : Prop where
  k0 : 0 ≤ o.kind
  k1 : o.kind ≤ 255
  wi : (Lit.int .i64 o.i).wf = true
  wv : (Lit.int .i64 o.v).wf = true
  wo : (Lit.int .i64 o.old).wf = true

/-- 1, or 0. -/
def bitOf (b : Bool) : Int := if b = true then 1 else 0

/-- What an access does: its value, its error, the memory behind it. -/
def MemS.play (s : MemS) (o : OpV) : Int × Int × MemS :=
  if o.kind % 4 = 0 then s.load o.i
  else if o.kind % 4 = 1 then (0, (s.store o.i o.v).1, (s.store o.i o.v).2)
  else if o.kind % 4 = 2 then s.add o.i o.v
  else (bitOf (s.swap o.i o.old o.v).1, (s.swap o.i o.old o.v).2.1, (s.swap o.i o.old o.v).2.2)

theorem law_do (m c : Nat) (s : MemS) (o : OpV) (ho : o.Ok) (w : World) (h : MemAt w m c s) :
    Calls Try.prog 25 #[.pointer (some ⟨m, 0, none⟩), o.agg] w fun e w' =>
      e = .returned (.tuple #[.int .i64 (s.play o).1, .int .i64 (s.play o).2.1]) ∧ MemAt w' m c (s.play o).2.2 ∧ Upd [m, c] w w' := by
  obtain ⟨kind, i, v, old⟩ := o
  have hk0 : 0 ≤ kind := ho.k0
  have hk1 : kind ≤ 255 := ho.k1
  clear ho
  have hm := h.alloc (.cells #[.int .u8 kind, .int .i64 i, .int .i64 v, .int .i64 old] 46)
  have hu : Upd [m, c] w (w.alloc (.cells #[.int .u8 kind, .int .i64 i, .int .i64 v, .int .i64 old] 46)) := (Upd.refl _ _).alloc _
  clear h
  have h4 : kind % 4 = 0 ∨ kind % 4 = 1 ∨ kind % 4 = 2 ∨ kind % 4 = 3 := by omega
  rcases h4 with h4 | h4 | h4 | h4
  · have HP := Lib.hid (show s.play ⟨kind, i, v, old⟩ = s.load i by unfold MemS.play; rw [if_pos h4])
    have q0 : (kind % 4 == 0) = true := by simp [h4]
    clear h4
    unfold OpV.agg
    rw [HP.out]
    clear HP
    go_enter Try.func25, Try.ntmps25
    go_wp2_with fail
    refine (cell_load m c s i _ hm).mono ?_
    rintro e w1 ⟨rfl, hm1, hu1⟩
    go_wp2
    go_ret2
    exact ⟨rfl, hm1, hu.trans (hu1.mono (by simp))⟩
  · have HP := Lib.hid (show s.play ⟨kind, i, v, old⟩ = (0, (s.store i v).1, (s.store i v).2) by unfold MemS.play; rw [if_neg (by simp only; omega), if_pos h4])
    have q0 : (kind % 4 == 0) = false := by simp [h4]
    have q1 : (kind % 4 == 1) = true := by simp [h4]
    clear h4
    unfold OpV.agg
    rw [HP.out]
    clear HP
    go_enter Try.func25, Try.ntmps25
    go_wp2_with fail
    refine (cell_store m c s i v _ hm).mono ?_
    rintro e w1 ⟨rfl, hm1, hu1⟩
    go_wp2
    go_ret2
    exact ⟨rfl, hm1, hu.trans (hu1.mono (by simp))⟩
  · have HP := Lib.hid (show s.play ⟨kind, i, v, old⟩ = s.add i v by unfold MemS.play; rw [if_neg (by simp only; omega), if_neg (by simp only; omega), if_pos h4])
    have q0 : (kind % 4 == 0) = false := by simp [h4]
    have q1 : (kind % 4 == 1) = false := by simp [h4]
    have q2 : (kind % 4 == 2) = true := by simp [h4]
    clear h4
    unfold OpV.agg
    rw [HP.out]
    clear HP
    go_enter Try.func25, Try.ntmps25
    go_wp2_with fail
    refine (cell_add m c s i v _ hm).mono ?_
    rintro e w1 ⟨rfl, hm1, hu1⟩
    go_wp2
    go_ret2
    exact ⟨rfl, hm1, hu.trans (hu1.mono (by simp))⟩
  · have HP := Lib.hid (show s.play ⟨kind, i, v, old⟩ = (bitOf (s.swap i old v).1, (s.swap i old v).2.1, (s.swap i old v).2.2) by unfold MemS.play; rw [if_neg (by simp only; omega), if_neg (by simp only; omega), if_neg (by simp only; omega)])
    have q0 : (kind % 4 == 0) = false := by simp [h4]
    have q1 : (kind % 4 == 1) = false := by simp [h4]
    have q2 : (kind % 4 == 2) = false := by simp [h4]
    clear h4
    unfold OpV.agg
    rw [HP.out]
    clear HP
    go_enter Try.func25, Try.ntmps25
    go_wp2_with fail
    refine (cell_swap m c s i old v _ hm).mono ?_
    rintro e w1 ⟨rfl, hm1, hu1⟩
    cases hb : (s.swap i old v).1 with
    | true =>
      have HB := Lib.hid hb
      clear hb
      go_wp2
      go_ret2
      exact ⟨by rw [HB.out]; rfl, hm1, hu.trans (hu1.mono (by simp))⟩
    | false =>
      have HB := Lib.hid hb
      clear hb
      go_wp2
      go_ret2
      exact ⟨by rw [HB.out]; rfl, hm1, hu.trans (hu1.mono (by simp))⟩

/-! ### The reference's memory -/

/-- The reference's memory: the struct in block r, its cells in a row (in block g, if there is any). -/
def RefAt (w : World) (r g : Nat) (s : MemS) : Prop :=
  ∃ A cap, Blk w r 96 #[.slice A s.cells.length cap, .int .i64 s.count] ∧ (A = none ∧ s.cells = [] ∧ cap = 0 ∨ A = some ⟨g, 0, none⟩ ∧ Row w 2 1 g s.cells.length cap (s.cells.map (Value.int .i64)))

section
variable {w w' : World} {r g : Nat} {s : MemS} {F : List Nat}
theorem RefAt.upd (h : RefAt w r g s) (hu : Upd F w w') (h1 : r ∉ F) (h2 : g ∉ F) : RefAt w' r g s := by
  obtain ⟨A, cap, hb, h⟩ := h
  exact ⟨A, cap, hb.upd hu h1, h.imp id fun ⟨ha, hr⟩ => ⟨ha, hr.upd hu h2⟩⟩
theorem RefAt.alloc (h : RefAt w r g s) (o : Obj) : RefAt (w.alloc o) r g s := by
  obtain ⟨A, cap, hb, h⟩ := h
  exact ⟨A, cap, hb.alloc o, h.imp id fun ⟨ha, hr⟩ => ⟨ha, hr.alloc o⟩⟩
theorem RefAt.drewN (h : RefAt w r g s) (n : Nat) : RefAt (w.drewN n) r g s := h
end

/-- Behind an access that is none the reference's memory is as it was. -/
theorem ref_do_out (r g : Nat) (s : MemS) (o : OpV) (w : World) (h : RefAt w r g s) (hh : s.has o.i = false) :
    Calls Try.prog 26 #[.pointer (some ⟨r, 0, none⟩), o.agg] w fun e w' =>
      e = .returned (.tuple #[.int .i64 0, .int .i64 1]) ∧ RefAt w' r g s ∧ Upd [] w w' := by
  obtain ⟨kind, i, v, old⟩ := o
  have h1 := h.alloc (.cells #[.int .u8 kind, .int .i64 i, .int .i64 v, .int .i64 old] 46)
  have hu : Upd [] w (w.alloc (.cells #[.int .u8 kind, .int .i64 i, .int .i64 v, .int .i64 old] 46)) := (Upd.refl _ _).alloc _
  obtain ⟨A, cap, hb, hA⟩ := h
  have hc := hb.at_ (i := 0) rfl
  have hlt := hb.lt
  have hn := MemS.has_not hh
  have H1 := Lib.hid h1
  clear h1 hA hh hb
  unfold OpV.agg
  rcases hn with hi | hi
  · have q1 : decide (i < 0) = true := by simpa using hi
    go_enter Try.func26, Try.ntmps26
    go_wp2_with fail
    go_quiet (fail)
    go_wp2
    go_ret2
    exact ⟨rfl, H1.out, hu.os, hu.tape, hu.output, hu.size, hu.block⟩
  · have q1 : decide (i < 0) = false := by simp at hi ⊢; omega
    have q2 : decide ((s.cells.length : Int) ≤ i) = true := by simpa using hi
    go_enter Try.func26, Try.ntmps26
    go_wp2_with fail
    go_quiet (fail)
    go_wp2
    go_ret2
    exact ⟨rfl, H1.out, hu.os, hu.tape, hu.output, hu.size, hu.block⟩

theorem RefAt.of_row {w : World} {r g cap : Nat} {s : MemS} (hb : Blk w r 96 #[.slice (some ⟨g, 0, none⟩) s.cells.length cap, .int .i64 s.count]) (hr : Row w 2 1 g s.cells.length cap (s.cells.map (Value.int .i64))) : RefAt w r g s :=
  ⟨_, cap, hb, .inr ⟨rfl, hr⟩⟩

theorem ref_ticked {w : World} {r g cap : Nat} {s : MemS} (hb : Blk w r 96 #[.slice (some ⟨g, 0, none⟩) s.cells.length cap, .int .i64 s.count]) (hr : Row w 2 1 g s.cells.length cap (s.cells.map (Value.int .i64))) (hne : r ≠ g) (o : Obj) (a b : Nat) :
    RefAt ((((w.alloc o).drewN a).setCell ⟨r, 1, none⟩ (.int .i64 (wrap64 (s.count + 1)))).drewN b) r g s.tick :=
  RefAt.of_row (s := s.tick) (((hb.alloc o).drewN a).put 1 _) (((hr.alloc o).drewN a).far (p := ⟨r, 1, none⟩) hne.symm _)
theorem ref_ticked_upd {w : World} {r g : Nat} {x : Value} (o : Obj) (a b : Nat) :
    Upd [r, g] w ((((w.alloc o).drewN a).setCell ⟨r, 1, none⟩ x).drewN b) :=
  ((((Upd.refl _ _).alloc o).drewN a).put (.inl (by simp)) _).drewN b
theorem ref_put {w : World} {r g cap : Nat} {s : MemS} (hb : Blk w r 96 #[.slice (some ⟨g, 0, none⟩) s.cells.length cap, .int .i64 s.count]) (hr : Row w 2 1 g s.cells.length cap (s.cells.map (Value.int .i64))) (hne : r ≠ g) (o : Obj) (a b k : Nat) (x y : Int) (hk : k < s.cells.length) (hxy : x = y) :
    RefAt (((((w.alloc o).drewN a).setCell ⟨r, 1, none⟩ (.int .i64 (wrap64 (s.count + 1)))).drewN b).setCell ⟨g, k, none⟩ (.int .i64 x)) r g (s.tick.set k y) ∧
      Upd [r, g] w (((((w.alloc o).drewN a).setCell ⟨r, 1, none⟩ (.int .i64 (wrap64 (s.count + 1)))).drewN b).setCell ⟨g, k, none⟩ (.int .i64 x)) := by
  subst hxy
  refine ⟨⟨some ⟨g, 0, none⟩, cap, ?_, .inr ⟨rfl, ?_⟩⟩, (ref_ticked_upd _ _ _).put (.inl (by simp)) _⟩
  · have h := ((((hb.alloc o).drewN a).put 1 (.int .i64 (wrap64 (s.count + 1)))).drewN b).far (p := ⟨g, k, none⟩) hne (.int .i64 x)
    simpa [MemS.set, MemS.tick] using h
  · have h := ((((hr.alloc o).drewN a).far (p := ⟨r, 1, none⟩) hne.symm (.int .i64 (wrap64 (s.count + 1)))).drewN b).put (j := k) (by simpa using hk) (.int .i64 x)
    simpa [MemS.set, MemS.tick, List.map_set] using h

/-- An access of a cell that is there. -/
theorem ref_do_in (r g : Nat) (s : MemS) (o : OpV) (ho : o.Ok) (w : World) (h : RefAt w r g s) (hh : s.has o.i = true) :
    Calls Try.prog 26 #[.pointer (some ⟨r, 0, none⟩), o.agg] w fun e w' =>
      e = .returned (.tuple #[.int .i64 (s.play o).1, .int .i64 (s.play o).2.1]) ∧ RefAt w' r g (s.play o).2.2 ∧ Upd [r, g] w w' := by
  obtain ⟨kind, i, v, old⟩ := o
  have hk0 : 0 ≤ kind := ho.k0
  have hk1 : kind ≤ 255 := ho.k1
  obtain ⟨k, rfl, hk⟩ := MemS.has_iff hh
  obtain ⟨A, cap, hb, hA⟩ := h
  rcases hA with ⟨_, h0, _⟩ | ⟨rfl, hrow⟩
  · rw [h0] at hk
    simp at hk
  have hk' : k < s.cells.length := hk
  have hlen : s.cells.length ≤ 9223372036854775807 := by obtain ⟨cur, _, _, _, h1, h2, _⟩ := hrow; unfold maxLen at h2; omega
  have hne : r ≠ g := by obtain ⟨cur, hg, _⟩ := hrow; exact hb.ne_ hg (by decide)
  have c0 := hb.at_ (i := 0) rfl
  have c1 := hb.at_ (i := 1) rfl
  have f1 := hb.free 1
  have hlt := hb.lt
  have hltg := hrow.lt
  have cg := hrow.cell (j := k) (u := .int .i64 (s.get k)) (by rw [List.getElem?_map, List.getElem?_eq_getElem hk']; simp [MemS.get, hk'])
  have fg := hrow.free k
  have q1 : decide ((k : Int) < 0) = false := by simp
  have q2 : decide ((s.cells.length : Int) ≤ (k : Int)) = false := by simp; omega
  have h4 : kind % 4 = 0 ∨ kind % 4 = 1 ∨ kind % 4 = 2 ∨ kind % 4 = 3 := by omega
  clear ho
  rcases h4 with h4 | h4 | h4 | h4
  · have HP := Lib.hid (show s.play ⟨kind, k, v, old⟩ = (s.get k, 0, s.tick) by unfold MemS.play; rw [if_pos h4]; unfold MemS.load; rw [if_pos hh])
    have q0 : (kind % 4 == 0) = true := by simp [h4]
    clear h4
    unfold OpV.agg
    rw [HP.out]
    clear HP
    go_enter Try.func26, Try.ntmps26
    go_wp2_with fail
    go_quiet (fail)
    go_wp2_with fail
    go_quiet (fail)
    go_wp2_with fail
    go_ret2
    exact ⟨rfl, ref_ticked hb hrow hne _ _ _, ref_ticked_upd _ _ _⟩
  · have HP := Lib.hid (show s.play ⟨kind, k, v, old⟩ = (0, 0, s.tick.set k v) by unfold MemS.play; rw [if_neg (by simp only; omega), if_pos h4]; unfold MemS.store; rw [if_pos hh])
    have q0 : (kind % 4 == 0) = false := by simp [h4]
    have q1 : (kind % 4 == 1) = true := by simp [h4]
    clear h4
    unfold OpV.agg
    rw [HP.out]
    clear HP
    go_enter Try.func26, Try.ntmps26
    go_wp2_with fail
    go_quiet (fail)
    go_wp2_with fail
    go_quiet (fail)
    go_wp2_with fail
    go_region
    all_goals go_wp2
    all_goals go_ret2
    all_goals exact ⟨rfl, ref_put hb hrow hne _ _ _ k v v hk' rfl⟩
  · have HP := Lib.hid (show s.play ⟨kind, k, v, old⟩ = (s.get k, 0, s.tick.set k (wrap64 (s.get k + v))) by unfold MemS.play; rw [if_neg (by simp only; omega), if_neg (by simp only; omega), if_pos h4]; unfold MemS.add; rw [if_pos hh])
    have q0 : (kind % 4 == 0) = false := by simp [h4]
    have q1 : (kind % 4 == 1) = false := by simp [h4]
    have q2 : (kind % 4 == 2) = true := by simp [h4]
    clear h4
    unfold OpV.agg
    rw [HP.out]
    clear HP
    go_enter Try.func26, Try.ntmps26
    go_wp2_with fail
    go_quiet (fail)
    go_wp2_with fail
    go_quiet (fail)
    go_wp2_with fail
    go_region
    all_goals go_wp2
    all_goals go_ret2
    all_goals exact ⟨rfl, ref_put hb hrow hne _ _ _ k _ _ hk' (by first | rfl | exact u64_sum _ _)⟩
  · by_cases he : s.get k = old
    · have HP := Lib.hid (show s.play ⟨kind, k, v, old⟩ = (1, 0, s.tick.set k v) by unfold MemS.play; rw [if_neg (by simp only; omega), if_neg (by simp only; omega), if_neg (by simp only; omega)]; simp only [MemS.swap]; rw [if_pos hh, if_pos he]; rfl)
      have q0 : (kind % 4 == 0) = false := by simp [h4]
      have q1 : (kind % 4 == 1) = false := by simp [h4]
      have q2 : (kind % 4 == 2) = false := by simp [h4]
      clear h4
      have q3 : (s.get (k : Int) != old) = false := by simp [he]
      clear he
      unfold OpV.agg
      rw [HP.out]
      clear HP
      go_enter Try.func26, Try.ntmps26
      go_wp2_with fail
      go_quiet (fail)
      go_wp2_with fail
      go_quiet (fail)
      go_wp2_with fail
      go_region
      all_goals go_wp2
      all_goals go_ret2
      all_goals exact ⟨rfl, ref_put hb hrow hne _ _ _ k v v hk' rfl⟩
    · have HP := Lib.hid (show s.play ⟨kind, k, v, old⟩ = (0, 0, s.tick) by unfold MemS.play; rw [if_neg (by simp only; omega), if_neg (by simp only; omega), if_neg (by simp only; omega)]; simp only [MemS.swap]; rw [if_pos hh, if_neg he]; rfl)
      have q0 : (kind % 4 == 0) = false := by simp [h4]
      have q1 : (kind % 4 == 1) = false := by simp [h4]
      have q2 : (kind % 4 == 2) = false := by simp [h4]
      clear h4
      have q3 : (s.get (k : Int) != old) = true := by rw [bne_iff_ne]; exact he
      clear he
      unfold OpV.agg
      rw [HP.out]
      clear HP
      go_enter Try.func26, Try.ntmps26
      go_wp2_with fail
      go_quiet (fail)
      go_wp2_with fail
      go_quiet (fail)
      go_wp2_with fail
      go_ret2
      exact ⟨rfl, ref_ticked hb hrow hne _ _ _, ref_ticked_upd _ _ _⟩

theorem play_out (s : MemS) (o : OpV) (hh : s.has o.i = false) : s.play o = (0, 1, s) := by
  have hn : ¬ (s.has o.i = true) := by simp [hh]
  unfold MemS.play MemS.load MemS.store MemS.add MemS.swap
  simp only [if_neg hn]
  split
  · rfl
  · split
    · rfl
    · split
      · rfl
      · rfl

theorem ref_do (r g : Nat) (s : MemS) (o : OpV) (ho : o.Ok) (w : World) (h : RefAt w r g s) :
    Calls Try.prog 26 #[.pointer (some ⟨r, 0, none⟩), o.agg] w fun e w' =>
      e = .returned (.tuple #[.int .i64 (s.play o).1, .int .i64 (s.play o).2.1]) ∧ RefAt w' r g (s.play o).2.2 ∧ Upd [r, g] w w' := by
  cases hh : s.has o.i with
  | true => exact ref_do_in r g s o ho w h hh
  | false =>
    rw [play_out s o hh]
    exact (ref_do_out r g s o w h hh).mono fun e w' ⟨h1, h2, h3⟩ => ⟨h1, h2, h3.mono (by simp)⟩

theorem play_length (s : MemS) (o : OpV) : (s.play o).2.2.cells.length = s.cells.length := by
  unfold MemS.play MemS.load MemS.store MemS.add MemS.swap
  repeat' split
  all_goals simp [MemS.tick, MemS.set]

/-! ### A new memory of the reference's -/
def zeros (n : Nat) : List Value := (List.replicate n (0 : Int)).map (Value.int .i64)
theorem zeros_succ (n : Nat) : zeros n ++ [.int .i64 0] = zeros (n + 1) := by
  unfold zeros
  rw [List.replicate_succ', List.map_append]
  rfl

set_option maxRecDepth 100000 in
theorem ref_new (n : Int) (hn : n ≤ 65536) (w : World) :
    Calls Try.prog 24 #[.int .i64 n] w fun e w' => e = .returned (.pointer (some ⟨w.heap.size, 0, none⟩)) ∧ Below w.heap.size w w' ∧ (∃ g, w.heap.size < g ∧ RefAt w' w.heap.size g ⟨List.replicate n.toNat 0, 0⟩) := by
  obtain ⟨i0, hi, hz0, hz1, hz2⟩ := info_parts info_i64
  have hb0 := Blk.new w 96 #[.slice none 0 0, .int .i64 0]
  have hw0 : Below w.heap.size w (w.alloc (.cells #[.slice none 0 0, .int .i64 0] 96)) := (Below.refl _ _).alloc (Nat.le_refl _) _
  have HB0 := Lib.hid hb0
  have HW0 := Lib.hid hw0
  clear hb0 hw0
  go_enter Try.func24, Try.ntmps24
  go_wp2_with fail
  go_loopw [4] (fun i wr => ∃ (k : Nat) (A : Option Addr) (cap : Nat), k ≤ n.toNat ∧ i = .int .i64 k ∧ Blk wr w.heap.size 96 #[.slice A k cap, .int .i64 0] ∧ wr.ownsRow (w.heap.size + 1) 2 1 (.slice A k cap) k (zeros k) ∧ Below w.heap.size w wr) (fun i _ => n.toNat - (intOf i).toNat)
  case atStart => exact ⟨0, none, 0, Nat.zero_le _, rfl, HB0.out, World.ownsRow_nil _ _ _ _, HW0.out⟩
  case round =>
    obtain ⟨k, A, cap, hk, rfl, hb, hown, hw⟩ := hrel
    by_cases hlt : k < n.toNat
    · have t1 : (k : Int) < n := by omega
      have t2 : (k : Int) < 65536 := by omega
      have c0 := hb.at_ (i := 0) rfl
      simp only [List.getElem_toArray, List.getElem_cons_zero] at c0
      have hrlt := hb.lt
      go_wp2_with (at_builtin; refine wpList_append_own _ rfl (.tmp 20) (.tmp 21) 27 rfl (w.heap.size + 1) 2 i0 (.int .i64 0) 1 8 Try.underlying27 hi hz0 hz1 hz2 rfl (by decide) _ _ _ rfl (hown.alloc _) ⟨wr.heap.size, 0, none⟩ 1 1 [.int .i64 0] rfl rfl ?c1 ?c2 ?c3 ?c4 ?c5 ?_)
      case c1 => intro j u hj; match j, hj with | 0, hj => simp at hj; subst hj; simp [Addr.add]
      case c2 => intro u hu; simp at hu; subst hu; rfl
      case c3 => unfold maxLen; omega
      case c4 => omega
      case c5 => simp; omega
      intro v' w1 hown' hgrow _
      have hne : some w.heap.size ≠ (Value.slice A k cap).ownBlock := by
        intro e
        have := (hown.lt _ e.symm).1
        omega
      have hb1 := (hb.alloc (.cells #[.int .i64 0] 2)).grown hgrow hne
      have hw1 : Below w.heap.size w w1 := (hw.alloc (by have := hw.size; omega) _).grown hgrow (by simp; omega) (fun g hg => by have := (hown.lt _ hg).1; omega)
      obtain ⟨g, cap', rfl⟩ : ∃ g cap', v' = .slice (some ⟨g, 0, none⟩) (k + 1) cap' := by
        rcases hown'.2 with ⟨_, h⟩ | ⟨g, cap', _, h, _⟩
        · omega
        · exact ⟨g, cap', h⟩
      rw [zeros_succ] at hown'
      have c1 := hb1.at_ (i := 0) rfl
      have f1 := hb1.free 0
      have hst := hb1.put 0 (.slice (some ⟨g, 0, none⟩) (k + 1) cap')
      have hos : (w1.setCell ⟨w.heap.size, 0, none⟩ (.slice (some ⟨g, 0, none⟩) (k + 1) cap')).ownsRow (w.heap.size + 1) 2 1 (.slice (some ⟨g, 0, none⟩) (k + 1) cap') (k + 1) (zeros (k + 1)) := ownsRow_setCell_below hown' (Nat.lt_succ_self _) _
      clear hown hgrow c0 hb
      have H1 := Lib.hid hown'
      have H2 := Lib.hid hos
      have H3 := Lib.hid hst
      clear hown' hos hst
      go_wp2
      go_roundw
      case rel => exact ⟨k + 1, _, cap', by omega, by go_num, H3.out, H2.out, hw1.setCell (p := ⟨w.heap.size, 0, none⟩) (Nat.le_refl _) _⟩
      case measure => simp [intOf]; omega
    · have t : ¬ (k : Int) < n := by omega
      obtain rfl : k = n.toNat := by omega
      have hfin : ∃ g, w.heap.size < g ∧ RefAt wr w.heap.size g ⟨List.replicate n.toNat 0, 0⟩ := by
        rcases hown.2 with ⟨hv, h0⟩ | ⟨g, cap', cur, hv, hlo, hh, h3, h4, h5, h6⟩
        · injection hv with e1 e2 e3
          subst e1 e3
          refine ⟨w.heap.size + 1, by omega, none, 0, ?_, .inl ⟨rfl, ?_, rfl⟩⟩
          · simpa using hb
          · rw [h0]; rfl
        · injection hv with e1 e2 e3
          subst e1 e3
          exact ⟨g, by omega, RefAt.of_row (by simpa using hb) ⟨cur, hh, h5, by simp [zeros] at hown ⊢, by simpa using h3, h4, by simpa [zeros] using h6⟩⟩
      have HF := Lib.hid hfin
      clear hfin
      go_wp2
      go_ret
      exact ⟨rfl, hw, HF.out⟩

/-- A callee that leaves the world alone, in a region that only reads. -/
theorem quiet_left {P : Program} {f : FuncId} {args : Array Value} {w : World} {n : Nat} {v : Value}
    (h : Calls P f args (w.drewN n) fun e w' => e = .returned v ∧ w.drewN n = w') : Calls P f args (w.drewN n) fun e w'' => e = .returned v ∧ ∃ m, w'' = w.drewN m :=
  h.mono fun _ _ ⟨he, hm⟩ => ⟨he, n, hm.symm⟩

theorem same_true (m c r g : Nat) (s : MemS) (w : World) (hm : MemAt w m c s) (hr : RefAt w r g s) :
    Calls Try.prog 27 #[.pointer (some ⟨m, 0, none⟩), .pointer (some ⟨r, 0, none⟩)] w fun e w' => e = .returned (.bool true) ∧ Below w.heap.size w w' := by
  have hall : s.look 0 s.cells.length = s.cells := by simp [MemS.look]
  have HL := Lib.hid hall
  have hl := hm.2.2
  clear hall
  go_enter Try.func27, Try.ntmps27
  go_wp2_with fail
  refine (cell_size _ _ _ _ hm).mono ?_
  rintro e w' ⟨rfl, rfl⟩
  go_wp2_with fail
  refine (cell_look m c s 0 s.cells.length _ hm).mono ?_
  rw [HL.out]
  rintro e w1 ⟨h, cap', rfl, hh, hrow, hb⟩
  have hm1 := hm.below hb hm.1.lt hm.2.1.lt
  have hr1 : RefAt w1 r g s := by
    obtain ⟨A, cap, hb1, hA⟩ := hr
    exact ⟨A, cap, hb1.below hb hb1.lt, hA.imp id fun ⟨ha, hr⟩ => ⟨ha, hr.elim fun cur h => ⟨cur, h.1.below hb h.1.lt, h.2⟩⟩⟩
  clear hm hr
  have hr2 := hr1
  obtain ⟨A, cap, hbr, hA⟩ := hr2
  have c0 := hbr.at_ (i := 0) rfl
  have c1 := hbr.at_ (i := 1) rfl
  simp only [List.getElem_toArray, List.getElem_cons_zero, List.getElem_cons_succ] at c0 c1
  have q1 : ((s.cells.length : Int) != (s.cells.length : Int)) = false := by simp
  have q2 : (s.count != s.count) = false := by simp
  go_wp2_with fail
  go_quiet ((first | (go_at_call 17; exact quiet_left (cell_size m c s _ (hm1.drewN _))) | (go_at_call 20; exact quiet_left (cell_count m c s _ (hm1.drewN _)))))
  clear q1 q2
  go_wp2_with fail
  go_loopw [6] (fun i wr => ∃ k nd : Nat, k ≤ s.cells.length ∧ i = .int .i64 k ∧ wr = w1.drewN nd) (fun i _ => s.cells.length - (intOf i).toNat)
  case atStart => exact ⟨0, nq, Nat.zero_le _, rfl, rfl⟩
  case round =>
    obtain ⟨k, nd, hk, rfl, rfl⟩ := hrel
    by_cases hlt : k < s.cells.length
    · rcases hA with ⟨_, h0, _⟩ | ⟨rfl, hrg⟩
      · rw [h0] at hlt
        simp at hlt
      have e1 : (s.cells.map (Value.int .i64))[k]? = some (.int .i64 (s.cells.getD k 0)) := by rw [List.getElem?_map, List.getElem?_eq_getElem hlt]; simp [List.getD, hlt]
      have d1 := hrow.cell e1
      have d2 := hrg.cell e1
      clear e1
      generalize s.cells.getD k 0 = x at d1 d2
      have q1 : (x != x) = false := by simp
      go_wp2_with fail
      go_quiet (fail)
      clear q1
      go_wp2
      go_roundw
      case rel => exact ⟨k + 1, _, by omega, by go_num, by first | rfl | (rw [World.drewN_drewN])⟩
      case measure => simp [intOf]; omega
    · go_wp2
      go_ret
      exact ⟨rfl, hb.os, hb.tape, hb.output, hb.size, hb.block⟩

/-! ### The statement -/
theorem opv_open {H : Type} {enc : TypeId × Value → H} {w : World} (n : Nat) (vs : List Value) (hl : vs.length = 4)
    (h0 : ∃ v y, vs[0]? = some v ∧ DataW.trod enc Try.prog w 0 (fun _ => true) true n 5 [v] = some y) (h1 : ∃ v y, vs[1]? = some v ∧ DataW.trod enc Try.prog w 0 (fun _ => true) true n 3 [v] = some y)
    (h2 : ∃ v y, vs[2]? = some v ∧ DataW.trod enc Try.prog w 0 (fun _ => true) true n 2 [v] = some y) (h3 : ∃ v y, vs[3]? = some v ∧ DataW.trod enc Try.prog w 0 (fun _ => true) true n 2 [v] = some y) :
    ∃ x : OpV, x.Ok ∧ x.cells = vs := by
  obtain ⟨v0, y0, e0, t0⟩ := h0
  obtain ⟨v1, y1, e1, t1⟩ := h1
  obtain ⟨v2, y2, e2, t2⟩ := h2
  obtain ⟨v3, y3, e3, t3⟩ := h3
  obtain ⟨a0, c0, -, w0⟩ := DataW.trod_int Try.underlying5 t0
  obtain ⟨a1, c1, -, w1⟩ := DataW.trod_int Try.underlying3 t1
  obtain ⟨a2, c2, -, w2⟩ := DataW.trod_int Try.underlying2 t2
  obtain ⟨a3, c3, -, w3⟩ := DataW.trod_int Try.underlying2 t3
  simp only [List.cons.injEq, and_true] at c0 c1 c2 c3
  subst c0 c1 c2 c3
  match vs, hl with
  | [x0, x1, x2, x3], _ =>
    simp at e0 e1 e2 e3
    subst e0 e1 e2 e3
    have hb := bounds_u8 w0
    exact ⟨⟨a0, a1, a2, a3⟩, ⟨hb.1, hb.2, w1, w2, w3⟩, rfl⟩

theorem opv_cells {w wr : World} {b off k : Nat} {x : OpV} (hb : b < w.heap.size) (hc : ∀ (j : Nat) (u : Value), x.cells[j]? = some u → w.cell? ⟨b, off + k * 4 + j, none⟩ = some u) (hw : Below w.heap.size w wr) :
    wr.cell? ⟨b, off + k * 4, none⟩ = some (.int .u8 x.kind) ∧ wr.cell? ⟨b, off + k * 4 + 1, none⟩ = some (.int .i64 x.i) ∧ wr.cell? ⟨b, off + k * 4 + 2, none⟩ = some (.int .i64 x.v) ∧ wr.cell? ⟨b, off + k * 4 + 3, none⟩ = some (.int .i64 x.old) :=
  ⟨(hw.cell (p := ⟨b, _, none⟩) hb).trans (hc 0 _ rfl), (hw.cell (p := ⟨b, _, none⟩) hb).trans (hc 1 _ rfl), (hw.cell (p := ⟨b, _, none⟩) hb).trans (hc 2 _ rfl), (hw.cell (p := ⟨b, _, none⟩) hb).trans (hc 3 _ rfl)⟩

set_option maxRecDepth 100000 in
theorem plays01 (n : Int) (a : Option Addr) (len cap : Nat) (zs : List OpV) (w : World) (hn : (Lit.int .i8 n).wf = true) (ha : ArgOf OpV.cells 4 OpV.Ok w a len cap zs) :
    Calls Try.prog 7 #[.int .i8 n, .slice a len cap] w fun e w' => e = .returned (.bool true) ∧ Below w.heap.size w w' := by
  have HA := Lib.hid awake01
  have hb8 := bounds_i8 hn
  clear hn
  have hz := ha.hl
  have HZ := Lib.hid hz
  clear hz
  rcases Nat.lt_or_ge 300 len with h300 | h300
  · go_enter Try.func7, Try.ntmps7
    go_wp2_with fail
    refine (HA.out _).mono ?_
    rintro e w1 ⟨rfl, hb1⟩
    go_wp2_with fail
    refine (HA.out _).mono ?_
    rintro e w2 ⟨rfl, hb2⟩
    go_wp2
    go_ret
    exact ⟨rfl, below_then hb1 hb2 (Nat.le_refl _)⟩
  · go_enter Try.func7, Try.ntmps7
    go_wp2_with fail
    refine (HA.out _).mono ?_
    rintro e w1 ⟨rfl, hb1⟩
    go_wp2_with fail
    refine (cell_new n _).mono ?_
    rintro e w2 ⟨rfl, hm2, hb2, hs2⟩
    go_wp2_with fail
    refine (ref_new n (by omega) _).mono ?_
    rintro e w3 ⟨rfl, hb3, g, hg, hr3⟩
    go_wp2_with fail
    have hord : w1.heap.size < w1.heap.size + 1 ∧ w1.heap.size + 1 < w1.heap.size + 2 ∧ w1.heap.size + 2 < g := ⟨by omega, by omega, by omega⟩
    rw [hs2] at hr3
    have hb3' : Below (w1.heap.size + 2) w2 w3 := by rw [← hs2]; exact hb3
    have hm3 := hm2.below hb3' (by omega) (by omega)
    have hw3 := below_then (below_then hb1 hb2 (Nat.le_refl _)) hb3 (Nat.le_refl _)
    rw [show (capn n).toNat = n.toNat by unfold capn; split <;> (try split) <;> omega] at hm3
    have hB := hb1.size
    clear hb1 hb2 hb3 hb3' hm2 hg hs2
    generalize w1.heap.size + 2 = r at *
    generalize w1.heap.size + 1 = m at *
    generalize w1.heap.size = c at *
    generalize (⟨List.replicate n.toNat 0, 0⟩ : MemS) = s0 at hm3 hr3
    go_loopw [7] (fun i wr => ∃ (k : Nat) (s : MemS), k ≤ len ∧ i = .int .i64 k ∧ MemAt wr m c s ∧ RefAt wr r g s ∧ Below w.heap.size w wr) (fun i _ => len - (intOf i).toNat)
    case atStart => exact ⟨0, s0, Nat.zero_le _, rfl, hm3, hr3, hw3⟩
    case round =>
      clear hm3 hr3 hw3
      obtain ⟨k, s, hk, rfl, hmr, hrr, hw⟩ := hrel
      by_cases hlt : k < len
      · obtain ⟨b, off, x, rfl, hb, hx, hok, hc⟩ := ha.at_ hlt
        obtain ⟨d0, d1, d2, d3⟩ := opv_cells hb hc hw
        have q1 : ((s.play x).1 != (s.play x).1) = false := by simp
        have q2 : ((s.play x).2.1 != (s.play x).2.1) = false := by simp
        go_wp2_with fail
        refine (law_do m c s x hok _ hmr).mono ?_
        rintro e w4 ⟨rfl, hm4, hu4⟩
        have hw4 := below_upd hw hu4 (Nat.le_refl _) (by simp; omega)
        have hr4 := hrr.upd hu4 (by simp; omega) (by simp; omega)
        clear d0 d1 d2 d3
        obtain ⟨d0, d1, d2, d3⟩ := opv_cells hb hc hw4
        go_wp2_with fail
        refine (ref_do r g s x hok _ hr4).mono ?_
        rintro e w5 ⟨rfl, hr5, hu5⟩
        have hw5 := below_upd hw4 hu5 (Nat.le_refl _) (by simp; omega)
        have hm5 := hm4.upd hu5 (by simp; omega) (by simp; omega)
        clear d0 d1 d2 d3
        go_wp2
        go_roundw
        case rel => exact ⟨k + 1, _, by omega, by go_num, hm5, hr5, hw5⟩
        case measure => simp [intOf]; omega
      · go_wp2_with fail
        refine (same_true m c r g s _ hmr hrr).mono ?_
        rintro e w4 ⟨rfl, hb4⟩
        go_wp2
        go_ret
        exact ⟨rfl, below_then hw hb4 (Nat.le_refl _)⟩
end Go.Proofs.Ytnglbgdokdcefaa
