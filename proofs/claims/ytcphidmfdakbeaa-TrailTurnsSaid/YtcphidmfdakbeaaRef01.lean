/- The reference's memory of layer 1: New, Do. -/
import Derived.Test.YtcphidmfdakbeaaCell
import Derived.Deep.LoopGhost
import Derived.Deep.QuietTactic
import Derived.BigQuiet
import Derived.Deep.DeepCutAuto
namespace Go.Proofs.Ytcphidmfdakbeaa
open Go.RowKit Go.WideShapes

/-- An access: its kind, its cell, its value, what is to be there. -/
structure AccV where
  kind : Int
  i : Int
  v : Int
  old : Int
def AccV.cells (o : AccV) : List Value := [.int .u8 o.kind, .int .i64 o.i, .int .i64 o.v, .int .i64 o.old]
def AccV.agg (o : AccV) : Value := .agg #[.int .u8 o.kind, .int .i64 o.i, .int .i64 o.v, .int .i64 o.old]
structure AccV.Ok (o : AccV) : Prop where
  k0 : 0 ≤ o.kind
  k1 : o.kind ≤ 255

/-- 1, or 0. -/
def bitOf (b : Bool) : Int := if b = true then 1 else 0

/-- What an access does: its value, its error, the memory behind it. -/
def MemS.play (s : MemS) (o : AccV) : Int × Int × MemS :=
  if o.kind % 4 = 0 then s.load o.i
  else if o.kind % 4 = 1 then (0, (s.store o.i o.v).1, (s.store o.i o.v).2)
  else if o.kind % 4 = 2 then s.add o.i o.v
  else (bitOf (s.swap o.i o.old o.v).1, (s.swap o.i o.old o.v).2.1, (s.swap o.i o.old o.v).2.2)

/-! ### The reference's memory -/

/-- The reference's memory: the struct in block r, its cells in a row (in block g, if there is any). -/
def RefAt (w : World) (r g : Nat) (s : MemS) : Prop :=
  ∃ A cap, Blk w r 60 #[.slice A s.cells.length cap, .int .i64 s.count] ∧ (A = none ∧ s.cells = [] ∧ cap = 0 ∨ A = some ⟨g, 0, none⟩ ∧ Row w 2 1 g s.cells.length cap (s.cells.map (Value.int .i64)))

section
variable {w w' : World} {r g : Nat} {s : MemS} {F : List Nat}
theorem RefAt.upd (h : RefAt w r g s) (hu : Upd F w w') (h1 : r ∉ F) (h2 : g ∉ F) : RefAt w' r g s := by
  obtain ⟨A, cap, hb, h⟩ := h
  exact ⟨A, cap, hb.upd hu h1, h.imp id fun ⟨ha, hr⟩ => ⟨ha, hr.upd hu h2⟩⟩
theorem RefAt.alloc (h : RefAt w r g s) (o : Obj) : RefAt (w.alloc o) r g s := by
  obtain ⟨A, cap, hb, h⟩ := h
  exact ⟨A, cap, hb.alloc o, h.imp id fun ⟨ha, hr⟩ => ⟨ha, hr.alloc o⟩⟩
theorem RefAt.drewN (h : RefAt w r g s) (n : Nat) : RefAt (w.drewN n) r g s := h
end

/-- Behind an access that is none the reference's memory is as it was. -/
theorem ref_do_out (r g : Nat) (s : MemS) (o : AccV) (w : World) (h : RefAt w r g s) (hh : s.has o.i = false) :
    Calls Try.prog 52 #[.pointer (some ⟨r, 0, none⟩), o.agg] w fun e w' =>
      e = .returned (.tuple #[.int .i64 0, .int .i64 1]) ∧ RefAt w' r g s ∧ Upd [] w w' := by
  obtain ⟨kind, i, v, old⟩ := o
  have h1 := h.alloc (.cells #[.int .u8 kind, .int .i64 i, .int .i64 v, .int .i64 old] 115)
  have hu : Upd [] w (w.alloc (.cells #[.int .u8 kind, .int .i64 i, .int .i64 v, .int .i64 old] 115)) := (Upd.refl _ _).alloc _
  obtain ⟨A, cap, hb, hA⟩ := h
  have hc := hb.at_ (i := 0) rfl
  have hlt := hb.lt
  have hn := MemS.has_not hh
  have H1 := Lib.hid h1
  clear h1 hA hh hb
  unfold AccV.agg
  rcases hn with hi | hi
  · have q1 : decide (i < 0) = true := by simpa using hi
    go_enter Try.func52, Try.ntmps52
    go_wp2_with fail
    go_quiet (fail)
    go_wp2
    go_ret2
    exact ⟨rfl, H1.out, hu.os, hu.tape, hu.output, hu.size, hu.block⟩
  · have q1 : decide (i < 0) = false := by simp at hi ⊢; omega
    have q2 : decide ((s.cells.length : Int) ≤ i) = true := by simpa using hi
    go_enter Try.func52, Try.ntmps52
    go_wp2_with fail
    go_quiet (fail)
    go_wp2
    go_ret2
    exact ⟨rfl, H1.out, hu.os, hu.tape, hu.output, hu.size, hu.block⟩

theorem RefAt.of_row {w : World} {r g cap : Nat} {s : MemS} (hb : Blk w r 60 #[.slice (some ⟨g, 0, none⟩) s.cells.length cap, .int .i64 s.count]) (hr : Row w 2 1 g s.cells.length cap (s.cells.map (Value.int .i64))) : RefAt w r g s :=
  ⟨_, cap, hb, .inr ⟨rfl, hr⟩⟩

theorem ref_ticked {w : World} {r g cap : Nat} {s : MemS} (hb : Blk w r 60 #[.slice (some ⟨g, 0, none⟩) s.cells.length cap, .int .i64 s.count]) (hr : Row w 2 1 g s.cells.length cap (s.cells.map (Value.int .i64))) (hne : r ≠ g) (o : Obj) (a b : Nat) :
    RefAt ((((w.alloc o).drewN a).setCell ⟨r, 1, none⟩ (.int .i64 (wrap64 (s.count + 1)))).drewN b) r g s.tick :=
  RefAt.of_row (s := s.tick) (((hb.alloc o).drewN a).put 1 _) (((hr.alloc o).drewN a).far (p := ⟨r, 1, none⟩) hne.symm _)
theorem ref_ticked_upd {w : World} {r g : Nat} {x : Value} (o : Obj) (a b : Nat) :
    Upd [r, g] w ((((w.alloc o).drewN a).setCell ⟨r, 1, none⟩ x).drewN b) :=
  ((((Upd.refl _ _).alloc o).drewN a).put (.inl (by simp)) _).drewN b
theorem ref_put {w : World} {r g cap : Nat} {s : MemS} (hb : Blk w r 60 #[.slice (some ⟨g, 0, none⟩) s.cells.length cap, .int .i64 s.count]) (hr : Row w 2 1 g s.cells.length cap (s.cells.map (Value.int .i64))) (hne : r ≠ g) (o : Obj) (a b k : Nat) (x y : Int) (hk : k < s.cells.length) (hxy : x = y) :
    RefAt (((((w.alloc o).drewN a).setCell ⟨r, 1, none⟩ (.int .i64 (wrap64 (s.count + 1)))).drewN b).setCell ⟨g, k, none⟩ (.int .i64 x)) r g (s.tick.set k y) ∧
      Upd [r, g] w (((((w.alloc o).drewN a).setCell ⟨r, 1, none⟩ (.int .i64 (wrap64 (s.count + 1)))).drewN b).setCell ⟨g, k, none⟩ (.int .i64 x)) := by
  subst hxy
  refine ⟨⟨some ⟨g, 0, none⟩, cap, ?_, .inr ⟨rfl, ?_⟩⟩, (ref_ticked_upd _ _ _).put (.inl (by simp)) _⟩
  · have h := ((((hb.alloc o).drewN a).put 1 (.int .i64 (wrap64 (s.count + 1)))).drewN b).far (p := ⟨g, k, none⟩) hne (.int .i64 x)
    simpa [MemS.set, MemS.tick] using h
  · have h := ((((hr.alloc o).drewN a).far (p := ⟨r, 1, none⟩) hne.symm (.int .i64 (wrap64 (s.count + 1)))).drewN b).put (j := k) (by simpa using hk) (.int .i64 x)
    simpa [MemS.set, MemS.tick, List.map_set] using h

/-- An access of a cell that is there. -/
theorem ref_do_in (r g : Nat) (s : MemS) (o : AccV) (ho : o.Ok) (w : World) (h : RefAt w r g s) (hh : s.has o.i = true) :
    Calls Try.prog 52 #[.pointer (some ⟨r, 0, none⟩), o.agg] w fun e w' =>
      e = .returned (.tuple #[.int .i64 (s.play o).1, .int .i64 (s.play o).2.1]) ∧ RefAt w' r g (s.play o).2.2 ∧ Upd [r, g] w w' := by
  obtain ⟨kind, i, v, old⟩ := o
  have hk0 : 0 ≤ kind := ho.k0
  have hk1 : kind ≤ 255 := ho.k1
  obtain ⟨k, rfl, hk⟩ := MemS.has_iff hh
  obtain ⟨A, cap, hb, hA⟩ := h
  rcases hA with ⟨_, h0, _⟩ | ⟨rfl, hrow⟩
  · rw [h0] at hk
    simp at hk
  have hk' : k < s.cells.length := hk
  have hlen : s.cells.length ≤ 9223372036854775807 := by obtain ⟨cur, _, _, _, h1, h2, _⟩ := hrow; unfold maxLen at h2; omega
  have hne : r ≠ g := by obtain ⟨cur, hg, _⟩ := hrow; exact hb.ne_ hg (by decide)
  have c0 := hb.at_ (i := 0) rfl
  have c1 := hb.at_ (i := 1) rfl
  have f1 := hb.free 1
  have hlt := hb.lt
  have hltg := hrow.lt
  have cg := hrow.cell (j := k) (u := .int .i64 (s.get k)) (by rw [List.getElem?_map, List.getElem?_eq_getElem hk']; simp [MemS.get, hk'])
  have fg := hrow.free k
  have q1 : decide ((k : Int) < 0) = false := by simp
  have q2 : decide ((s.cells.length : Int) ≤ (k : Int)) = false := by simp; omega
  have h4 : kind % 4 = 0 ∨ kind % 4 = 1 ∨ kind % 4 = 2 ∨ kind % 4 = 3 := by omega
  clear ho
  rcases h4 with h4 | h4 | h4 | h4
  · have HP := Lib.hid (show s.play ⟨kind, k, v, old⟩ = (s.get k, 0, s.tick) by unfold MemS.play; rw [if_pos h4]; unfold MemS.load; rw [if_pos hh])
    have q0 : (kind % 4 == 0) = true := by simp [h4]
    clear h4
    unfold AccV.agg
    rw [HP.out]
    clear HP
    go_enter Try.func52, Try.ntmps52
    go_wp2_with fail
    go_quiet (fail)
    go_wp2_with fail
    go_quiet (fail)
    go_wp2_with fail
    go_ret2
    exact ⟨rfl, ref_ticked hb hrow hne _ _ _, ref_ticked_upd _ _ _⟩
  · have HP := Lib.hid (show s.play ⟨kind, k, v, old⟩ = (0, 0, s.tick.set k v) by unfold MemS.play; rw [if_neg (by simp only; omega), if_pos h4]; unfold MemS.store; rw [if_pos hh])
    have q0 : (kind % 4 == 0) = false := by simp [h4]
    have q1 : (kind % 4 == 1) = true := by simp [h4]
    clear h4
    unfold AccV.agg
    rw [HP.out]
    clear HP
    go_enter Try.func52, Try.ntmps52
    go_wp2_with fail
    go_quiet (fail)
    go_wp2_with fail
    go_quiet (fail)
    go_wp2_with fail
    go_region
    all_goals go_wp2
    all_goals go_ret2
    all_goals exact ⟨rfl, ref_put hb hrow hne _ _ _ k v v hk' rfl⟩
  · have HP := Lib.hid (show s.play ⟨kind, k, v, old⟩ = (s.get k, 0, s.tick.set k (wrap64 (s.get k + v))) by unfold MemS.play; rw [if_neg (by simp only; omega), if_neg (by simp only; omega), if_pos h4]; unfold MemS.add; rw [if_pos hh])
    have q0 : (kind % 4 == 0) = false := by simp [h4]
    have q1 : (kind % 4 == 1) = false := by simp [h4]
    have q2 : (kind % 4 == 2) = true := by simp [h4]
    clear h4
    unfold AccV.agg
    rw [HP.out]
    clear HP
    go_enter Try.func52, Try.ntmps52
    go_wp2_with fail
    go_quiet (fail)
    go_wp2_with fail
    go_quiet (fail)
    go_wp2_with fail
    go_region
    all_goals go_wp2
    all_goals go_ret2
    all_goals exact ⟨rfl, ref_put hb hrow hne _ _ _ k _ _ hk' (by first | rfl | exact u64_sum _ _)⟩
  · by_cases he : s.get k = old
    · have HP := Lib.hid (show s.play ⟨kind, k, v, old⟩ = (1, 0, s.tick.set k v) by unfold MemS.play; rw [if_neg (by simp only; omega), if_neg (by simp only; omega), if_neg (by simp only; omega)]; simp only [MemS.swap]; rw [if_pos hh, if_pos he]; rfl)
      have q0 : (kind % 4 == 0) = false := by simp [h4]
      have q1 : (kind % 4 == 1) = false := by simp [h4]
      have q2 : (kind % 4 == 2) = false := by simp [h4]
      clear h4
      have q3 : (s.get (k : Int) != old) = false := by simp [he]
      clear he
      unfold AccV.agg
      rw [HP.out]
      clear HP
      go_enter Try.func52, Try.ntmps52
      go_wp2_with fail
      go_quiet (fail)
      go_wp2_with fail
      go_quiet (fail)
      go_wp2_with fail
      go_region
      all_goals go_wp2
      all_goals go_ret2
      all_goals exact ⟨rfl, ref_put hb hrow hne _ _ _ k v v hk' rfl⟩
    · have HP := Lib.hid (show s.play ⟨kind, k, v, old⟩ = (0, 0, s.tick) by unfold MemS.play; rw [if_neg (by simp only; omega), if_neg (by simp only; omega), if_neg (by simp only; omega)]; simp only [MemS.swap]; rw [if_pos hh, if_neg he]; rfl)
      have q0 : (kind % 4 == 0) = false := by simp [h4]
      have q1 : (kind % 4 == 1) = false := by simp [h4]
      have q2 : (kind % 4 == 2) = false := by simp [h4]
      clear h4
      have q3 : (s.get (k : Int) != old) = true := by rw [bne_iff_ne]; exact he
      clear he
      unfold AccV.agg
      rw [HP.out]
      clear HP
      go_enter Try.func52, Try.ntmps52
      go_wp2_with fail
      go_quiet (fail)
      go_wp2_with fail
      go_quiet (fail)
      go_wp2_with fail
      go_ret2
      exact ⟨rfl, ref_ticked hb hrow hne _ _ _, ref_ticked_upd _ _ _⟩

theorem play_out (s : MemS) (o : AccV) (hh : s.has o.i = false) : s.play o = (0, 1, s) := by
  have hn : ¬ (s.has o.i = true) := by simp [hh]
  unfold MemS.play MemS.load MemS.store MemS.add MemS.swap
  simp only [if_neg hn]
  split
  · rfl
  · split
    · rfl
    · split
      · rfl
      · rfl

theorem ref_do (r g : Nat) (s : MemS) (o : AccV) (ho : o.Ok) (w : World) (h : RefAt w r g s) :
    Calls Try.prog 52 #[.pointer (some ⟨r, 0, none⟩), o.agg] w fun e w' =>
      e = .returned (.tuple #[.int .i64 (s.play o).1, .int .i64 (s.play o).2.1]) ∧ RefAt w' r g (s.play o).2.2 ∧ Upd [r, g] w w' := by
  cases hh : s.has o.i with
  | true => exact ref_do_in r g s o ho w h hh
  | false =>
    rw [play_out s o hh]
    exact (ref_do_out r g s o w h hh).mono fun e w' ⟨h1, h2, h3⟩ => ⟨h1, h2, h3.mono (by simp)⟩

theorem play_length (s : MemS) (o : AccV) : (s.play o).2.2.cells.length = s.cells.length := by
  unfold MemS.play MemS.load MemS.store MemS.add MemS.swap
  repeat' split
  all_goals simp [MemS.tick, MemS.set]

/-! ### A new memory of the reference's -/
def zeros (n : Nat) : List Value := (List.replicate n (0 : Int)).map (Value.int .i64)
theorem zeros_succ (n : Nat) : zeros n ++ [.int .i64 0] = zeros (n + 1) := by
  unfold zeros
  rw [List.replicate_succ', List.map_append]
  rfl

set_option maxRecDepth 100000 in
theorem ref_new (n : Int) (hn : n ≤ 65536) (w : World) :
    Calls Try.prog 29 #[.int .i64 n] w fun e w' => e = .returned (.pointer (some ⟨w.heap.size, 0, none⟩)) ∧ Below w.heap.size w w' ∧ (∃ g, w.heap.size ≤ g ∧ g < w'.heap.size ∧ RefAt w' w.heap.size g ⟨List.replicate n.toNat 0, 0⟩) := by
  obtain ⟨i0, hi, hz0, hz1, hz2⟩ := info_parts info_i64
  have hb0 := Blk.new w 60 #[.slice none 0 0, .int .i64 0]
  have hw0 : Below w.heap.size w (w.alloc (.cells #[.slice none 0 0, .int .i64 0] 60)) := (Below.refl _ _).alloc (Nat.le_refl _) _
  have HB0 := Lib.hid hb0
  have HW0 := Lib.hid hw0
  clear hb0 hw0
  go_enter Try.func29, Try.ntmps29
  go_wp2_with fail
  go_loopw [4] (fun i wr => ∃ (k : Nat) (A : Option Addr) (cap : Nat), k ≤ n.toNat ∧ i = .int .i64 k ∧ Blk wr w.heap.size 60 #[.slice A k cap, .int .i64 0] ∧ wr.ownsRow (w.heap.size + 1) 2 1 (.slice A k cap) k (zeros k) ∧ Below w.heap.size w wr) (fun i _ => n.toNat - (intOf i).toNat)
  case atStart => exact ⟨0, none, 0, Nat.zero_le _, rfl, HB0.out, World.ownsRow_nil _ _ _ _, HW0.out⟩
  case round =>
    obtain ⟨k, A, cap, hk, rfl, hb, hown, hw⟩ := hrel
    by_cases hlt : k < n.toNat
    · have t1 : (k : Int) < n := by omega
      have t2 : (k : Int) < 65536 := by omega
      have c0 := hb.at_ (i := 0) rfl
      simp only [List.getElem_toArray, List.getElem_cons_zero] at c0
      have hrlt := hb.lt
      go_wp2_with (at_builtin; refine wpList_append_own _ rfl (.tmp 20) (.tmp 21) 54 rfl (w.heap.size + 1) 2 i0 (.int .i64 0) 1 8 Try.underlying54 hi hz0 hz1 hz2 rfl (by decide) _ _ _ rfl (hown.alloc _) ⟨wr.heap.size, 0, none⟩ 1 1 [.int .i64 0] rfl rfl ?c1 ?c2 ?c3 ?c4 ?c5 ?_)
      case c1 => intro j u hj; match j, hj with | 0, hj => simp at hj; subst hj; simp [Addr.add]
      case c2 => intro u hu; simp at hu; subst hu; rfl
      case c3 => unfold maxLen; omega
      case c4 => omega
      case c5 => simp; omega
      intro v' w1 hown' hgrow _
      have hne : some w.heap.size ≠ (Value.slice A k cap).ownBlock := by
        intro e
        have := (hown.lt _ e.symm).1
        omega
      have hb1 := (hb.alloc (.cells #[.int .i64 0] 2)).grown hgrow hne
      have hw1 : Below w.heap.size w w1 := (hw.alloc (by have := hw.size; omega) _).grown hgrow (by simp; omega) (fun g hg => by have := (hown.lt _ hg).1; omega)
      obtain ⟨g, cap', rfl⟩ : ∃ g cap', v' = .slice (some ⟨g, 0, none⟩) (k + 1) cap' := by
        rcases hown'.2 with ⟨_, h⟩ | ⟨g, cap', _, h, _⟩
        · omega
        · exact ⟨g, cap', h⟩
      rw [zeros_succ] at hown'
      have c1 := hb1.at_ (i := 0) rfl
      have f1 := hb1.free 0
      have hst := hb1.put 0 (.slice (some ⟨g, 0, none⟩) (k + 1) cap')
      have hos : (w1.setCell ⟨w.heap.size, 0, none⟩ (.slice (some ⟨g, 0, none⟩) (k + 1) cap')).ownsRow (w.heap.size + 1) 2 1 (.slice (some ⟨g, 0, none⟩) (k + 1) cap') (k + 1) (zeros (k + 1)) := ownsRow_setCell_below hown' (Nat.lt_succ_self _) _
      clear hown hgrow c0 hb
      have H1 := Lib.hid hown'
      have H2 := Lib.hid hos
      have H3 := Lib.hid hst
      clear hown' hos hst
      go_wp2
      go_roundw
      case rel => exact ⟨k + 1, _, cap', by omega, by go_num, H3.out, H2.out, hw1.setCell (p := ⟨w.heap.size, 0, none⟩) (Nat.le_refl _) _⟩
      case measure => simp [intOf]; omega
    · have t : ¬ (k : Int) < n := by omega
      obtain rfl : k = n.toNat := by omega
      have hfin : ∃ g, w.heap.size ≤ g ∧ g < wr.heap.size ∧ RefAt wr w.heap.size g ⟨List.replicate n.toNat 0, 0⟩ := by
        have hrl := hb.lt
        rcases hown.2 with ⟨hv, h0⟩ | ⟨g, cap', cur, hv, hlo, hh, h3, h4, h5, h6⟩
        · injection hv with e1 e2 e3
          subst e1 e3
          refine ⟨w.heap.size, Nat.le_refl _, hrl, none, 0, ?_, .inl ⟨rfl, ?_, rfl⟩⟩
          · simpa using hb
          · rw [h0]; rfl
        · injection hv with e1 e2 e3
          subst e1 e3
          exact ⟨g, by omega, (Array.getElem?_eq_some_iff.1 hh).1, RefAt.of_row (by simpa using hb) ⟨cur, hh, h5, by simp [zeros] at hown ⊢, by simpa using h3, h4, by simpa [zeros] using h6⟩⟩
      have HF := Lib.hid hfin
      clear hfin
      go_wp2
      go_ret
      exact ⟨rfl, hw, HF.out⟩

end Go.Proofs.Ytcphidmfdakbeaa
