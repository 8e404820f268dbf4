/- Layer 2's arena: what its calls do, each called alone. -/
import Derived.Test.YtldccemgfjmcdaaCell
import Derived.Test.YtldccemgfjmcdaaArgs
import Derived.Test.YtldccemgfjmcdaaFlat
import Derived.Laws.MakeOwn
namespace Go.Proofs.Ytldccemgfjmcdaa
open Go.RowKit
set_option linter.unusedSimpArgs false
set_option linter.unusedVariables false

theorem ret_int {k : IntKind} {a b : Int} (h : a = b) : Ending.returned (.int k a) = .returned (.int k b) := by rw [h]
theorem ret_b {a b : Bool} (h : a = b) : Ending.returned (.bool a) = .returned (.bool b) := by rw [h]

theorem IntKind.wrap_i64' (x : Int) : IntKind.i64.wrap x = wrap64 x := by rw [IntKind.wrap_i64]; unfold wrap64; rfl

/-- The arena lies in the blocks a (the struct) and b (its slots). -/
structure ArAt (w : World) (a b : Nat) (α : ArS) : Prop where
  top : Blk w a 129 #[.int .i64 α.first, .slice (some ⟨b, 0, none⟩) α.slots.length α.slots.length, .bool α.stale, .bool α.double]
  row : Blk w b 139 (stCells α.slots)
  len : α.slots.length ≤ 1000
  lo : 0 ≤ α.first
  hi : α.first ≤ 65536

section
variable {w w' : World} {a b : Nat} {α : ArS} {F : List Nat}
theorem ArAt.ne_ (h : ArAt w a b α) : a ≠ b := h.top.ne_ h.row (by decide)
theorem ArAt.upd (h : ArAt w a b α) (hu : Upd F w w') (h1 : a ∉ F) (h2 : b ∉ F) : ArAt w' a b α := ⟨h.top.upd hu h1, h.row.upd hu h2, h.len, h.lo, h.hi⟩
theorem ArAt.thru (h : ArAt w a b α) (hb : Below w.heap.size w w') : ArAt w' a b α := ⟨h.top.thru hb, h.row.thru hb, h.len, h.lo, h.hi⟩
theorem ArAt.drewN (h : ArAt w a b α) (n : Nat) : ArAt (w.drewN n) a b α := ⟨h.top.drewN n, h.row.drewN n, h.len, h.lo, h.hi⟩
theorem ArAt.alloc (h : ArAt w a b α) (o : Obj) : ArAt (w.alloc o) a b α := ⟨h.top.alloc o, h.row.alloc o, h.len, h.lo, h.hi⟩
theorem ArAt.gen (h : ArAt w a b α) {k : Nat} (hk : k < α.slots.length) : w.cell? ⟨b, k * 2, none⟩ = some (.int .i64 (α.slots.getD k (0, false)).1) := h.row.at_ (stCells_gen hk)
theorem ArAt.live (h : ArAt w a b α) {k : Nat} (hk : k < α.slots.length) : w.cell? ⟨b, k * 2 + 1, none⟩ = some (.bool (α.slots.getD k (0, false)).2) := h.row.at_ (stCells_live hk)
end

theorem arena_slot (h : Int) (w : World) (hh : h < 9223372036854775808) :
    Calls Try.prog 67 #[.int .i64 h] w fun e w' => e = .returned (.int .i64 (slotOf h)) ∧ w = w' := by
  rcases Int.lt_or_le h 0 with h0 | h0
  · have HE := Lib.hid (show slotOf h = 0 by unfold slotOf; rw [if_pos h0])
    go_enter Try.func67, Try.ntmps67
    go_wp2
    go_ret
    exact ⟨ret_int HE.out.symm, rfl⟩
  · have HE := Lib.hid (show bits .and .i64 h 65535 = slotOf h by unfold slotOf; rw [if_neg (by omega)]; exact bits_low h h0 hh)
    have h0' : ¬ h < 0 := by omega
    clear h0 hh
    go_enter Try.func67, Try.ntmps67
    go_wp2
    go_ret
    exact ⟨ret_int HE.out, rfl⟩

theorem arena_has (a b : Nat) (α : ArS) (s : Int) (w : World) (h : ArAt w a b α) :
    Calls Try.prog 68 #[.pointer (some ⟨a, 0, none⟩), .int .i64 s] w fun e w' => e = .returned (.bool (α.has s)) ∧ w = w' := by
  obtain ⟨k0, k1, k2, k3⟩ := h.top.at4
  have hl := h.len
  clear h
  rcases Int.lt_or_le s 1 with h0 | h0
  · have HE := Lib.hid (show α.has s = false by simp [ArS.has]; omega)
    have h0' : ¬ (1 : Int) ≤ s := by omega
    clear h0
    go_enter Try.func68, Try.ntmps68
    go_wp2
    go_ret
    exact ⟨ret_b HE.out.symm, rfl⟩
  · have HE := Lib.hid (show α.has s = decide (s ≤ (α.slots.length : Int)) by simp [ArS.has]; omega)
    go_enter Try.func68, Try.ntmps68
    go_wp2
    go_ret
    exact ⟨ret_b HE.out.symm, rfl⟩

theorem arena_cell (a b : Nat) (α : ArS) (hd word : Int) (w : World) (h : ArAt w a b α) (hh : hd < 9223372036854775808) :
    Calls Try.prog 34 #[.pointer (some ⟨a, 0, none⟩), .int .i64 hd, .int .i64 word] w fun e w' => e = .returned (.int .i64 (α.cell hd word)) ∧ w = w' := by
  have HS := Lib.hid (fun w1 => arena_slot hd w1 hh)
  have HH := Lib.hid (fun w1 (h1 : ArAt w1 a b α) => arena_has a b α (slotOf hd) w1 h1)
  have HA := Lib.hid h
  obtain ⟨k0, k1, k2, k3⟩ := h.top.at4
  have hl := h.len
  have hlo := h.lo
  have hhi := h.hi
  clear h hh k1 k2 k3
  have hs := slotOf_lo hd
  obtain ⟨s0, s1⟩ := hs
  cases hhas : α.has (slotOf hd) with
  | false =>
    have HE := Lib.hid (show α.cell hd word = -1 by unfold ArS.cell; rw [hhas]; rfl)
    rw [hhas] at HH
    clear hhas
    go_enter Try.func34, Try.ntmps34
    go_wp2_with fail
    refine (HS.out _).mono ?_
    rintro e w1 ⟨rfl, rfl⟩
    go_wp2_with fail
    refine (HH.out _ HA.out).mono ?_
    rintro e w1 ⟨rfl, rfl⟩
    go_wp2
    go_ret
    exact ⟨ret_int HE.out.symm, rfl⟩
  | true =>
    rw [hhas] at HH
    obtain ⟨k, hk, hkl⟩ := ArS.has_iff hhas
    by_cases hw : 0 ≤ word ∧ word < 28
    · have HE := Lib.hid (show α.cell hd word = α.first + (slotOf hd - 1) * 28 + word by unfold ArS.cell; rw [hhas, if_pos (by simp; omega)])
      clear hhas
      have HK := Lib.hid hk
      obtain ⟨hw0, hw1⟩ := hw
      have hs1 : slotOf hd ≤ 1000 := by omega
      have hs2 : 1 ≤ slotOf hd := by omega
      clear hk
      have hw0' : ¬ word < 0 := by omega
      have hw1' : ¬ 28 ≤ word := by omega
      generalize slotOf hd = sl at *
      go_enter Try.func34, Try.ntmps34
      go_wp2_with fail
      refine (HS.out _).mono ?_
      rintro e w1 ⟨rfl, rfl⟩
      go_wp2_with fail
      refine (HH.out _ HA.out).mono ?_
      rintro e w1 ⟨rfl, rfl⟩
      go_wp2
      go_ret
      exact ⟨ret_int HE.out.symm, rfl⟩
    · have HE := Lib.hid (show α.cell hd word = -1 by unfold ArS.cell; rw [hhas, if_neg (by simp; omega)])
      clear hhas hk
      rcases Int.lt_or_le word 0 with h0 | h0
      · clear hw
        go_enter Try.func34, Try.ntmps34
        go_wp2_with fail
        refine (HS.out _).mono ?_
        rintro e w1 ⟨rfl, rfl⟩
        go_wp2_with fail
        refine (HH.out _ HA.out).mono ?_
        rintro e w1 ⟨rfl, rfl⟩
        go_wp2
        go_ret
        exact ⟨ret_int HE.out.symm, rfl⟩
      · have h1 : 28 ≤ word := by omega
        have h0' : ¬ word < 0 := by omega
        clear hw h0
        go_enter Try.func34, Try.ntmps34
        go_wp2_with fail
        refine (HS.out _).mono ?_
        rintro e w1 ⟨rfl, rfl⟩
        go_wp2_with fail
        refine (HH.out _ HA.out).mono ?_
        rintro e w1 ⟨rfl, rfl⟩
        go_wp2
        go_ret
        exact ⟨ret_int HE.out.symm, rfl⟩

theorem arena_handle (a b : Nat) (α : ArS) (k : Nat) (w : World) (h : ArAt w a b α) (hk : k < α.slots.length) :
    Calls Try.prog 72 #[.pointer (some ⟨a, 0, none⟩), .int .i64 (k + 1)] w fun e w' => e = .returned (.int .i64 (α.handle (k + 1))) ∧ w = w' := by
  obtain ⟨k0, k1, k2, k3⟩ := h.top.at4
  have g := h.gen hk
  have hl := h.len
  have HE := Lib.hid (show bits .or .i64 (wrap64 ((α.slots.getD k (0, false)).1 * 65536)) ((k : Int) + 1) = α.handle (k + 1) by
    rw [← IntKind.wrap_i64']
    unfold ArS.handle
    rw [α.at_succ]
    exact bits_or_low _ _ (by omega) (by omega))
  clear h k0 k2 k3
  generalize (α.slots.getD k (0, false)).1 = x at *
  go_enter Try.func72, Try.ntmps72
  go_wp2
  go_ret
  exact ⟨ret_int HE.out, rfl⟩

theorem arena_right (a b : Nat) (α : ArS) (hd : Int) (w : World) (h : ArAt w a b α) (hh : hd < 9223372036854775808) :
    Calls Try.prog 40 #[.pointer (some ⟨a, 0, none⟩), .int .i64 hd] w fun e w' => e = .returned (.bool (α.right hd)) ∧ w = w' := by
  have HS := Lib.hid (fun w1 => arena_slot hd w1 hh)
  have HH := Lib.hid (fun w1 (h1 : ArAt w1 a b α) => arena_has a b α (slotOf hd) w1 h1)
  have HA := Lib.hid h
  obtain ⟨k0, k1, k2, k3⟩ := h.top.at4
  have hl := h.len
  clear hh k0 k2 k3
  cases hhas : α.has (slotOf hd) with
  | false =>
    have HE := Lib.hid (show α.right hd = false by unfold ArS.right; rw [hhas]; rfl)
    rw [hhas] at HH
    clear hhas h
    go_enter Try.func40, Try.ntmps40
    go_wp2_with fail
    refine (HS.out _).mono ?_
    rintro e w1 ⟨rfl, rfl⟩
    go_wp2_with fail
    refine (HH.out _ HA.out).mono ?_
    rintro e w1 ⟨rfl, rfl⟩
    go_wp2
    go_ret
    exact ⟨ret_b HE.out.symm, rfl⟩
  | true =>
    rw [hhas] at HH
    obtain ⟨k, hk, hkl⟩ := ArS.has_iff hhas
    have HD := Lib.hid (fun w1 (h1 : ArAt w1 a b α) => arena_handle a b α k w1 h1 hkl)
    have g := h.live hkl
    have HE := Lib.hid (show α.right hd = ((α.slots.getD k (0, false)).2 && (α.handle ((k : Int) + 1) == hd)) by unfold ArS.right; rw [hhas, hk, α.at_succ]; rfl)
    clear hhas h
    rw [hk] at HS HH
    clear hk
    generalize α.handle ((k : Int) + 1) = y at *
    generalize (α.slots.getD k (0, false)).2 = x at *
    cases x with
    | false =>
      go_enter Try.func40, Try.ntmps40
      go_wp2_with fail
      refine (HS.out _).mono ?_
      rintro e w1 ⟨rfl, rfl⟩
      go_wp2_with fail
      refine (HH.out _ HA.out).mono ?_
      rintro e w1 ⟨rfl, rfl⟩
      go_wp2
      go_ret
      exact ⟨ret_b HE.out.symm, rfl⟩
    | true =>
      go_enter Try.func40, Try.ntmps40
      go_wp2_with fail
      refine (HS.out _).mono ?_
      rintro e w1 ⟨rfl, rfl⟩
      go_wp2_with fail
      refine (HH.out _ HA.out).mono ?_
      rintro e w1 ⟨rfl, rfl⟩
      go_wp2_with fail
      refine (HD.out _ HA.out).mono ?_
      rintro e w1 ⟨rfl, rfl⟩
      go_wp2
      go_ret
      exact ⟨ret_b HE.out.symm, rfl⟩

/-- What an arena's call that writes leaves. -/
def ArPost (w : World) (a b : Nat) (α' : ArS) (v : Value) (e : Ending) (w' : World) : Prop := e = .returned v ∧ ArAt w' a b α' ∧ Upd [a, b] w w'

theorem arena_touch (a b : Nat) (α : ArS) (hd : Int) (w : World) (h : ArAt w a b α) (hh : hd < 9223372036854775808) :
    Calls Try.prog 92 #[.pointer (some ⟨a, 0, none⟩), .int .i64 hd] w (ArPost w a b (α.touch hd) (.tuple #[])) := by
  have HR := Lib.hid (arena_right a b α hd w h hh)
  obtain ⟨k0, k1, k2, k3⟩ := h.top.at4
  obtain ⟨f0, f1, f2⟩ := h.top.fr3
  cases hr : α.right hd with
  | true =>
    have HE := Lib.hid (show ArPost w a b (α.touch hd) (.tuple #[]) (.returned (.tuple #[])) w by unfold ArS.touch; rw [if_pos hr]; exact ⟨rfl, h, Upd.refl _ _⟩)
    rw [hr] at HR
    clear hr h
    go_enter Try.func92, Try.ntmps92
    go_wp2_with fail
    refine (HR.out).mono ?_
    rintro e w1 ⟨rfl, rfl⟩
    go_wp2
    go_end0
    exact HE.out
  | false =>
    have HE := Lib.hid (show ArPost w a b (α.touch hd) (.tuple #[]) (.returned (.tuple #[])) (w.setCell ⟨a, 2, none⟩ (.bool true)) by
      unfold ArS.touch
      rw [if_neg (by simp [hr])]
      exact ⟨rfl, ⟨h.top.put 2 _, h.row.far (p := ⟨a, 2, none⟩) h.ne_.symm _, h.len, h.lo, h.hi⟩, (Upd.refl _ _).put (.inl (by simp)) _⟩)
    rw [hr] at HR
    clear hr h
    go_enter Try.func92, Try.ntmps92
    go_wp2_with fail
    refine (HR.out).mono ?_
    rintro e w1 ⟨rfl, rfl⟩
    go_wp2
    go_end0
    exact HE.out

theorem arena_stale (a b : Nat) (α : ArS) (w : World) (h : ArAt w a b α) :
    Calls Try.prog 25 #[.pointer (some ⟨a, 0, none⟩)] w fun e w' => e = .returned (.bool α.stale) ∧ w = w' := by
  obtain ⟨k0, k1, k2, k3⟩ := h.top.at4
  clear h
  go_enter Try.func25, Try.ntmps25
  go_wp2
  go_ret
  exact ⟨rfl, rfl⟩

theorem arena_double (a b : Nat) (α : ArS) (w : World) (h : ArAt w a b α) :
    Calls Try.prog 41 #[.pointer (some ⟨a, 0, none⟩)] w fun e w' => e = .returned (.bool α.double) ∧ w = w' := by
  obtain ⟨k0, k1, k2, k3⟩ := h.top.at4
  clear h
  go_enter Try.func41, Try.ntmps41
  go_wp2
  go_ret
  exact ⟨rfl, rfl⟩

theorem arena_born (a b : Nat) (α : ArS) (s : Int) (w : World) (h : ArAt w a b α) :
    Calls Try.prog 60 #[.pointer (some ⟨a, 0, none⟩), .int .i64 s] w (ArPost w a b (α.born s).2 (.int .i64 (α.born s).1)) := by
  have HH := Lib.hid (arena_has a b α s w h)
  cases hhas : α.has s with
  | false =>
    have HE := Lib.hid (show ArPost w a b (α.born s).2 (.int .i64 (α.born s).1) (.returned (.int .i64 0)) w by unfold ArS.born; rw [if_neg (by simp [hhas])]; exact ⟨rfl, h, Upd.refl _ _⟩)
    rw [hhas] at HH
    clear hhas h
    go_enter Try.func60, Try.ntmps60
    go_wp2_with fail
    refine (HH.out).mono ?_
    rintro e w1 ⟨rfl, rfl⟩
    go_wp2
    go_ret
    exact HE.out
  | true =>
    obtain ⟨k, rfl, hk⟩ := ArS.has_iff hhas
    rw [hhas] at HH
    obtain ⟨k0, k1, k2, k3⟩ := h.top.at4
    obtain ⟨f0, f1, f2, f3⟩ := h.top.fr4
    have gl := h.live hk
    have gg := h.gen hk
    have fl := h.row.free (k * 2 + 1)
    have fg := h.row.free (k * 2)
    have hl := h.len
    have hne := h.ne_
    have hne2 := h.ne_.symm
    obtain ⟨G, hG⟩ : ∃ G, (α.slots.getD k (0, false)).1 = G := ⟨_, rfl⟩
    obtain ⟨L, hL⟩ : ∃ L, (α.slots.getD k (0, false)).2 = L := ⟨_, rfl⟩
    have HE := Lib.hid (show α.born (k + 1) = (hand (wrap64 (G + 1)) (k + 1), { α with slots := α.slots.set k (wrap64 (G + 1), true), double := α.double || L }) by
      unfold ArS.born
      rw [if_pos hhas, α.at_succ, hG, hL]
      unfold ArS.put
      rw [show ((k : Int) + 1 - 1).toNat = k by omega])
    have h1 : ArAt (((w.setCell ⟨a, 3, none⟩ (.bool (α.double || L))).setCell ⟨b, k * 2 + 1, none⟩ (.bool true)).setCell ⟨b, k * 2, none⟩ (.int .i64 (wrap64 (G + 1)))) a b { α with slots := α.slots.set k (wrap64 (G + 1), true), double := α.double || L } := by
      have p1 := (h.row.far (p := ⟨a, 3, none⟩) hne2 (.bool (α.double || L))).put (k * 2 + 1) (.bool true)
      rw [stCells_put_live hk] at p1
      have p2 := p1.put (k * 2) (.int .i64 (wrap64 (G + 1)))
      rw [stCells_put_gen (by simpa using hk)] at p2
      have e : ((α.slots.set k ((α.slots.getD k (0, false)).1, true)).getD k (0, false)).2 = true := by simp [hk]
      rw [e, List.set_set] at p2
      refine ⟨?_, p2, by simpa using hl, h.lo, h.hi⟩
      simp only [List.length_set]
      exact ((h.top.put 3 _).far (p := ⟨b, k * 2 + 1, none⟩) hne _).far (p := ⟨b, k * 2, none⟩) hne _
    have hu : Upd [a, b] w (((w.setCell ⟨a, 3, none⟩ (.bool (α.double || L))).setCell ⟨b, k * 2 + 1, none⟩ (.bool true)).setCell ⟨b, k * 2, none⟩ (.int .i64 (wrap64 (G + 1)))) :=
      (((Upd.refl _ _).put (.inl (by simp)) _).put (.inl (by simp)) _).put (.inl (by simp)) _
    have HD := Lib.hid (fun w1 (h1 : ArAt w1 a b { α with slots := α.slots.set k (wrap64 (G + 1), true), double := α.double || L }) => arena_handle a b _ k w1 h1 (by simpa using hk))
    have HV := Lib.hid (show ArS.handle { α with slots := α.slots.set k (wrap64 (G + 1), true), double := α.double || L } ((k : Int) + 1) = hand (wrap64 (G + 1)) (k + 1) by
      unfold ArS.handle
      rw [ArS.at_succ]
      simp [hk])
    rw [HE.out]
    have HA1 := Lib.hid h1
    have HU := Lib.hid hu
    rw [hG] at gg
    rw [hL] at gl
    clear hhas h h1 hu hG hL
    generalize α.double = D at *
    cases D with
    | true =>
      simp only [Bool.true_or] at HA1 HU HD HV ⊢
      go_enter Try.func60, Try.ntmps60
      go_wp2_with fail
      refine (HH.out).mono ?_
      rintro e w1 ⟨rfl, rfl⟩
      go_wp2_with fail
      refine (HD.out _ HA1.out).mono ?_
      rintro e w1 ⟨rfl, rfl⟩
      go_wp2
      go_ret
      exact ⟨ret_int HV.out, HA1.out, HU.out⟩
    | false =>
      simp only [Bool.false_or] at HA1 HU HD HV ⊢
      cases L with
      | true =>
        go_enter Try.func60, Try.ntmps60
        go_wp2_with fail
        refine (HH.out).mono ?_
        rintro e w1 ⟨rfl, rfl⟩
        go_wp2_with fail
        refine (HD.out _ HA1.out).mono ?_
        rintro e w1 ⟨rfl, rfl⟩
        go_wp2
        go_ret
        exact ⟨ret_int HV.out, HA1.out, HU.out⟩
      | false =>
        go_enter Try.func60, Try.ntmps60
        go_wp2_with fail
        refine (HH.out).mono ?_
        rintro e w1 ⟨rfl, rfl⟩
        go_wp2_with fail
        refine (HD.out _ HA1.out).mono ?_
        rintro e w1 ⟨rfl, rfl⟩
        go_wp2
        go_ret
        exact ⟨ret_int HV.out, HA1.out, HU.out⟩

theorem info_state : (Try.prog.info? 139).map (fun i => (i.zero, i.size, i.bytes)) = some (some (.agg #[.int .i64 0, .bool false]), 2, 16) := by kernel_rfl
theorem under_states : Try.prog.underlying 127 = some (.slice 139) := by kernel_rfl
theorem make_states (N : Nat) (hN : N ≤ 1000) (w : World) : (Instr.makeSlice 127 (.int .i64 (N : Int)) (.int .i64 (N : Int))).run Try.prog w = .ok (.slice (some ⟨w.heap.size, 0, none⟩) N N) (w.alloc (.cells (stCells (List.replicate N (0, false))) 139)) := by
  obtain ⟨i0, hi, hz0, hz1, hz2⟩ := info_parts info_state
  have h := run_make (P := Try.prog) w 127 139 i0 _ under_states hi hz0 .i64 .i64 N N (by omega) (Int.le_refl _) (by rw [hz2]; omega) (by omega)
  rw [hz1, Int.toNat_natCast, show (Value.agg #[.int .i64 0, .bool false]).cells = #[.int .i64 0, .bool false] by rfl, made_flat stOf_len #[.int .i64 0, .bool false] (0, false) rfl] at h
  exact h
theorem arena_new (first : Int) (n : Nat) (w : World) (h0 : 0 ≤ first) (h1 : first ≤ 65536) (hn : n ≤ 1000) :
    Calls Try.prog 59 #[.int .i64 first, .int .i64 (n : Int)] w fun e w' => e = .returned (.pointer (some ⟨w.heap.size + 1, 0, none⟩)) ∧
      ArAt w' (w.heap.size + 1) w.heap.size ⟨first, List.replicate n (0, false), false, false⟩ ∧ Below w.heap.size w w' ∧ w'.heap.size = w.heap.size + 2 := by
  have hb : ∀ (o o' : Obj), Below w.heap.size w ((w.alloc o).alloc o') := fun o o' => ((Below.refl _ _).alloc (Nat.le_refl _) _).alloc (by simp) _
  have hmk := make_states n hn
  have HF := Lib.hid (show ArAt ((w.alloc (.cells (stCells (List.replicate n (0, false))) 139)).alloc (.cells #[.int .i64 first, .slice (some ⟨w.heap.size, 0, none⟩) n n, .bool false, .bool false] 129)) (w.heap.size + 1) w.heap.size ⟨first, List.replicate n (0, false), false, false⟩ from by
    refine ⟨?_, ?_, by simpa using hn, h0, h1⟩
    · have := Blk.new (w.alloc (.cells (stCells (List.replicate n (0, false))) 139)) 129 #[.int .i64 first, .slice (some ⟨w.heap.size, 0, none⟩) n n, .bool false, .bool false]
      simpa using this
    · exact (Blk.new w 139 (stCells (List.replicate n (0, false)))).alloc _)
  have HB := Lib.hid hb
  have hn' : (n : Int) ≤ 1000 := by omega
  have a1 : ¬ first < 0 := by omega
  have a2 : ¬ (65536 : Int) < first := by omega
  have a3 : ¬ (n : Int) < 0 := by omega
  have a4 : ¬ (1000 : Int) < (n : Int) := by omega
  clear hb
  go_enter Try.func59, Try.ntmps59
  go_wp2
  go_ret
  exact ⟨by simp, HF.out, HB.out _ _, by simp⟩
end Go.Proofs.Ytldccemgfjmcdaa
