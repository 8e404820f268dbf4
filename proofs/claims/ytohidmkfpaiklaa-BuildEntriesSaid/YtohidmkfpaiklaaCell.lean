/- The cells of layer 1: what New, Size, Count, Load, Store, Add, Swap, Look do, each called alone. -/
import Derived.Test.YtohidmkfpaiklaaMem
import Derived.Test.YtohidmkfpaiklaaRows
import Derived.WalkLawsBesides
import Derived.WalkSpells
import Derived.Outline
import Derived.Deep.DeepCutAuto
import Derived.StillTailTactics
import Derived.Deep.QuietTactic
import Derived.BigQuiet
namespace Go.Proofs.Ytohidmkfpaiklaa
open Go.RowKit

theorem info_i64 : (Try.prog.info? 2).map (fun i => (i.zero, i.size, i.bytes)) = some (some (.int .i64 0), 1, 8) := by kernel_rfl

/-- A memory: its cells, and how many accesses there were. -/
structure MemS where
  cells : List Int
  count : Int

/-- The memory lies in the blocks m (the struct) and c (its cells). -/
def MemAt (w : World) (m c : Nat) (s : MemS) : Prop :=
  Blk w m 96 #[.slice (some ⟨c, 0, none⟩) s.cells.length s.cells.length, .int .i64 s.count] ∧ Blk w c 2 (nums .i64 s.cells) ∧ s.cells.length ≤ 65536

section
variable {w w' : World} {m c : Nat} {s : MemS} {F : List Nat}
theorem MemAt.ne_ (h : MemAt w m c s) : m ≠ c := h.1.ne_ h.2.1 (by decide)
theorem MemAt.upd (h : MemAt w m c s) (hu : Upd F w w') (h1 : m ∉ F) (h2 : c ∉ F) : MemAt w' m c s := ⟨h.1.upd hu h1, h.2.1.upd hu h2, h.2.2⟩
theorem MemAt.far (h : MemAt w m c s) {p : Addr} (h1 : p.block ≠ m) (h2 : p.block ≠ c) (u : Value) : MemAt (w.setCell p u) m c s := ⟨h.1.far h1.symm u, h.2.1.far h2.symm u, h.2.2⟩
theorem MemAt.drewN (h : MemAt w m c s) (n : Nat) : MemAt (w.drewN n) m c s := h
theorem MemAt.below {B : Nat} (h : MemAt w m c s) (hb : Below B w w') (h1 : m < B) (h2 : c < B) : MemAt w' m c s := ⟨h.1.below hb h1, h.2.1.below hb h2, h.2.2⟩
theorem MemAt.alloc (h : MemAt w m c s) (o : Obj) : MemAt (w.alloc o) m c s := ⟨h.1.alloc o, h.2.1.alloc o, h.2.2⟩
end

def capn (n : Int) : Int := if n < 0 then 0 else if 65536 < n then 65536 else n

theorem mem_new (w : World) (k : Nat) (hk : k ≤ 65536) :
    MemAt ((w.alloc (.cells (madeCells #[.int .i64 0] k) 2)).alloc (.cells #[.slice (some ⟨w.heap.size, 0, none⟩) k k, .int .i64 0] 96)) (w.heap.size + 1) w.heap.size ⟨List.replicate k 0, 0⟩ := by
  refine ⟨?_, ?_, by simpa using hk⟩
  · have := Blk.new (w.alloc (.cells (madeCells #[.int .i64 0] k) 2)) 96 #[.slice (some ⟨w.heap.size, 0, none⟩) k k, .int .i64 0]
    simpa using this
  · have := (Blk.new w 2 (madeCells #[.int .i64 0] k)).alloc (.cells #[.slice (some ⟨w.heap.size, 0, none⟩) k k, .int .i64 0] 96)
    rw [nums_zeros] at this
    rw [nums_zeros]
    exact this

set_option maxRecDepth 100000 in
theorem cell_new (n : Int) (w : World) :
    Calls Try.prog 24 #[.int .i64 n] w fun e w' => e = .returned (.pointer (some ⟨w.heap.size + 1, 0, none⟩)) ∧
      MemAt w' (w.heap.size + 1) w.heap.size ⟨List.replicate (capn n).toNat 0, 0⟩ ∧ Below w.heap.size w w' ∧ w'.heap.size = w.heap.size + 2 := by
  have hb : ∀ (o o' : Obj), Below w.heap.size w ((w.alloc o).alloc o') := fun o o' => ((Below.refl _ _).alloc (Nat.le_refl _) _).alloc (by simp) _
  rcases Int.lt_or_le n 0 with hn | hn
  · have e1 : capn n = 0 := by unfold capn; rw [if_pos hn]
    have hmk : ∀ w, (Instr.makeSlice 23 (.int .i64 0) (.int .i64 0)).run Try.prog w = .ok (.slice (some ⟨w.heap.size, 0, none⟩) 0 0) (w.alloc (.cells (madeCells #[.int .i64 0] 0) 2)) :=
      run_make_row' (P := Try.prog) 23 2 (.int .i64 0) 8 Try.underlying23 info_i64 rfl .i64 .i64 0 (by omega) (by omega)
    have HE := Lib.hid e1
    clear e1
    go_enter Try.func24, Try.ntmps24
    go_wp2
    go_ret
    exact ⟨by simp, by rw [HE.out]; exact mem_new w 0 (by omega), hb _ _, by simp⟩
  · rcases Int.lt_or_le 65536 n with hn2 | hn2
    · have e1 : capn n = 65536 := by unfold capn; rw [if_neg (by omega), if_pos hn2]
      have hmk : ∀ w, (Instr.makeSlice 23 (.int .i64 65536) (.int .i64 65536)).run Try.prog w = .ok (.slice (some ⟨w.heap.size, 0, none⟩) 65536 65536) (w.alloc (.cells (madeCells #[.int .i64 0] 65536) 2)) :=
        run_make_row' (P := Try.prog) 23 2 (.int .i64 0) 8 Try.underlying23 info_i64 rfl .i64 .i64 65536 (by omega) (by omega)
      have HE := Lib.hid e1
      clear e1
      go_enter Try.func24, Try.ntmps24
      go_wp2
      go_ret
      exact ⟨by simp, by rw [HE.out]; exact mem_new w 65536 (by omega), hb _ _, by simp⟩
    · obtain ⟨k, rfl⟩ := Int.eq_ofNat_of_zero_le hn
      have e1 : capn k = k := by unfold capn; rw [if_neg (by omega), if_neg (by omega)]
      have hmk := run_make_row' (P := Try.prog) 23 2 (.int .i64 0) 8 Try.underlying23 info_i64 rfl .i64 .i64 k (by omega) (by omega)
      have HE := Lib.hid e1
      clear e1
      go_enter Try.func24, Try.ntmps24
      go_wp2
      go_ret
      exact ⟨by simp, by rw [HE.out, Int.toNat_natCast]; exact mem_new w k (by omega), hb _ _, by simp⟩

section
variable {w w' : World} {m c : Nat} {s : MemS}
theorem MemAt.h0 (h : MemAt w m c s) : w.cell? ⟨m, 0, none⟩ = some (.slice (some ⟨c, 0, none⟩) s.cells.length s.cells.length) := h.1.at_ rfl
theorem MemAt.h1 (h : MemAt w m c s) : w.cell? ⟨m, 1, none⟩ = some (.int .i64 s.count) := h.1.at_ rfl
theorem MemAt.f1 (h : MemAt w m c s) : w.frozen? ⟨m, 1, none⟩ = false := h.1.free 1
theorem MemAt.hc (h : MemAt w m c s) {i : Nat} (hi : i < s.cells.length) : w.cell? ⟨c, i, none⟩ = some (.int .i64 (s.cells.getD i 0)) := h.2.1.at_ (nums_get _ _ _ hi)
theorem MemAt.fc (h : MemAt w m c s) (i : Nat) : w.frozen? ⟨c, i, none⟩ = false := h.2.1.free i
theorem MemAt.counted (h : MemAt w m c s) (n : Int) : MemAt (w.setCell ⟨m, 1, none⟩ (.int .i64 n)) m c ⟨s.cells, n⟩ :=
  ⟨h.1.put 1 _, h.2.1.far (p := ⟨m, 1, none⟩) h.ne_.symm _, h.2.2⟩
theorem MemAt.stored (h : MemAt w m c s) (i : Nat) (v : Int) : MemAt (w.setCell ⟨c, i, none⟩ (.int .i64 v)) m c ⟨s.cells.set i v, s.count⟩ := by
  refine ⟨?_, ?_, by simpa using h.2.2⟩
  · have := h.1.far (p := ⟨c, i, none⟩) h.ne_ (.int .i64 v)
    simpa using this
  · have := h.2.1.put i (.int .i64 v)
    rw [nums_set] at this
    exact this
end

theorem at_in (m c : Nat) (s : MemS) (i : Nat) (w : World) (h : MemAt w m c s) (hi : i < s.cells.length) :
    Calls Try.prog 50 #[.pointer (some ⟨m, 0, none⟩), .int .i64 i] w fun e w' => e = .returned (.pointer (some ⟨c, i, none⟩)) ∧ w.setCell ⟨m, 1, none⟩ (.int .i64 (wrap64 (s.count + 1))) = w' := by
  have h0 := h.h0
  have h1 := h.h1
  have f1 := h.f1
  have hl := h.2.2
  have hne := h.ne_
  go_enter Try.func50, Try.ntmps50
  go_wp2
  go_ret
  exact ⟨by simp, rfl⟩

theorem at_out (m c : Nat) (s : MemS) (i : Int) (w : World) (h : MemAt w m c s) (hi : i < 0 ∨ (s.cells.length : Int) ≤ i) :
    Calls Try.prog 50 #[.pointer (some ⟨m, 0, none⟩), .int .i64 i] w fun e w' => e = .returned (.pointer none) ∧ w = w' := by
  have h0 := h.h0
  have hl := h.2.2
  rcases hi with hi | hi
  · go_enter Try.func50, Try.ntmps50
    go_wp2
    go_ret
    exact ⟨rfl, rfl⟩
  · have hi0 : ¬ i < 0 := by omega
    go_enter Try.func50, Try.ntmps50
    go_wp2
    go_ret
    exact ⟨rfl, rfl⟩



/-! ### What the accesses do, plainly -/

def MemS.has (s : MemS) (i : Int) : Bool := decide (0 ≤ i) && decide (i < s.cells.length)
def MemS.tick (s : MemS) : MemS := ⟨s.cells, wrap64 (s.count + 1)⟩
def MemS.get (s : MemS) (i : Int) : Int := s.cells.getD i.toNat 0
def MemS.set (s : MemS) (i v : Int) : MemS := ⟨s.cells.set i.toNat v, s.count⟩
/-- A value, an error's number, and the memory behind it. -/
def MemS.load (s : MemS) (i : Int) : Int × Int × MemS := if s.has i = true then (s.get i, 0, s.tick) else (0, 1, s)
def MemS.store (s : MemS) (i v : Int) : Int × MemS := if s.has i = true then (0, s.tick.set i v) else (1, s)
def MemS.add (s : MemS) (i d : Int) : Int × Int × MemS := if s.has i = true then (s.get i, 0, s.tick.set i (wrap64 (s.get i + d))) else (0, 1, s)
def MemS.swap (s : MemS) (i old fresh : Int) : Bool × Int × MemS :=
  if s.has i = true then (if s.get i = old then (true, 0, s.tick.set i fresh) else (false, 0, s.tick)) else (false, 1, s)

theorem MemS.has_iff {s : MemS} {i : Int} (h : s.has i = true) : ∃ k : Nat, i = k ∧ k < s.cells.length := by
  simp only [MemS.has, Bool.and_eq_true, decide_eq_true_eq] at h
  exact ⟨i.toNat, by omega, by omega⟩
theorem MemS.has_not {s : MemS} {i : Int} (h : s.has i = false) : i < 0 ∨ (s.cells.length : Int) ≤ i := by
  simp only [MemS.has, Bool.and_eq_false_iff, decide_eq_false_iff_not] at h
  omega

theorem cell_load (m c : Nat) (s : MemS) (i : Int) (w : World) (h : MemAt w m c s) :
    Calls Try.prog 105 #[.pointer (some ⟨m, 0, none⟩), .int .i64 i] w fun e w' =>
      e = .returned (.tuple #[.int .i64 (s.load i).1, .int .i64 (s.load i).2.1]) ∧ MemAt w' m c (s.load i).2.2 ∧ Upd [m] w w' := by
  cases hh : s.has i with
  | true =>
    obtain ⟨k, rfl, hk⟩ := MemS.has_iff hh
    have e1 : s.load k = (s.get k, 0, s.tick) := by unfold MemS.load; rw [if_pos hh]
    rw [e1]
    have ha := at_in m c s k w h hk
    have hm := h.counted (wrap64 (s.count + 1))
    have hu : Upd [m] w (w.setCell ⟨m, 1, none⟩ (.int .i64 (wrap64 (s.count + 1)))) := (Upd.refl _ _).put (.inl (by simp)) _
    have hcell := hm.hc (i := k) hk
    have HA := Lib.hid ha
    clear ha e1
    go_enter Try.func105, Try.ntmps105
    go_wp2_with fail
    refine HA.out.mono ?_
    rintro e w' ⟨rfl, rfl⟩
    go_wp2
    go_ret2
    exact ⟨by simp [MemS.get, hk], hm, hu⟩
  | false =>
    have e1 : s.load i = (0, 1, s) := by unfold MemS.load; rw [if_neg (by simp [hh])]
    rw [e1]
    have ha := at_out m c s i w h (MemS.has_not hh)
    have HA := Lib.hid ha
    clear ha e1
    go_enter Try.func105, Try.ntmps105
    go_wp2_with fail
    refine HA.out.mono ?_
    rintro e w' ⟨rfl, rfl⟩
    go_wp2
    go_ret2
    exact ⟨rfl, h, Upd.refl _ _⟩


theorem cell_store (m c : Nat) (s : MemS) (i v : Int) (w : World) (h : MemAt w m c s) :
    Calls Try.prog 27 #[.pointer (some ⟨m, 0, none⟩), .int .i64 i, .int .i64 v] w fun e w' =>
      e = .returned (.int .i64 (s.store i v).1) ∧ MemAt w' m c (s.store i v).2 ∧ Upd [m, c] w w' := by
  cases hh : s.has i with
  | true =>
    rw [show s.store i v = (0, s.tick.set i v) by unfold MemS.store; rw [if_pos hh]]
    obtain ⟨k, rfl, hk⟩ := MemS.has_iff hh
    have ha := at_in m c s k w h hk
    have hm := h.counted (wrap64 (s.count + 1))
    have hu : Upd [m, c] w (w.setCell ⟨m, 1, none⟩ (.int .i64 (wrap64 (s.count + 1)))) := (Upd.refl _ _).put (.inl (by simp)) _
    have hcell := hm.hc (i := k) hk
    have hfree := hm.fc k
    have hg : s.get k = s.cells.getD k 0 := by simp [MemS.get]
    have hst := hm.stored k v
    have hu2 := hu.put (p := ⟨c, k, none⟩) (.inl (by simp)) (.int .i64 v)
    have HA := Lib.hid ha
    clear ha hg
    go_enter Try.func27, Try.ntmps27
    go_wp2_with fail
    refine HA.out.mono ?_
    rintro e w' ⟨rfl, rfl⟩
    go_wp2
    go_ret
    exact ⟨rfl, by simpa [MemS.set, MemS.tick] using hst, hu2⟩
  | false =>
    rw [show s.store i v = (1, s) by unfold MemS.store; rw [if_neg (by simp [hh])]]
    have ha := at_out m c s i w h (MemS.has_not hh)
    have HA := Lib.hid ha
    clear ha
    go_enter Try.func27, Try.ntmps27
    go_wp2_with fail
    refine HA.out.mono ?_
    rintro e w' ⟨rfl, rfl⟩
    go_wp2
    go_ret
    exact ⟨rfl, h, Upd.refl _ _⟩



/-! ### slices.Clone of numbers, and Look -/

set_option maxRecDepth 100000 in
theorem clone_some (a : Addr) (n cap : Nat) (xs : List Int) (w : World) (hn : xs.length = n) (hb : n * 8 ≤ 140737488351232)
    (hx : ∀ j u, (xs.map (Value.int .i64))[j]? = some u → w.cell? (a.add j) = some u) :
    Calls Try.prog 97 #[.slice (some a) n cap] w fun e w' => ∃ g cap', e = .returned (.slice (some ⟨g, 0, none⟩) n cap') ∧ w.heap.size ≤ g ∧
      Row w' 2 1 g n cap' (xs.map (Value.int .i64)) ∧ Below w.heap.size w w' := by
  obtain ⟨i0, hi, hz0, hz1, hz2⟩ := info_parts info_i64
  have HN := Lib.hid hn
  have HX := Lib.hid hx
  clear hn hx
  have qT : ∀ (w : World) (a : Option Addr) (n c n' c' : Nat), (binOp .eql 23 (.slice a n c) (.slice none n' c')).run Try.prog w = .ok (.bool a.isNone) w := fun w a n c n' c' => Lib.run_eql_slice_nil w _ _ a n c n' c' Try.underlying23
  go_enter Try.func97, Try.ntmps97
  have hmade : (w.alloc (.cells #[] 2)).ownsRow w.heap.size 2 1 (.slice (some ⟨w.heap.size, 0, none⟩) 0 0) 0 [] := World.ownsRow_made w #[] 0 (Nat.le_refl _) (by unfold maxLen; omega) rfl
  go_wp2_with (at_builtin; refine wpList_append_own _ rfl (.tmp 5) (.tmp 6) 23 rfl w.heap.size 2 i0 (.int .i64 0) 1 8 Try.underlying23 hi hz0 hz1 hz2 rfl (by decide) _ _ _ rfl hmade a n cap (xs.map (Value.int .i64)) rfl ?c0 ?c1 ?c2 ?c3 ?c4 ?c5 ?_)
  case c0 => simpa using HN.out
  case c1 =>
    intro j u hj
    have h1 := HX.out j u hj
    rw [World.cell?_alloc_lt _ _ _ (World.block_lt_of_cell? w _ h1)]
    exact h1
  case c2 => intro u hu; simp at hu; obtain ⟨x, _, rfl⟩ := hu; rfl
  case c3 => unfold maxLen; omega
  case c4 => omega
  case c5 => simp
  intro v' w1 hown hgrow hnil
  have hbel : Below w.heap.size w w1 := ((Below.refl _ _).alloc (Nat.le_refl _) _).grown hgrow (by simp) (fun k h => by simp [Value.ownBlock] at h; omega)
  obtain ⟨hr, hlo⟩ := Rows'.ofOwn hown
  rcases hr with ⟨rfl, _⟩ | ⟨g, cap', rfl, hrow⟩
  · exact absurd rfl hnil
  clear hnil hown hgrow hmade
  go_wp2
  go_ret
  exact ⟨g, cap', rfl, hlo g rfl, hrow, hbel⟩

/-- 'Look' tells the cells that are there, in new memory. -/
def MemS.look (s : MemS) (i n : Int) : List Int := (s.cells.drop i.toNat).take n.toNat
theorem MemS.look_eq (s : MemS) (i n : Int) : s.look i n = (s.cells.drop (min i.toNat s.cells.length)).take (min n.toNat (s.cells.length - min i.toNat s.cells.length)) := by
  unfold MemS.look
  rcases Nat.le_total i.toNat s.cells.length with h | h
  · rw [Nat.min_eq_left h]
    rw [← List.length_drop, ← List.take_eq_take_min]
  · rw [Nat.min_eq_right h, List.drop_of_length_le h, List.drop_of_length_le (Nat.le_refl _)]
    simp

/-- Where a slice of a row begins (behind its end the old address stays). -/
theorem look_cells (w : World) (m c : Nat) (s : MemS) (h : MemAt w m c s) (I N : Nat) (hI : I + N ≤ s.cells.length) (a : Addr) (ha : a = (if s.cells.length = I then ⟨c, 0, none⟩ else ⟨c, I, none⟩)) :
    ∀ j u, (((s.cells.drop I).take N).map (Value.int .i64))[j]? = some u → w.cell? (a.add j) = some u := by
  intro j u hu
  rw [List.getElem?_map, List.getElem?_take] at hu
  split at hu
  · rename_i hj
    rw [if_neg (by omega)] at ha
    subst ha
    have hadd : (⟨c, I, none⟩ : Addr).add j = ⟨c, I + j, none⟩ := by unfold Addr.add; split <;> simp_all
    rw [hadd, h.hc (by omega)]
    rw [List.getElem?_drop, List.getElem?_eq_getElem (by omega)] at hu
    simp at hu
    simp [List.getD, ← hu, List.getElem?_eq_getElem (show I + j < s.cells.length by omega)]
  · simp at hu

theorem look_clone (m c : Nat) (s : MemS) (w w1 : World) (h : MemAt w m c s) (he : w1.heap = w.heap) (I N cap : Nat) (a : Addr) (ha : a = ⟨c, I, none⟩ ∨ s.cells.length = I ∧ a = ⟨c, 0, none⟩) (hN : I + N ≤ s.cells.length) :
    Calls Try.prog 97 #[.slice (some a) N cap] w1 fun e w' => ∃ g cap', e = .returned (.slice (some ⟨g, 0, none⟩) N cap') ∧ w1.heap.size ≤ g ∧
      Row w' 2 1 g N cap' (((s.cells.drop I).take N).map (Value.int .i64)) ∧ Below w1.heap.size w1 w' := by
  have h1 : MemAt w1 m c s := ⟨by unfold Blk; rw [he]; exact h.1, by unfold Blk; rw [he]; exact h.2.1, h.2.2⟩
  have hl := h.2.2
  refine clone_some a N cap ((s.cells.drop I).take N) w1 (by simp; omega) (by omega) ?_
  rcases ha with rfl | ⟨hI, rfl⟩
  · by_cases e : s.cells.length = I
    · intro j u hu
      have : N = 0 := by omega
      subst this
      simp at hu
    · exact look_cells w1 m c s h1 I N hN _ (by rw [if_neg e])
  · exact look_cells w1 m c s h1 I N hN _ (by rw [if_pos hI])

theorem look_close {s : MemS} {w w1 : World} {i n : Int} {I N g cap' : Nat} (hL : s.look i n = (s.cells.drop I).take N) (hN : I + N ≤ s.cells.length) (hg : w.drew.heap.size ≤ g)
    (hr : Row w1 2 1 g N cap' (((s.cells.drop I).take N).map (Value.int .i64))) (hb : Below w.drew.heap.size w.drew w1) :
    ∃ g' cap'', Ending.returned (.slice (some ⟨g, 0, none⟩) N cap') = .returned (.slice (some ⟨g', 0, none⟩) (s.look i n).length cap'') ∧ w.heap.size ≤ g' ∧
      Row w1 2 1 g' (s.look i n).length cap'' ((s.look i n).map (Value.int .i64)) ∧ Below w.heap.size w w1 := by
  have hl : (s.look i n).length = N := by rw [hL]; simp; omega
  rw [hl, hL]
  exact ⟨g, cap', rfl, hg, hr, ⟨hb.os, hb.tape, hb.output, hb.size, hb.block⟩⟩

set_option maxRecDepth 100000 in
theorem cell_look (m c : Nat) (s : MemS) (i n : Int) (w : World) (h : MemAt w m c s) :
    Calls Try.prog 83 #[.pointer (some ⟨m, 0, none⟩), .int .i64 i, .int .i64 n] w fun e w' =>
      ∃ g cap', e = .returned (.slice (some ⟨g, 0, none⟩) (s.look i n).length cap') ∧ w.heap.size ≤ g ∧ Row w' 2 1 g (s.look i n).length cap' ((s.look i n).map (Value.int .i64)) ∧ Below w.heap.size w w' := by
  have h0 := h.h0
  have hl := h.2.2
  go_enter Try.func83, Try.ntmps83
  go_upto_region 1 with fail
  go_cut [1] (fun v1 wc => v1 = .int .i64 (min i.toNat s.cells.length : Nat) ∧ w = wc)
  case first =>
    go_wp2
    all_goals go_meet
    all_goals exact ⟨congrArg (Value.int .i64) (by omega), rfl⟩
  case rest =>
    generalize hI : min i.toNat s.cells.length = I at hcut
    obtain ⟨rfl, rfl⟩ := hcut
    have hIL : I ≤ s.cells.length := by omega
    have HI := Lib.hid hI
    clear hI
    have e1 : IntKind.i64.wrap ((s.cells.length : Int) - I) = (s.cells.length : Int) - I := IntWalk.i64_in _ (by omega)
    have hq : ¬ ((s.cells.length : Int) - I < 0) := by omega
    have HC := Lib.hid (fun N cap a ha hN => look_clone m c s w w.drew h rfl I N cap a ha hN)
    rcases Int.lt_or_le n 0 with hn | hn
    · have e2 : IntKind.i64.wrap (I : Int) = I := IntWalk.i64_in _ (by omega)
      have HL := Lib.hid (show s.look i n = (s.cells.drop I).take 0 by rw [MemS.look_eq, HI.out]; congr 1; omega)
      go_upto_region 2 with fail
      go_still_tail 17, (by kernel_rfl)
      change wpList _ _ _ _ _ w.drew
      clear e1 e2 hq
      go_wp2_with fail
      all_goals first | with_reducible refine (HC.out 0 _ ⟨c, 0, none⟩ (.inr ⟨by assumption, rfl⟩) (by omega)).mono ?_ | with_reducible refine (HC.out 0 _ ⟨c, I, none⟩ (.inl rfl) (by omega)).mono ?_
      all_goals rintro e w1 ⟨g, cap', rfl, hg, hrow, hb⟩
      all_goals go_wp2
      all_goals go_ret
      all_goals exact look_close HL.out (by omega) hg hrow hb
    · rcases Int.lt_or_le ((s.cells.length : Int) - I) n with hn2 | hn2
      · have e2 : IntKind.i64.wrap ((I : Int) + ((s.cells.length : Int) - I)) = s.cells.length := by rw [show (I : Int) + ((s.cells.length : Int) - I) = s.cells.length by omega]; exact IntWalk.i64_in _ (by omega)
        have HL := Lib.hid (show s.look i n = (s.cells.drop I).take (s.cells.length - I) by rw [MemS.look_eq, HI.out]; congr 1; omega)
        go_upto_region 2 with fail
        go_still_tail 17, (by kernel_rfl)
        change wpList _ _ _ _ _ w.drew
        clear e1 e2 hq
        go_wp2_with fail
        all_goals first | with_reducible refine (HC.out 0 _ ⟨c, 0, none⟩ (.inr ⟨by assumption, rfl⟩) (by omega)).mono ?_ | with_reducible refine (HC.out (s.cells.length - I) _ ⟨c, I, none⟩ (.inl rfl) (by omega)).mono ?_
        all_goals rintro e w1 ⟨g, cap', rfl, hg, hrow, hb⟩
        all_goals go_wp2
        all_goals go_ret
        all_goals first | exact look_close HL.out (by omega) hg hrow hb | exact look_close (by rw [HL.out, show s.cells.length - I = 0 by omega]) (by omega) hg hrow hb
      · obtain ⟨N, rfl⟩ := Int.eq_ofNat_of_zero_le hn
        have e2 : IntKind.i64.wrap ((I : Int) + (N : Int)) = (I : Int) + N := IntWalk.i64_in _ (by omega)
        have HL := Lib.hid (show s.look i N = (s.cells.drop I).take N by rw [MemS.look_eq, HI.out]; congr 1; omega)
        go_upto_region 2 with fail
        go_still_tail 17, (by kernel_rfl)
        change wpList _ _ _ _ _ w.drew
        clear e1 e2 hq
        go_wp2_with fail
        all_goals first | with_reducible refine (HC.out N _ ⟨c, 0, none⟩ (.inr ⟨by assumption, rfl⟩) (by omega)).mono ?_ | with_reducible refine (HC.out N _ ⟨c, I, none⟩ (.inl rfl) (by omega)).mono ?_
        all_goals rintro e w1 ⟨g, cap', rfl, hg, hrow, hb⟩
        all_goals go_wp2
        all_goals go_ret
        all_goals exact look_close HL.out (by omega) hg hrow hb

theorem cell_look_as (m c : Nat) (s : MemS) (i n : Int) (X : List Int) (L : Nat) (hX : s.look i n = X) (hL : X.length = L) (w : World) (h : MemAt w m c s) :
    Calls Try.prog 83 #[.pointer (some ⟨m, 0, none⟩), .int .i64 i, .int .i64 n] w fun e w' =>
      ∃ g cap', e = .returned (.slice (some ⟨g, 0, none⟩) L cap') ∧ w.heap.size ≤ g ∧ Row w' 2 1 g L cap' (X.map (Value.int .i64)) ∧ Below w.heap.size w w' := by
  have h := cell_look m c s i n w h
  rw [hX, hL] at h
  exact h
end Go.Proofs.Ytohidmkfpaiklaa
