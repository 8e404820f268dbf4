/- The trail's Marks, samaralaw03's alike and cells20, each called alone. -/
import Derived.Test.YtcphidmfdakbeaaRef03
namespace Go.Proofs.Ytcphidmfdakbeaa
open Go.RowKit
set_option linter.unusedSimpArgs false
set_option linter.unusedVariables false

def markCell (p : Int × Int) : List Value := [.int .i64 p.1, .int .i64 p.2]
theorem markCells_eq (l : List (Int × Int)) : markCells l = l.flatMap markCell := rfl
abbrev MarksAt (w : World) (A : Option Addr) (n cap : Nat) (ms : List (Int × Int)) : Prop := ArgOf markCell 2 (fun _ => True) w A n cap ms

set_option maxRecDepth 100000 in
theorem clone_marks (A : Option Addr) (n cap : Nat) (ms : List (Int × Int)) (w : World) (hn : ms.length = n) (hb : n ≤ 2000000) (h : w.ownsRow 0 120 2 (.slice A n cap) n (markCells ms)) :
    Calls Try.prog 70 #[.slice A n cap] w fun e w' => ∃ A' cap', e = .returned (.slice A' n cap') ∧ MarksAt w' A' n cap' ms ∧ Below w.heap.size w w' := by
  obtain ⟨i0, hi, hz0, hz1, hz2⟩ := info_parts info_mark
  have qT : ∀ (w : World) (a : Option Addr) (n c n' c' : Nat), (binOp .eql 102 (.slice a n c) (.slice none n' c')).run Try.prog w = .ok (.bool a.isNone) w := fun w a n c n' c' => Lib.run_eql_slice_nil w _ _ a n c n' c' under_marks
  have HN := Lib.hid hn
  clear hn
  rcases h.2 with ⟨hv, h0⟩ | ⟨g, cap2, cur, hv, hlo, hh, h3, h4, h5, h6⟩
  · injection hv with e1 e2 e3
    subst e1 e3 h0
    clear h
    go_enter Try.func70, Try.ntmps70
    go_wp2
    go_ret
    refine ⟨none, 0, rfl, ?_, Below.refl _ _⟩
    rw [List.length_eq_zero_iff.1 HN.out]
    exact ArgOf.nil
  · injection hv with e1 e2 e3
    subst e1
    have hl := h.1
    have HX := Lib.hid (show ∀ j u, (markCells ms)[j]? = some u → w.cell? ((⟨g, 0, none⟩ : Addr).add j) = some u from fun j u hu => by
      rw [← h6, List.getElem?_take] at hu
      split at hu
      · exact World.news_of_block hh j u (by simpa using hu)
      · cases hu)
    have hone : ∀ u ∈ markCells ms, u.oneCell' = true := by
      intro u hu
      simp only [markCells, List.mem_flatMap] at hu
      obtain ⟨p, _, hp⟩ := hu
      simp at hp
      rcases hp with rfl | rfl <;> rfl
    have hgl : g < w.heap.size := (Array.getElem?_eq_some_iff.1 hh).1
    clear h hh h3 h4 h5 h6
    go_enter Try.func70, Try.ntmps70
    have hmade : (w.alloc (.cells #[] 120)).ownsRow w.heap.size 120 2 (.slice (some ⟨w.heap.size, 0, none⟩) 0 0) 0 [] := World.ownsRow_made w #[] 0 (Nat.le_refl _) (by unfold maxLen; omega) rfl
    go_wp2_with (at_builtin; refine wpList_append_own _ rfl (.tmp 5) (.tmp 6) 102 rfl w.heap.size 120 i0 _ 2 16 under_marks hi hz0 hz1 hz2 rfl (by decide) _ _ _ rfl hmade ⟨g, 0, none⟩ n cap (markCells ms) rfl ?c0 ?c1 ?c2 ?c3 ?c4 ?c5 ?_)
    case c1 =>
      intro j u hj
      have h1 := HX.out j u hj
      have hadd : (⟨g, 0, none⟩ : Addr).add j = ⟨g, j, none⟩ := by unfold Addr.add; split <;> simp_all
      rw [hadd] at h1
      exact h1
    case c2 => exact hone
    case c3 => unfold maxLen; omega
    case c4 => omega
    intro v' w1 hown hgrow hnil
    have hbel : Below w.heap.size w w1 := ((Below.refl _ _).alloc (Nat.le_refl _) _).grown hgrow (by simp) (fun k h => by simp [Value.ownBlock] at h; omega)
    obtain ⟨hr, hlo⟩ := Rows'.ofOwn hown
    rcases hr with ⟨rfl, _⟩ | ⟨g', cap', rfl, hrow⟩
    · exact absurd rfl hnil
    try simp only [Nat.zero_add, List.nil_append] at hrow
    have HM := Lib.hid (show MarksAt w1 (some ⟨g', 0, none⟩) n cap' ms from ArgOf.ofRow (cells := markCell) (fun _ => rfl) hrow HN.out (fun _ _ => trivial))
    clear hnil hown hgrow hmade hrow hl hone
    try simp only [Nat.zero_add]
    go_wp2
    go_ret
    exact ⟨_, cap', rfl, HM.out, hbel⟩

theorem t_marks (m c t : Nat) (μ : MemS) (s : TrS) (F : List Nat) (w : World) (h : TM w m c t μ s F) (hm : s.marks.length ≤ 2000000) :
    Calls Try.prog 54 #[.pointer (some ⟨t, 0, none⟩)] w fun e w' => ∃ A' cap', e = .returned (.slice A' s.marks.length cap') ∧ MarksAt w' A' s.marks.length cap' s.marks ∧ Below w.heap.size w w' := by
  obtain ⟨mA, mcap, c8, hown, -⟩ := h.marks
  have HC := Lib.hid (clone_marks mA s.marks.length mcap s.marks w rfl hm hown)
  clear hown
  go_enter Try.func54, Try.ntmps54
  go_wp2_with fail
  refine HC.out.mono ?_
  rintro e w' ⟨A', cap', rfl, hM, hb⟩
  have HM := Lib.hid hM
  clear hM
  go_wp2
  go_ret
  exact ⟨A', cap', rfl, HM.out, hb⟩

/-- One trail, and the chapter's thread, with the same marks. -/
def AlikeAt (w : World) (tg wb i : Nat) : Prop :=
  ∃ t m c μ s F A cap, w.cell? ⟨tg, i, none⟩ = some (.pointer (some ⟨t, 0, none⟩)) ∧ TM w m c t μ s F ∧ s.marks.length ≤ 2000000 ∧ w.cell? ⟨wb, i * 4 + 3, none⟩ = some (.slice A s.marks.length cap) ∧
    w.ownsRow 0 118 2 (.slice A s.marks.length cap) s.marks.length (markCells s.marks)
theorem AlikeAt.upd {w w' : World} {tg wb i : Nat} (h : AlikeAt w tg wb i) (hu : Upd [] w w') : AlikeAt w' tg wb i := by
  obtain ⟨t, m, c, μ, s, F, A, cap, h1, h2, h3, h4, h5⟩ := h
  exact ⟨t, m, c, μ, s, F, A, cap, (hu.cell (p := ⟨tg, i, none⟩) (World.block_lt_of_cell? w _ h1) (by simp)).trans h1, h2.upd hu (by simp) (by simp) (by simp), h3,
    (hu.cell (p := ⟨wb, i * 4 + 3, none⟩) (World.block_lt_of_cell? w _ h4) (by simp)).trans h4, ownsRow_upd h5 hu (by simp)⟩

theorem row_cells {w : World} {ty : TypeId} {A : Option Addr} {n cap : Nat} {ms : List (Int × Int)} (h : w.ownsRow 0 ty 2 (.slice A n cap) n (markCells ms)) {j : Nat} {p : Int × Int} (hp : ms[j]? = some p) :
    ∃ g, A = some ⟨g, 0, none⟩ ∧ g < w.heap.size ∧ w.cell? ⟨g, j * 2, none⟩ = some (.int .i64 p.1) ∧ w.cell? ⟨g, j * 2 + 1, none⟩ = some (.int .i64 p.2) := by
  obtain ⟨hr, -⟩ := Rows'.ofOwn h
  rcases hr with ⟨_, _, h0⟩ | ⟨g, cap', h1, hrow⟩
  · have := congrArg List.length h0
    rw [markCells_eq, flat_len (f := markCell) (z := 2) (fun _ => rfl)] at this
    have hj := (List.getElem?_eq_some_iff.1 hp).1
    simp at this
    omega
  · injection h1 with h1 h2 h3
    have e0 : (ms.flatMap markCell)[j * 2]? = some (.int .i64 p.1) := flat_get (f := markCell) (z := 2) (fun _ => rfl) ms j p 0 hp (by decide)
    have e1 := flat_get (f := markCell) (z := 2) (fun _ => rfl) ms j p 1 hp (by decide)
    exact ⟨g, h1, hrow.lt, hrow.cell (by rw [markCells_eq]; exact e0), hrow.cell (by rw [markCells_eq]; exact e1)⟩

set_option maxRecDepth 100000 in
set_option maxHeartbeats 1000000 in
theorem alike03 (k tg cap wb cap2 : Nat) (hk : k ≤ 1000) (w : World) (h : ∀ i, i < k → AlikeAt w tg wb i) :
    Calls Try.prog 32 #[.slice (some ⟨tg, 0, none⟩) k cap, .slice (some ⟨wb, 0, none⟩) k cap2] w fun e w' => e = .returned (.bool true) ∧ Below w.heap.size w w' := by
  have H := Lib.hid h
  clear h
  go_enter Try.func32, Try.ntmps32
  go_wp2_with fail
  go_loopw [5] (fun v wr => ∃ i : Nat, i ≤ k ∧ v = .int .i64 i ∧ Below w.heap.size w wr) (fun v _ => k - (intOf v).toNat)
  case atStart => exact ⟨0, Nat.zero_le _, rfl, Below.refl _ _⟩
  case round =>
    obtain ⟨i, hi, rfl, hb⟩ := hrel
    by_cases hlt : i < k
    · obtain ⟨t, m, c, μ, s, F, A, mcap, h1, h2, h3, h4, h5⟩ := (H.out i hlt).upd (Upd.of_below hb)
      have hii : (i : Int) < k := by omega
      have hii0 : (0 : Int) ≤ i := by omega
      have HT := Lib.hid (t_marks m c t μ s F wr h2 h3)
      have H5 := Lib.hid h5
      have h4l := World.block_lt_of_cell? wr _ h4
      simp only at h4l
      have HB := Lib.hid hb
      clear h2 h5 hb
      go_wp2_with fail
      refine HT.out.mono ?_
      rintro e w1 ⟨A', cap', rfl, hM, hb1⟩
      have HR := Lib.hid (fun (j : Nat) (p : Int × Int) (hp : s.marks[j]? = some p) => row_cells (ownsRow_upd H5.out (Upd.of_below hb1 (F := [])) (by simp)) hp)
      have h4' := (hb1.cell (p := ⟨wb, i * 4 + 3, none⟩) h4l).trans h4
      have HM := Lib.hid hM
      have HB1 := Lib.hid (below_then HB.out hb1 (Nat.le_refl _))
      obtain ⟨n, hn⟩ : ∃ n, s.marks.length = n := ⟨_, rfl⟩
      rw [hn] at h3 h4' HM
      rw [hn]
      have HNN := Lib.hid hn
      clear hM hb1 h1 h4 HT H5 HB hn
      have gnn : ((n : Int) != n) = false := by simp
      go_wp2_with fail
      go_loopw [7] (fun v wq => ∃ j : Nat, j ≤ n ∧ v = .int .i64 j ∧ ∃ q, wq = w1.drewN q) (fun v _ => n - (intOf v).toNat)
      case atStart => exact ⟨0, Nat.zero_le _, rfl, 0, rfl⟩
      case round =>
        obtain ⟨j, hj, rfl, q, rfl⟩ := hrel
        by_cases hltj : j < n
        · obtain ⟨g, go, p, rfl, -, hp, -, hac⟩ := HM.out.at_ hltj
          obtain ⟨g2, rfl, hg2, e0, e1⟩ := HR.out j p hp
          have d0 := hac 0 _ rfl
          have d1 := hac 1 _ rfl
          simp only [Nat.add_zero] at d0
          have hji : (j : Int) < n := by omega
          have hji0 : (0 : Int) ≤ j := by omega
          have g0 : (p.1 != p.1) = false := by simp
          have g1 : (p.2 != p.2) = false := by simp
          clear hac hp
          go_wp2_with fail
          go_quiet (fail)
          go_wp2
          go_roundw
          case rel => exact ⟨j + 1, by omega, by go_num, _, rfl⟩
          case measure => simp [intOf]; omega
        · obtain rfl : j = n := by omega
          go_wp2
          go_roundw
          case rel => exact ⟨i + 1, by omega, by go_num, HB1.out.os, HB1.out.tape, HB1.out.output, HB1.out.size, HB1.out.block⟩
          case measure => simp [intOf]; omega
    · obtain rfl : i = k := by omega
      go_wp2
      go_ret
      exact ⟨rfl, hb⟩

theorem ref_row {w : World} {r g : Nat} {μ : MemS} (h : RefAt w r g μ) {j : Nat} (hj : j < μ.cells.length) : ∃ cap, w.cell? ⟨r, 0, none⟩ = some (.slice (some ⟨g, 0, none⟩) μ.cells.length cap) ∧ w.cell? ⟨g, j, none⟩ = some (.int .i64 (μ.cells.getD j 0)) := by
  obtain ⟨A, cap, hb, h⟩ := h
  rcases h with ⟨_, h0, _⟩ | ⟨rfl, hr⟩
  · rw [h0] at hj; simp at hj
  · exact ⟨cap, hb.at_ rfl, hr.cell (by rw [List.getElem?_map, List.getElem?_eq_getElem hj, List.getD_eq_getElem?_getD, List.getElem?_eq_getElem hj]; rfl)⟩
theorem ref_len {w : World} {r g : Nat} {μ : MemS} (h : RefAt w r g μ) : ∃ A cap, w.cell? ⟨r, 0, none⟩ = some (.slice A μ.cells.length cap) := by
  obtain ⟨A, cap, hb, h⟩ := h
  exact ⟨A, cap, hb.at_ rfl⟩

set_option maxRecDepth 100000 in
set_option maxHeartbeats 1000000 in
theorem cells20_03 (m c r g : Nat) (μ : MemS) (w : World) (hm : MemAt w m c μ) (hr : RefAt w r g μ) (hl : μ.cells.length ≤ 100) :
    Calls Try.prog 33 #[.pointer (some ⟨m, 0, none⟩), .pointer (some ⟨r, 0, none⟩)] w fun e w' => e = .returned (.bool true) ∧ Below w.heap.size w w' := by
  have hall : μ.look 0 100 = μ.cells := by unfold MemS.look; rw [show (0 : Int).toNat = 0 from rfl, show (100 : Int).toNat = 100 from rfl, List.drop_zero, List.take_of_length_le hl]
  have HL := Lib.hid (cell_look_as m c μ 0 100 μ.cells μ.cells.length hall rfl w hm)
  clear hall
  obtain ⟨n, hn⟩ : ∃ n, μ.cells.length = n := ⟨_, rfl⟩
  have HR := Lib.hid hr
  have HN := Lib.hid hn
  rw [hn] at HL hl
  clear hr hn hm
  go_enter Try.func33, Try.ntmps33
  go_wp2_with fail
  refine HL.out.mono ?_
  rintro e w1 ⟨g', cap', rfl, -, hrow, hb⟩
  have HR1 := Lib.hid (HR.out.upd (Upd.of_below hb (F := [])) (by simp) (by simp))
  have HROW := Lib.hid hrow
  have HB := Lib.hid hb
  clear hrow hb HR HL
  go_wp2_with fail
  go_loopw [6] (fun v wq => ∃ j : Nat, j ≤ n ∧ v = .int .i64 j ∧ ∃ q, wq = w1.drewN q) (fun v _ => n - (intOf v).toNat)
  case atStart => exact ⟨0, Nat.zero_le _, rfl, 0, rfl⟩
  case round =>
    obtain ⟨j, hj, rfl, q, rfl⟩ := hrel
    by_cases hlt : j < n
    · have hjl : j < μ.cells.length := by have := HN.out; omega
      obtain ⟨cap2, c0, c1⟩ := ref_row HR1.out hjl
      rw [HN.out] at c0
      have d0 := HROW.out.cell (j := j) (u := .int .i64 (μ.cells.getD j 0)) (by rw [List.getElem?_map, List.getElem?_eq_getElem hjl, List.getD_eq_getElem?_getD, List.getElem?_eq_getElem hjl]; rfl)
      generalize μ.cells.getD j 0 = x at *
      have hji : (j : Int) < n := by omega
      have hji0 : (0 : Int) ≤ j := by omega
      have g0 : (x != x) = false := by simp
      clear hjl
      go_wp2_with fail
      go_quiet (fail)
      go_wp2
      go_roundw
      case rel => exact ⟨j + 1, by omega, by go_num, _, rfl⟩
      case measure => simp [intOf]; omega
    · obtain rfl : j = n := by omega
      obtain ⟨A, cap2, c0⟩ := ref_len HR1.out
      rw [HN.out] at c0
      have g0 : ((j : Int) == j) = true := by simp
      go_wp2
      go_ret
      exact ⟨rfl, HB.out.os, HB.out.tape, HB.out.output, HB.out.size, HB.out.block⟩
end Go.Proofs.Ytcphidmfdakbeaa
