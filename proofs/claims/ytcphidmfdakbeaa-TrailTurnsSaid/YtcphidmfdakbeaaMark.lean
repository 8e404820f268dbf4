/- The trail's Mark and Marks. -/
import Derived.Test.YtcphidmfdakbeaaDoes
import Derived.Deep.RegionLaw
import Derived.Deep.RegionHeld3
import Derived.Deep.AppendLies
namespace Go.Proofs.Ytcphidmfdakbeaa
open Go.RowKit

theorem TM.marked {w w4 : World} {m c t g cap' : Nat} {μ : MemS} {s : TrS} {F : List Nat} {mA : Option Addr} {mcap : Nat} {v : Int × Int} (h : TM w m c t μ s F) (hmA : w.cell? ⟨t, 8, none⟩ = some (.slice mA s.marks.length mcap)) (o : Obj)
    (hown : w4.ownsRow 0 120 2 (.slice (some ⟨g, 0, none⟩) (s.marks.length + 1) cap') (s.marks.length + 1) (markCells s.marks ++ [.int .i64 v.1, .int .i64 v.2]))
    (hg : (w.alloc o).grownBy w4 (Value.slice mA s.marks.length mcap).ownBlock) (hat : (Value.slice (some ⟨g, 0, none⟩) (s.marks.length + 1) cap').ownBlock = (Value.slice mA s.marks.length mcap).ownBlock ∨ (Value.slice (some ⟨g, 0, none⟩) (s.marks.length + 1) cap').ownBlock = some (w.alloc o).heap.size) :
    ∃ F', TM (w4.setCell ⟨t, 8, none⟩ (.slice (some ⟨g, 0, none⟩) (s.marks.length + 1) cap')) m c t μ { s with marks := s.marks ++ [v] } F' ∧ (∀ b ∈ F', b ∈ F ∨ w.heap.size ≤ b) ∧ Upd (m :: c :: F) w (w4.setCell ⟨t, 8, none⟩ (.slice (some ⟨g, 0, none⟩) (s.marks.length + 1) cap')) ∧ w4.cell? ⟨t, 8, none⟩ = some (.slice mA s.marks.length mcap) ∧ w4.frozen? ⟨t, 8, none⟩ = false := by
  obtain ⟨tA, tcap, mA', mcap', hb, h2, h1, hF⟩ := h.blk
  have e := hmA.symm.trans (hb.at_ (i := 8) rfl)
  simp only [trCells, List.getElem_toArray, List.getElem_cons_succ, List.getElem_cons_zero, Option.some.injEq, Value.slice.injEq, true_and] at e
  obtain ⟨rfl, rfl⟩ := e
  have hrow : ∀ b, some b = (Value.slice mA s.marks.length mcap).ownBlock → b ∈ F ∧ b ≠ t := by
    intro b hb'
    cases mA with
    | none => simp [Value.ownBlock] at hb'
    | some a =>
      simp [Value.ownBlock] at hb'
      subst hb'
      exact ⟨by rw [hF]; simp [blockOf], fun e => blk_notin h1 hb (by decide) (by simp [blockOf, e])⟩
  have hgF : g ∈ F ∨ w.heap.size < g + 1 := by
    rcases hat with hat | hat
    · exact .inl (hrow g (by simpa [Value.ownBlock] using hat)).1
    · simp [Value.ownBlock] at hat
      omega
  have hmem := mem_grown (h.mem.alloc o) hg (fun e => h.hm (hrow m e).1) (fun e => h.hc (hrow c e).1)
  have hbt := (hb.alloc o).grown hg (fun e => (hrow t e).2 rfl)
  have h2' := (h2.alloc o).kept hg (rows_apart h2 h1 (by decide))
  have et : t ≠ m := fun e => h.hm (by rw [← e]; exact h.tF)
  have ec : t ≠ c := fun e => h.hc (by rw [← e]; exact h.tF)
  have hu : Upd (m :: c :: F) w w4 := ((Upd.refl _ _).alloc o).grown hg (fun b hb => .inl (by simp [(hrow b hb.symm).1]))
  refine ⟨t :: (blockOf tA ++ blockOf (some ⟨g, 0, none⟩)), ⟨hmem.far (p := ⟨t, 8, none⟩) et ec _, ⟨tA, tcap, some ⟨g, 0, none⟩, cap', ⟨?_, ?_, ?_⟩, rfl⟩, ?_, ?_⟩, ?_, hu.put (.inl (by simp [h.tF])) _, hbt.at_ rfl, hbt.free 8⟩
  · have := hbt.put 8 (.slice (some ⟨g, 0, none⟩) (s.marks.length + 1) cap')
    simpa [trCells] using this
  · exact ownsRow_far h2' (p := ⟨t, 8, none⟩) (blk_notin h2' hbt (by decide)) _
  · have := ownsRow_far hown (p := ⟨t, 8, none⟩) (blk_notin hown hbt (by decide)) (.slice (some ⟨g, 0, none⟩) (s.marks.length + 1) cap')
    simpa [markCells] using this
  · intro hin
    simp only [blockOf_some, List.mem_cons, List.mem_append, List.not_mem_nil, or_false] at hin
    rcases hin with e | e | e
    · exact et e.symm
    · exact h.hm (by rw [hF]; simp [e])
    · subst e
      rcases hgF with hh | hh
      · exact h.hm hh
      · have := h.mem.1.lt
        omega
  · intro hin
    simp only [blockOf_some, List.mem_cons, List.mem_append, List.not_mem_nil, or_false] at hin
    rcases hin with e | e | e
    · exact ec e.symm
    · exact h.hc (by rw [hF]; simp [e])
    · subst e
      rcases hgF with hh | hh
      · exact h.hc hh
      · have := h.mem.2.1.lt
        omega
  · intro b hin
    simp only [blockOf_some, List.mem_cons, List.mem_append, List.not_mem_nil, or_false] at hin
    rcases hin with rfl | e | rfl
    · exact .inl h.tF
    · exact .inl (by rw [hF]; simp [e])
    · rcases hgF with hh | hh
      · exact .inl hh
      · exact .inr (by omega)

theorem info_mark : (Try.prog.info? 120).map (fun i => (i.zero, i.size, i.bytes)) = some (some (.agg #[.int .i64 0, .int .i64 0]), 2, 16) := by kernel_rfl
theorem under_marks : Try.prog.underlying 102 = some (.slice 120) := by kernel_rfl
set_option maxRecDepth 100000 in
theorem t_mark (kind : Int) (m c t : Nat) (μ : MemS) (s : TrS) (F : List Nat) (w : World) (h : TM w m c t μ s F) (ho : s.marks.length ≤ 1000000) :
    Calls Try.prog 50 #[.pointer (some ⟨t, 0, none⟩), .int .i64 kind] w fun e w' => e = .returned (.tuple #[]) ∧ TMs w w' m c t μ (s.mark kind) F := by
  have c4 := h.c4
  have c5 := h.c5
  cases hf : s.fresh with
  | false =>
    have hfin : TMs w w m c t μ (s.mark kind) F := by unfold TrS.mark; rw [if_neg (by simp [hf])]; exact TMs.refl h
    rw [hf] at c5
    have HF := Lib.hid hfin
    clear hf hfin h
    go_enter Try.func50, Try.ntmps50
    go_wp2
    go_end0
    exact ⟨rfl, HF.out⟩
  | true =>
    rw [hf] at c5
    cases hd : s.dry with
    | true =>
      have hfin : TMs w w m c t μ (s.mark kind) F := by unfold TrS.mark; rw [if_neg (by simp [hd])]; exact TMs.refl h
      rw [hd] at c4
      have HF := Lib.hid hfin
      clear hf hd hfin h
      go_enter Try.func50, Try.ntmps50
      go_wp2
      go_end0
      exact ⟨rfl, HF.out⟩
    | false =>
      rw [hd] at c4
      have HM := Lib.hid (show s.mark kind = { s with marks := s.marks ++ [(kind, s.time)] } by unfold TrS.mark; rw [if_pos ⟨hf, hd⟩])
      clear hf hd
      obtain ⟨mA, mcap, c8, hown, hmb⟩ := h.marks
      have c7 := h.c7
      obtain ⟨i0, hi, hz0, hz1, hz2⟩ := info_parts info_mark
      have H := Lib.hid h
      clear h
      go_enter Try.func50, Try.ntmps50
      go_upto_region 1 with fail
      have ag : (Value.slice mA s.marks.length mcap).ownBlock ≠ some t := by
        intro e
        cases mA with
        | none => simp [Value.ownBlock] at e
        | some a => simp [Value.ownBlock] at e; exact (hmb a.block (by simp [blockOf])).2 e
      have hf8 : ((w.alloc (.cells #[.int .i64 kind, .int .i64 s.time] 120)).drew).frozen? ⟨t, 8, none⟩ = false := (H.out.alloc _).free 8
      have hc8 : ((w.alloc (.cells #[.int .i64 kind, .int .i64 s.time] 120)).drew).cell? ⟨t, 8, none⟩ = some (.slice mA s.marks.length mcap) := ((Upd.refl [] w).alloc _).cell (p := ⟨t, 8, none⟩) (H.out.lt t (by simp [H.out.tF])) (by simp) |>.trans c8
      have lt := H.out.lt t (by simp [H.out.tF])
      go_region_law
        ((refine step_append_lies _ (by rfl) _ _ _ (by rfl) 0 120 i0 _ 2 16 under_marks hi hz0 hz1 hz2 rfl (by omega) (.slice mA s.marks.length mcap) s.marks.length (markCells s.marks) (by rfl) ((hown.alloc _).drew)
            ⟨w.heap.size, 0, none⟩ 1 1 [.int .i64 kind, .int .i64 s.time] (by rfl) (by rfl) (World.news_of_block (cs := #[.int .i64 kind, .int .i64 s.time]) (t := 120) (fr := (0, 0)) (heap_alloc_new w _)) (by simp [Value.oneCell'])
            (by omega) (by unfold maxLen; omega) (by omega) (by simp) (w.heap.size + 1) (by simp) ?_; intro g cap' w4 hown' hgrow hat hlt; have f8 : w4.frozen? ⟨t, 8, none⟩ = false := (hgrow.frozen_far ⟨t, 8, none⟩ (by simp; omega) (Ne.symm ag)).trans hf8; have c8' : w4.cell? ⟨t, 8, none⟩ = some (.slice mA s.marks.length mcap) := (hgrow.cell_far ⟨t, 8, none⟩ (by simp; omega) (Ne.symm ag)).trans hc8))
      all_goals
        obtain ⟨F', h5, hF5, hu5, -, -⟩ := TM.marked (w := w.drew) (v := (kind, s.time)) (H.out.drewN 1) c8 (.cells #[.int .i64 kind, .int .i64 s.time] 120) hown' hgrow (by
          rcases hat with h | h
          · left; rw [h]; rfl
          · right; simp [Value.ownBlock, h])
        have HH := Lib.hid (show TMs w (w4.setCell ⟨t, 8, none⟩ (.slice (some ⟨g, 0, none⟩) (s.marks.length + 1) cap')) m c t μ (s.mark kind) F by
          rw [HM.out]
          exact ⟨F', h5, hF5, (Upd.drew (Upd.refl _ _)).trans hu5⟩)
        clear h5 hF5 hu5 hown' hgrow hat hlt f8 c8'
        go_wp2
        go_end0
        exact ⟨rfl, HH.out⟩

/-- A mark, as a task. -/
def markR (kind : Int) : Res MemS Unit := .mark kind (.ret ())
theorem d_mark (kind : Int) (m c t : Nat) (μ : MemS) (s : TrS) (F : List Nat) (w : World) (h : TM w m c t μ s F) (ho : s.marks.length ≤ 1000000) :
    Calls Try.prog 50 #[.pointer (some ⟨t, 0, none⟩), .int .i64 kind] w (Does w m c t μ s F (markR kind) fun _ => .tuple #[]) :=
  (t_mark kind m c t μ s F w h ho).mono fun _ _ ⟨he, ht⟩ => ⟨(), _, _, he, Sim.refl _, ht⟩
end Go.Proofs.Ytcphidmfdakbeaa
