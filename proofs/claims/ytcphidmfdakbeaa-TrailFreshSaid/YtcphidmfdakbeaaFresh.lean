/- TrailFresh, walked: of all accesses each is fresh in one step, and once. -/
import Derived.Test.YtcphidmfdakbeaaLaw03
import Derived.Deep.RegionLaw
import Derived.Deep.AppendLies
namespace Go.Proofs.Ytcphidmfdakbeaa
open Go.RowKit
set_option linter.unusedSimpArgs false
set_option linter.unusedVariables false

/-- The trail, behind i loads of a step ahead of which k were remembered. -/
def fr (k i : Nat) (time : Int) : TrS :=
  if i ≤ k then ⟨List.replicate k 0, i, false, false, false, false, time, []⟩
  else if i = k + 1 then ⟨List.replicate (k + 1) 0, k + 1, true, false, true, false, time, []⟩
  else ⟨List.replicate (k + 1) 0, k + 1, true, true, false, false, time, []⟩
def frM (cnt : Int) : MemS := ⟨[0, 0, 0], cnt⟩
theorem fr_acc (k i : Nat) (hk : k < 3) (hi : i < 3) (time cnt : Int) : ∃ cnt', (fr k i time).acc (dLoad i) (frM cnt) = (0, frM cnt', fr k (i + 1) time) := by
  rcases (show k = 0 ∨ k = 1 ∨ k = 2 by omega) with rfl | rfl | rfl <;> rcases (show i = 0 ∨ i = 1 ∨ i = 2 by omega) with rfl | rfl | rfl <;> first | exact ⟨cnt, rfl⟩ | exact ⟨wrap64 (cnt + 1), rfl⟩
theorem fr_fresh (k i : Nat) (hk : k < 3) (hi : i < 3) (time : Int) : (fr k (i + 1) time).fresh = decide (i = k) := by
  rcases (show k = 0 ∨ k = 1 ∨ k = 2 by omega) with rfl | rfl | rfl <;> rcases (show i = 0 ∨ i = 1 ∨ i = 2 by omega) with rfl | rfl | rfl <;> rfl
theorem fr_ok (k i : Nat) (hk : k < 3) (hi : i ≤ 3) (time : Int) : (fr k i time).Ok := by
  unfold fr
  split
  · exact ⟨by simp only [List.length_replicate]; omega, by simp only [List.length_replicate]; omega⟩
  · split
    · exact ⟨by simp only [List.length_replicate]; omega, by simp only [List.length_replicate]; omega⟩
    · exact ⟨by simp only [List.length_replicate]; omega, by simp only [List.length_replicate]; omega⟩
def upTo (n : Nat) : List Value := (List.range n).map fun (i : Nat) => .int .i64 (i : Int)
theorem upTo_succ (n : Nat) : upTo (n + 1) = upTo n ++ [.int .i64 (n : Int)] := by simp [upTo, List.range_succ]
theorem info_int : (Try.prog.info? 3).map (fun i => (i.zero, i.size, i.bytes)) = some (some (.int .i64 0), 1, 8) := by kernel_rfl

/-- What lies where, in a step of the task. -/
structure Seen (w0 w : World) (m c t sb : Nat) (F0 : List Nat) (A0 : Option Addr) (cnt : Int) (s : TrS) (F : List Nat) (A : Option Addr) (n cap : Nat) : Prop where
  tm : TM w m c t (frM cnt) s F
  blk : Blk w sb 44 #[.slice A n cap]
  row : w.ownsRow 0 3 1 (.slice A n cap) n (upTo n)
  far : sb ∉ m :: c :: F
  apart : ∀ b ∈ blockOf A, b ∉ m :: c :: F
  sub : ∀ b ∈ F, b ∈ F0 ∨ w0.heap.size ≤ b
  subA : ∀ b ∈ blockOf A, b ∈ blockOf A0 ∨ w0.heap.size ≤ b
  upd : Upd (sb :: (blockOf A0 ++ (m :: c :: F0))) w0 w
theorem Seen.sbA {w0 w : World} {m c t sb : Nat} {F0 : List Nat} {A0 : Option Addr} {cnt : Int} {s : TrS} {F : List Nat} {A : Option Addr} {n cap : Nat} (h : Seen w0 w m c t sb F0 A0 cnt s F A n cap) : sb ∉ blockOf A := blk_notin h.row h.blk (by decide)
theorem Seen.alloc {w0 w : World} {m c t sb : Nat} {F0 : List Nat} {A0 : Option Addr} {cnt : Int} {s : TrS} {F : List Nat} {A : Option Addr} {n cap : Nat} (h : Seen w0 w m c t sb F0 A0 cnt s F A n cap) (o : Obj) : Seen w0 (w.alloc o) m c t sb F0 A0 cnt s F A n cap :=
  ⟨h.tm.alloc o, h.blk.alloc o, h.row.alloc o, h.far, h.apart, h.sub, h.subA, h.upd.alloc o⟩
theorem Seen.drew {w0 w : World} {m c t sb : Nat} {F0 : List Nat} {A0 : Option Addr} {cnt : Int} {s : TrS} {F : List Nat} {A : Option Addr} {n cap : Nat} (h : Seen w0 w m c t sb F0 A0 cnt s F A n cap) : Seen w0 w.drew m c t sb F0 A0 cnt s F A n cap :=
  ⟨h.tm.drewN 1, h.blk.drew, h.row, h.far, h.apart, h.sub, h.subA, h.upd.drew⟩
theorem Seen.moves {w0 w w' : World} {m c t sb : Nat} {F0 : List Nat} {A0 : Option Addr} {cnt cnt' : Int} {s s' : TrS} {F : List Nat} {A : Option Addr} {n cap : Nat} (h : Seen w0 w m c t sb F0 A0 cnt s F A n cap) (hs : TMs w w' m c t (frM cnt') s' F) : ∃ F', Seen w0 w' m c t sb F0 A0 cnt' s' F' A n cap ∧ (∀ b ty cs, Blk w b ty cs → b ∉ m :: c :: F → Blk w' b ty cs ∧ b ∉ m :: c :: F') := by
  obtain ⟨F', ht, hF, hu⟩ := hs
  have key : ∀ b, b < w.heap.size → b ∉ m :: c :: F → b ∉ m :: c :: F' := by
    intro b hlt hn hin
    simp only [List.mem_cons, not_or] at hin hn
    rcases hin with e | e | e
    · exact hn.1 e
    · exact hn.2.1 e
    · rcases hF b e with h | h
      · exact hn.2.2 h
      · omega
  refine ⟨F', ⟨ht, h.blk.upd hu h.far, ownsRow_upd h.row hu h.apart, key _ h.blk.lt h.far, fun b hb => key b (ownsRow_blockLt h.row b hb) (h.apart b hb), fun b hb => ?_, h.subA, h.upd.trans_new hu fun b hb => ?_⟩, fun b ty cs hb hbF => ⟨hb.upd hu hbF, key b hb.lt hbF⟩⟩
  · rcases hF b hb with h' | h'
    · exact h.sub b h'
    · exact .inr (Nat.le_trans h.upd.size h')
  · simp only [List.mem_cons] at hb
    rcases hb with e | e | e
    · exact .inl (by simp [e])
    · exact .inl (by simp [e])
    · rcases h.sub b e with h' | h'
      · exact .inl (by simp [h'])
      · exact .inr h'

theorem Seen.appended {w0 w w4 : World} {m c t sb : Nat} {F0 : List Nat} {A0 : Option Addr} {cnt : Int} {s : TrS} {F : List Nat} {A : Option Addr} {n cap : Nat} (h : Seen w0 w m c t sb F0 A0 cnt s F A n cap) (o : Obj) {g cap' : Nat}
    (hown : w4.ownsRow 0 3 1 (.slice (some ⟨g, 0, none⟩) (n + 1) cap') (n + 1) (upTo n ++ [.int .i64 (n : Int)])) (hg : (w.alloc o).grownBy w4 (Value.slice A n cap).ownBlock)
    (hat : (Value.slice (some ⟨g, 0, none⟩) (n + 1) cap').ownBlock = (Value.slice A n cap).ownBlock ∨ (Value.slice (some ⟨g, 0, none⟩) (n + 1) cap').ownBlock = some (w.heap.size + 1)) :
    Seen w0 (w4.setCell ⟨sb, 0, none⟩ (.slice (some ⟨g, 0, none⟩) (n + 1) cap')) m c t sb F0 A0 cnt s F (some ⟨g, 0, none⟩) (n + 1) cap' ∧
      (∀ b ty cs, Blk w b ty cs → b ∉ sb :: blockOf A → Blk (w4.setCell ⟨sb, 0, none⟩ (.slice (some ⟨g, 0, none⟩) (n + 1) cap')) b ty cs) := by
  have hu1 : Upd (blockOf A) w w4 := ((Upd.refl _ _).alloc o).grown hg (fun b hb => by
    cases A with
    | none => simp [Value.ownBlock] at hb
    | some a => simp [Value.ownBlock] at hb; exact .inl (by simp [blockOf, hb]))
  have hu2 : Upd [sb] w4 (w4.setCell ⟨sb, 0, none⟩ (.slice (some ⟨g, 0, none⟩) (n + 1) cap')) := (Upd.refl _ _).put (.inl (by simp)) _
  have hgA : g ∈ blockOf A ∨ g = w.heap.size + 1 := by
    rcases hat with e | e
    · left
      cases A with
      | none => simp [Value.ownBlock] at e
      | some a => simp [Value.ownBlock] at e; simp [blockOf, e]
    · right
      simpa [Value.ownBlock] using e
  have hsb := h.sbA
  have hfar := h.far
  have hgs : g ≠ sb := by
    rcases hgA with e | e
    · rintro rfl; exact hsb e
    · have := h.blk.lt; omega
  have t1 := h.tm.upd hu1 (fun hin => h.apart m hin (by simp)) (fun hin => h.apart c hin (by simp)) (fun b hb hin => h.apart b hin (by simp [hb]))
  have t2 := t1.upd hu2 (by simp only [List.mem_singleton]; rintro rfl; exact hfar (by simp)) (by simp only [List.mem_singleton]; rintro rfl; exact hfar (by simp)) (fun b hb => by simp only [List.mem_singleton]; rintro rfl; exact hfar (by simp [hb]))
  refine ⟨⟨t2, ?_, ?_, hfar, fun b hb => ?_, h.sub, fun b hb => ?_, ?_⟩, fun b ty cs hb hbn => ?_⟩
  · have := (h.blk.upd hu1 hsb).put 0 (.slice (some ⟨g, 0, none⟩) (n + 1) cap')
    simpa using this
  · rw [upTo_succ]
    exact ownsRow_upd hown hu2 (by simp [blockOf, hgs])
  · simp [blockOf] at hb
    subst hb
    rcases hgA with e | e
    · exact h.apart _ e
    · intro hin
      have := h.tm.lt _ hin
      omega
  · simp [blockOf] at hb
    subst hb
    rcases hgA with e | e
    · exact h.subA _ e
    · have := h.upd.size
      exact .inr (by omega)
  · refine h.upd.trans_new ((hu1.mono (G := sb :: blockOf A) (by intro b hb; simp [hb])).trans (hu2.mono (by simp))) fun b hb => ?_
    simp only [List.mem_cons] at hb
    rcases hb with e | e
    · exact .inl (by simp [e])
    · rcases h.subA b e with h' | h'
      · exact .inl (by simp [h'])
      · exact .inr h'
  · simp only [List.mem_cons, not_or] at hbn
    exact (hb.upd hu1 hbn.2).upd hu2 (by simp [hbn.1])

set_option maxRecDepth 100000 in
set_option maxHeartbeats 1000000 in
theorem fresher_run (k : Nat) (hk : k < 3) (time : Int) (m c t sb : Nat) (F0 : List Nat) (A0 : Option Addr) (cap0 : Nat) (cnt0 : Int) (w : World) (h : Seen w w m c t sb F0 A0 cnt0 (fr k 0 time) F0 A0 k cap0) :
    Calls Try.prog 27 #[.agg #[.pointer (some ⟨sb, 0, none⟩)], .pointer (some ⟨t, 0, none⟩)] w fun e w' =>
      e = .returned (.tuple #[]) ∧ ∃ cnt F A cap, Seen w w' m c t sb F0 A0 cnt (fr k 3 time) F A (k + 1) cap := by
  obtain ⟨i0, hi, hz0, hz1, hz2⟩ := info_parts info_int
  have hB := Blk.new w 47 #[.pointer (some ⟨sb, 0, none⟩)]
  have h1 := h.alloc (.cells #[.pointer (some ⟨sb, 0, none⟩)] 47)
  have hbF : w.heap.size ∉ m :: c :: F0 := fun hin => by have := h.tm.lt _ hin; omega
  go_enter Try.func27, Try.ntmps27
  go_upto_region 2 with fail
  generalize w.alloc (.cells #[.pointer (some ⟨sb, 0, none⟩)] 47) = w1 at *
  obtain ⟨b, hb⟩ : ∃ b, w.heap.size = b := ⟨_, rfl⟩
  rw [hb] at hB hbF
  rw [hb]
  have HB0 := Lib.hid hb
  clear hb
  go_loopw [4] (fun v wr => ∃ (i : Nat) (cnt : Int) (F : List Nat) (A : Option Addr) (n cap : Nat), i ≤ 3 ∧ v = .int .i64 i ∧ n = (if i ≤ k then k else k + 1) ∧ Seen w wr m c t sb F0 A0 cnt (fr k i time) F A n cap ∧ Blk wr b 47 #[.pointer (some ⟨sb, 0, none⟩)] ∧ b ∉ m :: c :: F) (fun v _ => 3 - (intOf v).toNat)
  case atStart => exact ⟨0, cnt0, F0, A0, k, cap0, by decide, rfl, by simp, h1, hB, hbF⟩
  case round =>
    clear h1 hB hbF h
    obtain ⟨i, cnt, F, A, n, cap, hi3, rfl, hn, hS, hB, hbF⟩ := hrel
    by_cases hlt : i < 3
    · have hii : (i : Int) < 3 := by omega
      obtain ⟨cnt', hacc⟩ := fr_acc k i hk hlt time cnt
      have hfr := fr_fresh k i hk hlt time
      have HL := Lib.hid (t_load m c t _ _ F (i : Int) wr hS.tm (fr_ok k i hk hi3 time))
      rw [hacc] at HL
      have HS := Lib.hid hS
      have HB := Lib.hid hB
      have HN := Lib.hid hn
      clear hacc hS hB hn
      go_wp2_with fail
      refine HL.out.mono ?_
      rintro e w2 ⟨rfl, hms⟩
      obtain ⟨F2, hS2, hk2⟩ := HS.out.moves hms
      obtain ⟨hB2, hbF2⟩ := hk2 _ _ _ HB.out hbF
      have HS2 := Lib.hid hS2
      have HB2 := Lib.hid hB2
      have HFR := Lib.hid hfr
      clear hms hk2 HL hS2 hB2 hfr HS HB hbF
      go_wp2_with fail
      refine (t_fresh m c t _ _ _ _ HS2.out.tm).mono ?_
      rw [HFR.out]
      rintro e w3 ⟨rfl, rfl⟩
      by_cases hik : i = k
      · subst hik
        have hn2 : n = i := by rw [HN.out, if_pos (Nat.le_refl _)]
        subst hn2
        rw [show decide (n = n) = true from decide_eq_true rfl]
        have q0 := HB2.out.at_ (i := 0) rfl
        have q1 := HS2.out.blk.at_ (i := 0) rfl
        simp only [List.getElem_toArray, List.getElem_cons_zero] at q0 q1
        have hown := HS2.out.row
        have hlt2 := HS2.out.blk.lt
        have hltb := HB2.out.lt
        have ag : (Value.slice A n cap).ownBlock ≠ some sb := by
          intro e
          cases A with
          | none => simp [Value.ownBlock] at e
          | some a => simp [Value.ownBlock] at e; exact HS2.out.sbA (by simp [blockOf, e])
        have agb : (Value.slice A n cap).ownBlock ≠ some b := by
          intro e
          cases A with
          | none => simp [Value.ownBlock] at e
          | some a => simp [Value.ownBlock] at e; exact blk_notin hown HB2.out (by decide) (by simp [blockOf, e])
        have hb8 : ((w2.alloc (.cells #[.int .i64 (n : Int)] 3)).drew).cell? ⟨b, 0, none⟩ = some (.pointer (some ⟨sb, 0, none⟩)) := (HB2.out.alloc _).at_ rfl
        have hf8 : ((w2.alloc (.cells #[.int .i64 (n : Int)] 3)).drew).frozen? ⟨sb, 0, none⟩ = false := (HS2.out.blk.alloc _).free 0
        have hc8 : ((w2.alloc (.cells #[.int .i64 (n : Int)] 3)).drew).cell? ⟨sb, 0, none⟩ = some (.slice A n cap) := (HS2.out.blk.alloc _).at_ rfl
        clear hii
        go_upto_region 6 with fail
        go_region_law
          ((refine step_append_lies _ (by rfl) _ _ _ (by rfl) 0 3 i0 _ 1 8 Try.underlying44 hi hz0 hz1 hz2 rfl (by omega) (.slice A n cap) n (upTo n) (by rfl) ((hown.alloc _).drew)
              ⟨w2.heap.size, 0, none⟩ 1 1 [.int .i64 (n : Int)] (by rfl) (by rfl) (World.news_of_block (cs := #[.int .i64 (n : Int)]) (t := 3) (fr := (0, 0)) (heap_alloc_new w2 _)) (by simp [Value.oneCell'])
              (by omega) (by unfold maxLen; omega) (by omega) (by simp) (w2.heap.size + 1) (by simp) ?_; intro g cap' w4 hown' hgrow hat hlt'; have f8 : w4.frozen? ⟨sb, 0, none⟩ = false := (hgrow.frozen_far ⟨sb, 0, none⟩ (by simp; omega) (Ne.symm ag)).trans hf8; have c8' : w4.cell? ⟨sb, 0, none⟩ = some (.slice A n cap) := (hgrow.cell_far ⟨sb, 0, none⟩ (by simp; omega) (Ne.symm ag)).trans hc8; have b8 : w4.cell? ⟨b, 0, none⟩ = some (.pointer (some ⟨sb, 0, none⟩)) := (hgrow.cell_far ⟨b, 0, none⟩ (by simp; omega) (Ne.symm agb)).trans hb8))
        all_goals
          obtain ⟨hS5, hk5⟩ := Seen.appended HS2.out.drew (.cells #[.int .i64 (n : Int)] 3) hown' hgrow (by
            rcases hat with h | h
            · left; rw [h]; rfl
            · right; simp [Value.ownBlock, h])
          have hB5 := hk5 _ _ _ HB2.out.drew (by
            simp only [List.mem_cons, not_or]
            exact ⟨fun e => by subst e; exact absurd (HB2.out.inj HS2.out.blk).1 (by decide), blk_notin hown HB2.out (by decide)⟩)
          have HS5 := Lib.hid hS5
          have HB5 := Lib.hid hB5
          clear hS5 hk5 hB5 hown' hgrow hat hlt' f8 c8' b8 hown q0 q1 hb8 hf8 hc8 ag agb HS2 HB2
          go_wp2
          go_roundw
          case rel => exact ⟨n + 1, cnt', F2, some ⟨g, 0, none⟩, n + 1, cap', by omega, by go_num, by rw [if_neg (by omega)], HS5.out, HB5.out, hbF2⟩
          case measure => simp [intOf]; omega
      · have HD := Lib.hid (show decide (i = k) = false from decide_eq_false hik)
        rw [HD.out]
        go_wp2
        go_roundw
        case rel => exact ⟨i + 1, cnt', F2, A, n, cap, by omega, by go_num, by rw [HN.out]; split <;> split <;> omega, HS2.out, HB2.out, hbF2⟩
        case measure => simp [intOf]; omega
    · obtain rfl : i = 3 := by omega
      have hn1 : n = k + 1 := by rw [hn, if_neg (by omega)]
      subst hn1
      have HS := Lib.hid hS
      clear hS hB hbF hn
      go_wp2
      go_end0
      exact ⟨rfl, cnt, F, A, cap, HS.out⟩
theorem fr_end (k : Nat) (hk : k < 3) (time : Int) : (fr k 3 time).told = List.replicate (k + 1) 0 ∧ (fr k 3 time).marks = [] ∧ (fr k 3 time).dry = decide (k + 1 < 3) := by
  rcases (show k = 0 ∨ k = 1 ∨ k = 2 by omega) with rfl | rfl | rfl <;> exact ⟨rfl, rfl, rfl⟩
theorem fr_begin (k : Nat) (s : TrS) (time : Int) (h1 : s.told = List.replicate k 0) (h2 : s.marks = []) (h3 : s.over = false) : s.begin time = fr k 0 time := by
  obtain ⟨a, b, c, d, e, f, g, h⟩ := s
  simp only at h1 h2 h3
  subst h1 h2 h3
  simp [TrS.begin, fr]

/-- Behind k steps. -/
structure FSt (w0 w : World) (m c t sb k : Nat) (s : TrS) (F : List Nat) (A : Option Addr) (cap : Nat) (cnt : Int) : Prop where
  seen : Seen w w m c t sb F A cnt s F A (min k 3) cap
  told : s.told = List.replicate (min k 3) 0
  marks : s.marks = []
  over : s.over = decide (3 ≤ k)
  fresh : s.fresh = false
  new : ∀ b ∈ sb :: (blockOf A ++ (m :: c :: F)), w0.heap.size ≤ b
  low : Below w0.heap.size w0 w
theorem FSt.step {w0 w : World} {m c t sb k : Nat} {s : TrS} {F : List Nat} {A : Option Addr} {cap : Nat} {cnt : Int} (h : FSt w0 w m c t sb k s F A cap cnt) (time : Int) :
    Calls Try.prog 19 #[.pointer (some ⟨t, 0, none⟩), .int .i64 time, .func (.func 27) #[.agg #[.pointer (some ⟨sb, 0, none⟩)]] #[]] w fun e w' =>
      ∃ s' F' A' cap' cnt' b, e = .returned (.bool b) ∧ FSt w0 w' m c t sb (k + 1) s' F' A' cap' cnt' := by
  obtain ⟨hS, htold, hmk, hov, hfr, hnew, hlow⟩ := h
  by_cases hk : k < 3
  · have hm : min k 3 = k := by omega
    have hov' : s.over = false := by rw [hov]; exact decide_eq_false (by omega)
    rw [hm] at hS htold
    have hb := fr_begin k s time htold hmk hov'
    have htF := hS.tm.tF
    have hsbt : sb ≠ t := fun e => hS.far (by rw [e]; simp [htF])
    refine (t_step _ _ (fun μ2 s2 F2 w2 => ∃ w1, Upd [t] w w1 ∧ ∃ cnt A' cap', Seen w1 w2 m c t sb F A cnt (fr k 3 time) F2 A' (k + 1) cap' ∧ μ2 = frM cnt ∧ s2 = fr k 3 time) m c t _ s F time w hS.tm hov' (fun _ => by kernel_rfl) (Lib.hid fun w1 h1 hu1 => ?_)).mono ?_
    · rw [hb] at h1
      have hS1 : Seen w1 w1 m c t sb F A cnt (fr k 0 time) F A k cap :=
        ⟨h1, hS.blk.upd hu1 (by simp [hsbt]), ownsRow_upd hS.row hu1 (fun b hb hin => by simp at hin; subst hin; exact hS.apart _ hb (by simp [htF])), hS.far, hS.apart, fun b hb => .inl hb, fun b hb => .inl hb, Upd.refl _ _⟩
      refine (fresher_run k hk time m c t sb F A cap cnt w1 hS1).mono ?_
      rintro e w2 ⟨rfl, cnt', F2, A2, cap2, hS2⟩
      exact ⟨rfl, _, _, F2, hS2.tm, w1, hu1, cnt', A2, cap2, hS2, rfl, rfl⟩
    · rintro e w' ⟨μ2, s2, F2, w2, ⟨w1, hu1, cnt', A', cap', hS2, rfl, rfl⟩, rfl, htm, hu3⟩
      obtain ⟨e1, e2, e3⟩ := fr_end k hk time
      have htF2 := htm.tF
      have hsbt2 : sb ≠ t := hsbt
      have hm1 : min (k + 1) 3 = k + 1 := by omega
      have hupd : Upd (sb :: (blockOf A ++ (m :: c :: F))) w w' :=
        ((hu1.mono (by simp [htF])).trans hS2.upd).trans_new (hu3.mono (G := [t]) (by simp)) (by simp; exact .inl (.inr (.inr (.inr (.inr htF)))))
      have hge := hlow.size
      refine ⟨(fr k 3 time).finish, F2, A', cap', cnt', _, rfl, ⟨?_, ?_, e2, ?_, rfl, fun b hb => ?_, hlow.trans (hupd.below hge hnew)⟩⟩
      · rw [hm1]
        exact ⟨htm, hS2.blk.upd hu3 (by simp [hsbt]), ownsRow_upd hS2.row hu3 (fun b hb hin => by simp at hin; subst hin; exact hS2.apart _ hb (by simp [htF2])), hS2.far, hS2.apart, fun b hb => .inl hb, fun b hb => .inl hb, Upd.refl _ _⟩
      · rw [hm1]
        exact e1
      · show (!(fr k 3 time).dry) = _
        rw [e3]
        by_cases h2 : k + 1 < 3
        · rw [decide_eq_true h2, decide_eq_false (by omega)]; rfl
        · rw [decide_eq_false h2, decide_eq_true (by omega)]; rfl
      · have hw1 := hu1.size
        simp only [List.mem_cons, List.mem_append] at hb
        rcases hb with e | e | e | e | e
        · exact hnew b (by simp [e])
        · rcases hS2.subA b e with h | h
          · exact hnew b (by simp [h])
          · omega
        · exact hnew b (by simp [e])
        · exact hnew b (by simp [e])
        · rcases hS2.sub b e with h | h
          · exact hnew b (by simp [h])
          · omega
  · have hov' : s.over = true := by rw [hov]; exact decide_eq_true (by omega)
    have hm1 : min (k + 1) 3 = min k 3 := by omega
    refine (t_step_over _ m c t _ s F time w hS.tm hov').mono ?_
    rintro e w' ⟨rfl, rfl⟩
    exact ⟨s, F, A, cap, cnt, true, rfl, by rw [hm1]; exact hS, by rw [hm1]; exact htold, hmk, by rw [hov]; rw [decide_eq_true (by omega), decide_eq_true (by omega)], hfr, hnew, hlow⟩

set_option maxRecDepth 100000 in
set_option maxHeartbeats 1000000 in
theorem fresh03 (st : Int) (w : World) (hst : (Lit.int .u8 st).wf = true) :
    Calls Try.prog 5 #[.int .u8 st] w fun e w' => e = .returned (.bool true) ∧ Below w.heap.size w w' := by
  obtain ⟨N, hN, hN10⟩ : ∃ N : Nat, wrap64 (st.tmod 10) = N ∧ N < 10 := by
    have h0 := bounds_u8 hst
    refine ⟨(st % 10).toNat, ?_, by omega⟩
    rw [Int.tmod_eq_emod_of_nonneg h0.1]
    generalize hx : st % 10 = x
    unfold wrap64
    omega
  have HW := Lib.hid hN
  have HA := Lib.hid awake03
  clear hN hst
  go_enter Try.func5, Try.ntmps5
  go_wp2_with fail
  refine (cell_new 3 _).mono ?_
  rintro e w1 ⟨rfl, hm, hb1, -⟩
  rw [show (⟨List.replicate (capn 3).toNat 0, 0⟩ : MemS) = frM 0 from rfl] at hm
  have hmc : w.heap.size ≤ w.heap.size + 1 ∧ w.heap.size ≤ w.heap.size := ⟨by omega, Nat.le_refl _⟩
  generalize hx1 : w.heap.size + 1 = m at *
  obtain ⟨c, hc⟩ : ∃ c, c = w.heap.size := ⟨_, rfl⟩
  have hmc2 : w.heap.size ≤ c := Nat.le_of_eq hc.symm
  rw [← hc] at hm
  clear hx1 hc
  go_wp2_with fail
  refine (t_new m c _ _ hm).mono ?_
  rintro e w2 ⟨rfl, ht, hb2⟩
  have hb12 := below_then hb1 hb2 (Nat.le_refl _)
  have hB1 := hb1.size
  have hB2 := hb2.size
  go_upto_region 3 with fail
  have hS : FSt w (w2.alloc (.cells #[.slice none 0 0] 44)) m c w1.heap.size w2.heap.size 0 TrS.new [w1.heap.size] none 0 0 := by
    refine ⟨⟨ht.alloc _, Blk.new _ _ _, World.ownsRow_nil _ _ _ _, fun hin => ?_, by simp [blockOf], fun b hb => .inl hb, fun b hb => .inl hb, Upd.refl _ _⟩, rfl, rfl, rfl, rfl, ?_, hb12.alloc (by omega) _⟩
    · have := ht.lt _ hin; omega
    · simp [blockOf]; omega
  generalize w2.alloc (.cells #[.slice none 0 0] 44) = w3 at *
  generalize w2.heap.size = sb at *
  generalize w1.heap.size = t at *
  clear hb1 hb2 hb12 hB1 hB2 ht hm
  go_upto_region 4 with fail
  rw [HW.out]
  go_wp2_with fail
  go_loopw [6] (fun i wr => ∃ (k : Nat) (s : TrS) (F : List Nat) (A : Option Addr) (cap : Nat) (cnt : Int), k ≤ N ∧ i = .int .i64 k ∧ FSt w wr m c t sb k s F A cap cnt) (fun i _ => N - (intOf i).toNat)
  case atStart => exact ⟨0, _, _, _, _, _, Nat.zero_le _, rfl, hS⟩
  case round =>
    clear hS
    obtain ⟨k, s, F, A, cap, cnt, hk, rfl, hS⟩ := hrel
    by_cases hlt : k < N
    · have hki : (k : Int) < N := by omega
      have HS := Lib.hid (hS.step (k : Int))
      clear hS
      go_wp2_with fail
      refine HS.out.mono ?_
      rintro e w4 ⟨s4, F4, A4, cap4, cnt4, b4, rfl, hS4⟩
      have HS4 := Lib.hid hS4
      clear hS4 HS
      go_wp2
      go_roundw
      case rel => exact ⟨k + 1, s4, F4, A4, cap4, cnt4, by omega, by go_num, HS4.out⟩
      case measure => simp [intOf]; omega
    · obtain rfl : k = N := by omega
      have p0 := hS.seen.blk.at_ (i := 0) rfl
      simp only [List.getElem_toArray, List.getElem_cons_zero] at p0
      obtain ⟨L, hL, hL3⟩ : ∃ L, min k 3 = L ∧ L ≤ 3 := ⟨_, rfl, by omega⟩
      have hrow := hS.seen.row
      rw [hL] at p0 hrow
      have HS := Lib.hid hS
      have HL := Lib.hid hL
      clear hS hL hlt
      have HR := Lib.hid (Rows'.ofOwn hrow).1
      clear hrow
      go_wp2_with fail
      go_loop [7] (fun i => ∃ j : Nat, j ≤ L ∧ i = .int .i64 j) (fun i => L - (intOf i).toNat)
      case atStart => exact ⟨0, Nat.zero_le _, rfl⟩
      case round =>
        obtain ⟨j, hj, rfl⟩ := hrel
        by_cases hlt : j < L
        · obtain ⟨g, rfl, hcell⟩ : ∃ g, A = some ⟨g, 0, none⟩ ∧ wr.cell? ⟨g, j, none⟩ = some (.int .i64 (j : Int)) := by
            rcases HR.out with ⟨_, h, _⟩ | ⟨g, cap', h, hr⟩
            · omega
            · injection h with h1 h2 h3
              exact ⟨g, h1, hr.cell (by simp [upTo, List.getElem?_map, List.getElem?_range hlt])⟩
          have hji : (j : Int) < L := by omega
          go_wp2
          go_round
          case rel => exact ⟨j + 1, by omega, by go_num⟩
          case measure => simp [intOf]; omega
        · obtain rfl : j = L := by omega
          go_wp2_with fail
          refine (HA.out _).mono ?_
          rintro e w5 ⟨rfl, hb5⟩
          have HS5 := Lib.hid (HS.out.seen.tm.upd (Upd.of_below hb5 (F := [])) (by simp) (by simp) (by simp))
          have HB5 := Lib.hid hb5
          have p5 := (hb5.cell (p := ⟨sb, 0, none⟩) HS.out.seen.blk.lt).trans p0
          have HO := Lib.hid HS.out.over
          have HF := Lib.hid HS.out.fresh
          have HLW := Lib.hid HS.out.low
          have hjk := HL.out
          clear hb5 p0 HS HR HA hlt hj HL HW hL3 hk hN10
          by_cases hk3 : k ≤ 2
          · obtain rfl : j = k := by omega
            have hov : decide (3 ≤ j) = false := decide_eq_false (by omega)
            have hk3' : (j : Int) ≤ 2 := by omega
            have hk4 : decide ((3 : Int) ≤ j) = false := decide_eq_false (by omega)
            have HOV := Lib.hid hov
            clear hov hjk hk3
            go_wp2_with fail
            refine (t_over m c t _ _ _ _ HS5.out).mono ?_
            rw [HO.out, HOV.out]
            rintro e w6 ⟨rfl, rfl⟩
            go_wp2_with fail
            refine (t_fresh m c t _ _ _ _ HS5.out).mono ?_
            rw [HF.out]
            rintro e w6 ⟨rfl, rfl⟩
            go_wp2
            go_ret
            exact ⟨rfl, below_then HLW.out HB5.out (Nat.le_refl _)⟩
          · obtain rfl : j = 3 := by omega
            have hov : decide (3 ≤ k) = true := decide_eq_true (by omega)
            have hk3' : (3 : Int) ≤ k := by omega
            have hk4 : decide ((3 : Int) ≤ k) = true := decide_eq_true (by omega)
            have HOV := Lib.hid hov
            clear hov hjk
            by_cases hk5 : k = 3
            · subst hk5
              clear hk3
              go_wp2_with fail
              refine (t_over m c t _ _ _ _ HS5.out).mono ?_
              rw [HO.out, HOV.out]
              rintro e w6 ⟨rfl, rfl⟩
              go_wp2_with fail
              refine (t_fresh m c t _ _ _ _ HS5.out).mono ?_
              rw [HF.out]
              rintro e w6 ⟨rfl, rfl⟩
              go_wp2
              go_ret
              exact ⟨rfl, below_then HLW.out HB5.out (Nat.le_refl _)⟩
            · have hk6 : (3 : Int) < k := by omega
              have hk7 : ¬ (k : Int) ≤ 3 := by omega
              clear hk3 hk5
              go_wp2_with fail
              refine (t_over m c t _ _ _ _ HS5.out).mono ?_
              rw [HO.out, HOV.out]
              rintro e w6 ⟨rfl, rfl⟩
              go_wp2_with fail
              refine (t_fresh m c t _ _ _ _ HS5.out).mono ?_
              rw [HF.out]
              rintro e w6 ⟨rfl, rfl⟩
              go_wp2
              go_ret
              exact ⟨rfl, below_then HLW.out HB5.out (Nat.le_refl _)⟩
end Go.Proofs.Ytcphidmfdakbeaa
