/- Law 16: all: a task that looks into a slot, alone up to its end. -/
import Derived.Test.YtldccemgfjmcdaaLook16
import Derived.StillTailTactics
namespace Go.Proofs.Ytldccemgfjmcdaa
open Go.RowKit
set_option linter.unusedSimpArgs false
set_option linter.unusedVariables false

theorem Upd.thru {G : List Nat} {w w' w'' : World} (h : Upd G w w') (hb : Below w'.heap.size w' w'') : Upd G w w'' := h.trans (Upd.of_below hb)
/-- A land without a trail. -/
structure LandAt (w : World) (m c a b : Nat) (σ : LandS) : Prop where
  mem : MemAt w m c σ.mu
  ar : ArAt w a b σ.ar
  wm : WfM σ.mu
section
variable {w w' : World} {m c a b : Nat} {σ : LandS}
theorem LandAt.upd {G : List Nat} (h : LandAt w m c a b σ) (hu : Upd G w w') (hG : ∀ x ∈ [m, c, a, b], x ∉ G) : LandAt w' m c a b σ :=
  ⟨h.mem.upd hu (hG _ (by simp)) (hG _ (by simp)), h.ar.upd hu (hG _ (by simp)) (hG _ (by simp)), h.wm⟩
theorem LandAt.thru (h : LandAt w m c a b σ) (hb : Below w.heap.size w w') : LandAt w' m c a b σ := h.upd (Upd.of_below hb (F := [])) (by simp)
theorem LandAt.lt (h : LandAt w m c a b σ) : ∀ x ∈ [m, c, a, b], x < w.heap.size := by
  intro x hx
  simp only [List.mem_cons, List.not_mem_nil, or_false] at hx
  rcases hx with rfl | rfl | rfl | rfl
  · exact h.mem.1.lt
  · exact h.mem.2.1.lt
  · exact h.ar.top.lt
  · exact h.ar.row.lt
theorem LandAt.apart (h : LandAt w m c a b σ) : m ≠ a ∧ m ≠ b ∧ c ≠ a ∧ c ≠ b :=
  ⟨h.mem.1.ne_ h.ar.top (by decide), h.mem.1.ne_ h.ar.row (by decide), h.mem.2.1.ne_ h.ar.top (by decide), h.mem.2.1.ne_ h.ar.row (by decide)⟩
/-- A trail that is new on it. -/
theorem LandAt.trail {t : Nat} (h : LandAt w m c a b σ) (ht : TM w m c t σ.mu TrS.new [t]) (hn : ∀ x ∈ [m, c, a, b], x ≠ t) : TL w ⟨m, c, t, a, b⟩ σ TrS.new [t] := by
  obtain ⟨h1, h2, h3, h4⟩ := h.apart
  refine ⟨ht, h.ar, ?_, ?_, h.wm, by simp [TrS.new]⟩
  · simp only [List.mem_cons, List.not_mem_nil, or_false, not_or]; exact ⟨fun e => h1 e.symm, fun e => h3 e.symm, hn a (by simp)⟩
  · simp only [List.mem_cons, List.not_mem_nil, or_false, not_or]; exact ⟨fun e => h2 e.symm, fun e => h4 e.symm, hn b (by simp)⟩
theorem TL.land {p : Pl} {s : TrS} {F : List Nat} (h : TL w p σ s F) : LandAt w p.m p.c p.a p.b σ := ⟨h.tm.mem, h.ar, h.wm⟩
end
/-- What a task that is alone leaves: its answer lies as R says, in a struct that is handed on by value. -/
def AllPost {β : Type} (R : World → β → Array Value → Prop) (w : World) (m c a b : Nat) (q : β × LandS × Nat) (e : Ending) (w' : World) : Prop :=
  ∃ cs, e = .returned (.tuple #[.agg cs, .int .i64 q.2.2, .bool true]) ∧ R w' q.1 cs ∧ LandAt w' m c a b q.2.1 ∧ Upd [m, c, a, b] w w'
/-- The task, as looker.run does it. -/
def RunsL {β : Type} (f : FuncId) (x : Nat → Nat → Value) (r : Res LandS β) (ty : TypeId) (z : Nat) (R : World → β → Array Value → Prop) : Prop :=
  ∀ (pb : Nat) (cs0 : Array Value), cs0.size = z → ∀ (p : Pl) (σ : LandS) (s : TrS) (F : List Nat) (n : Nat) (w : World), TL w p σ s F → s.In n → n ≤ 1000000 → s.over = false → Blk w pb ty cs0 → pb ∉ p.all F →
    Calls Try.prog f #[x p.a pb, .pointer (some ⟨p.t, 0, none⟩)] w (TaskPostL (TaskQL w p σ s F r pb ty R) p)
/-- One round of a task that is alone. -/
structure RoundL {β : Type} (w0 w : World) (p : Pl) (pb : Nat) (ty : TypeId) (z0 : Array Value) (r : Res LandS β) (R : World → β → Array Value → Prop) (σ0 : LandS) (j : Nat) (s : TrS) (F : List Nat) (cs : Array Value) : Prop where
  run : RunL w0 w p pb ty r R σ0 j s F cs
  open_ : s.over = false → cs = z0
section
variable {β : Type} {w0 w w' : World} {p : Pl} {pb : Nat} {ty : TypeId} {z0 : Array Value} {r : Res LandS β} {R : World → β → Array Value → Prop} {σ0 : LandS} {j : Nat} {s : TrS} {F : List Nat} {cs : Array Value} {time : Int} {e : Ending}
theorem RoundL.next (h : RoundL w0 w p pb ty z0 r R σ0 j s F cs) (hf : r.free)
    (hs : PutStepL w p pb ty r R (Res.steps j r.next σ0).2 s F cs (Res.steps j r.next σ0).1 time e w') :
    ∃ b s' F' cs', e = .returned (.bool b) ∧ RoundL w0 w' p pb ty z0 r R σ0 (j + 1) s' F' cs' ∧ Upd (pb :: p.all F) w w' ∧ ∀ x ∈ F', x ∈ F ∨ w.heap.size ≤ x := by
  have hn := h.run.next hf hs
  obtain ⟨he, s', F', cs', hp, hcs, ho, ht, hm, hF', hu⟩ := hs
  refine ⟨_, s', F', cs', he, ⟨⟨hp, ?_, ?_, h.run.npb, ?_, ?_⟩, ?_⟩, hu, hF'⟩
  · obtain ⟨-, s2, F2, cs2, h2⟩ := hn
    rw [ht, List.length_append, h.run.told]
    by_cases hj : j < (r.eval σ0).2.2
    · rw [(r.steps_open hf σ0 j hj).2]
      omega
    · rw [r.steps_done hf σ0 (by omega)]
      simp only [Res.tells, List.length_nil]
      omega
  · intro b hb
    have hsz := h.run.low.size
    exact (hF' b hb).elim (h.run.new b) (fun h => by omega)
  · refine h.run.low.trans_new hu ?_
    intro b hb
    simp only [Pl.all, List.mem_cons] at hb
    rcases hb with e | e | e | e | e | e
    · exact .inr (e ▸ h.run.npb)
    · exact .inl (by simp [e])
    · exact .inl (by simp [e])
    · exact .inl (by simp [e])
    · exact .inl (by simp [e])
    · exact .inr (h.run.new b e)
  · rw [ho, decide_eq_true (show 0 < j + 1 by omega), Bool.true_and]
    show (Res.steps (j + 1) r.next σ0).1.isRet = _
    by_cases hj : (r.eval σ0).2.2 ≤ j + 1
    · rw [r.steps_done hf σ0 hj, decide_eq_true hj]
      rfl
    · rw [(r.steps_open hf σ0 (j + 1) (by omega)).1, decide_eq_false hj]
  · intro hov
    rw [hov] at ho
    rw [hcs ho.symm]
    refine h.open_ ?_
    cases hso : s.over with
    | false => rfl
    | true =>
      have := h.run.put.over hso
      cases hc : (Res.steps j r.next σ0).1 with
      | ret a => rw [hc] at ho; cases ho
      | acc d k => rw [hc] at this; cases this
      | mark kd k => rw [hc] at this; cases this
theorem RoundL.first {m c a b t : Nat} (h : LandAt w m c a b σ0) (ht : TM w m c t σ0.mu TrS.new [t]) (htn : w0.heap.size ≤ t) (hpb : w0.heap.size ≤ pb) (hpt : pb ≠ t) (hb : Blk w pb ty z0) (hl : ∀ x ∈ [m, c, a, b], x < w0.heap.size) (hu : Upd [m, c, a, b] w0 w) :
    RoundL w0 w ⟨m, c, t, a, b⟩ pb ty z0 r R σ0 0 TrS.new [t] z0 := by
  have hn : ∀ x ∈ [m, c, a, b], x ≠ t := fun x hx e => by have := hl x hx; omega
  refine ⟨⟨⟨h.trail ht hn, hb, ?_, follow_nil r, (fun h => by cases h), (fun h => by cases h)⟩, by simp [TrS.new], by simp; exact htn, hpb, hu, by simp [TrS.new]⟩, fun _ => rfl⟩
  intro hin
  simp only [Pl.all, List.mem_cons, List.not_mem_nil, or_false] at hin
  rcases hin with e | e | e | e | e
  · have := hl m (by simp); omega
  · have := hl c (by simp); omega
  · have := hl a (by simp); omega
  · have := hl b (by simp); omega
  · exact hpt e
theorem RoundL.step (f : FuncId) (x : Nat → Nat → Value) (h : RoundL w0 w p pb ty z0 r R σ0 j s F cs) (hf : r.free) (hap : Apart p.t R) (hr : RunsL f x r ty z0.size R) (time : Int) (hj : j < 1000000)
    (hcall : ∀ w, (callFunc f #[x p.a pb, .pointer (some ⟨p.t, 0, none⟩)]).run Try.prog w = .ok (.enter f #[x p.a pb, .pointer (some ⟨p.t, 0, none⟩)]) w) :
    Calls Try.prog 54 #[.pointer (some ⟨p.t, 0, none⟩), .int .i64 time, .func (.func f) #[x p.a pb] #[]] w fun e w' =>
      ∃ b s' F' cs', e = .returned (.bool b) ∧ RoundL w0 w' p pb ty z0 r R σ0 (j + 1) s' F' cs' ∧ Upd (pb :: p.all F) w w' ∧ ∀ x ∈ F', x ∈ F ∨ w.heap.size ≤ x := by
  refine (putl_step f (x p.a pb) p pb ty r R _ s F cs _ time w h.run.put hap hcall ?_).mono fun e w' hs => h.next hf hs
  intro w1 h1 hb1 hov hu
  have hc := h.open_ hov
  subst hc
  exact hr pb _ rfl p _ (s.begin time) F 1000000 w1 h1 (h.run.begin_in time hj) (Nat.le_refl _) hov hb1 h.run.put.far
end

set_option maxRecDepth 100000 in
set_option maxHeartbeats 2000000 in
theorem all16 (hd addr kind : Int) (r : Res LandS ResV) (hf : r.free) (hr : RunsL 64 (fun a pb => lookArg a pb hd addr kind) r 59 14 RR) (m c a b : Nat) (σ : LandS) (g : Option Addr) (w : World) (h : LandAt w m c a b σ) (hn : (r.eval σ).2.2 < 60) :
    Calls Try.prog 28 #[.pointer (some ⟨m, 0, none⟩), .agg #[.pointer (some ⟨a, 0, none⟩), .int .i64 hd, .int .i64 addr, .int .i64 kind, .pointer g]] w (AllPost RR w m c a b (r.eval σ)) := by
  have H := Lib.hid h
  have HLT := Lib.hid h.lt
  have HR := Lib.hid hr
  have HU := Lib.hid (Upd.refl [m, c, a, b] w)
  have HF := Lib.hid hf
  have HN := Lib.hid hn
  clear h hr hf hn
  go_enter Try.func28, Try.ntmps28
  replace H := Lib.hid (H.out.thru (below_alloc0 w (.cells #[.pointer (some ⟨a, 0, none⟩), .int .i64 hd, .int .i64 addr, .int .i64 kind, .pointer g] 64)))
  replace HU := Lib.hid (HU.out.thru (below_alloc0 w (.cells #[.pointer (some ⟨a, 0, none⟩), .int .i64 hd, .int .i64 addr, .int .i64 kind, .pointer g] 64)))
  have HLB := Lib.hid (Blk.new w 64 #[.pointer (some ⟨a, 0, none⟩), .int .i64 hd, .int .i64 addr, .int .i64 kind, .pointer g])
  go_upto_region 1 with fail
  have HZ := Lib.hid (World.size_alloc w (.cells #[.pointer (some ⟨a, 0, none⟩), .int .i64 hd, .int .i64 addr, .int .i64 kind, .pointer g] 64))
  obtain ⟨lb, hlb⟩ : ∃ x, w.heap.size = x := ⟨_, rfl⟩
  simp only [hlb] at HLB HZ ⊢
  replace hlb := Lib.hid hlb
  generalize w.alloc (.cells #[.pointer (some ⟨a, 0, none⟩), .int .i64 hd, .int .i64 addr, .int .i64 kind, .pointer g] 64) = w1 at *
  replace H := Lib.hid (H.out.thru (below_alloc0 w1 (.cells #[.int .i64 0, .bool false, .bool false, .int .i64 0, .int .i64 0, .int .i64 0, .bool false, .int .i64 0, .int .i64 0, .bool false, .int .i64 0, .slice none 0 0, .slice none 0 0, .slice none 0 0] 59)))
  replace HU := Lib.hid (HU.out.thru (below_alloc0 w1 (.cells #[.int .i64 0, .bool false, .bool false, .int .i64 0, .int .i64 0, .int .i64 0, .bool false, .int .i64 0, .int .i64 0, .bool false, .int .i64 0, .slice none 0 0, .slice none 0 0, .slice none 0 0] 59)))
  replace HLB := Lib.hid (HLB.out.thru (below_alloc0 w1 (.cells #[.int .i64 0, .bool false, .bool false, .int .i64 0, .int .i64 0, .int .i64 0, .bool false, .int .i64 0, .int .i64 0, .bool false, .int .i64 0, .slice none 0 0, .slice none 0 0, .slice none 0 0] 59)))
  have HRB := Lib.hid (Blk.new w1 59 #[.int .i64 0, .bool false, .bool false, .int .i64 0, .int .i64 0, .int .i64 0, .bool false, .int .i64 0, .int .i64 0, .bool false, .int .i64 0, .slice none 0 0, .slice none 0 0, .slice none 0 0])
  rw [HZ.out] at HRB
  try simp only [HZ.out]
  replace HZ := Lib.hid (show (w1.alloc (.cells #[.int .i64 0, .bool false, .bool false, .int .i64 0, .int .i64 0, .int .i64 0, .bool false, .int .i64 0, .int .i64 0, .bool false, .int .i64 0, .slice none 0 0, .slice none 0 0, .slice none 0 0] 59)).heap.size = lb + 1 + 1 by rw [World.size_alloc, HZ.out])
  generalize w1.alloc (.cells #[.int .i64 0, .bool false, .bool false, .int .i64 0, .int .i64 0, .int .i64 0, .bool false, .int .i64 0, .int .i64 0, .bool false, .int .i64 0, .slice none 0 0, .slice none 0 0, .slice none 0 0] 59) = w2 at *
  go_upto_region 2 with fail
  replace H := Lib.hid (H.out.thru (below_alloc0 w2 (.cells #[.int .i64 0, .bool false, .bool false, .int .i64 0, .int .i64 0, .int .i64 0, .bool false, .int .i64 0, .int .i64 0, .bool false, .int .i64 0, .slice none 0 0, .slice none 0 0, .slice none 0 0] 59)))
  replace HU := Lib.hid (HU.out.thru (below_alloc0 w2 (.cells #[.int .i64 0, .bool false, .bool false, .int .i64 0, .int .i64 0, .int .i64 0, .bool false, .int .i64 0, .int .i64 0, .bool false, .int .i64 0, .slice none 0 0, .slice none 0 0, .slice none 0 0] 59)))
  replace HLB := Lib.hid (HLB.out.thru (below_alloc0 w2 (.cells #[.int .i64 0, .bool false, .bool false, .int .i64 0, .int .i64 0, .int .i64 0, .bool false, .int .i64 0, .int .i64 0, .bool false, .int .i64 0, .slice none 0 0, .slice none 0 0, .slice none 0 0] 59)))
  replace HRB := Lib.hid (HRB.out.thru (below_alloc0 w2 (.cells #[.int .i64 0, .bool false, .bool false, .int .i64 0, .int .i64 0, .int .i64 0, .bool false, .int .i64 0, .int .i64 0, .bool false, .int .i64 0, .slice none 0 0, .slice none 0 0, .slice none 0 0] 59)))
  have HPB := Lib.hid (Blk.new w2 59 #[.int .i64 0, .bool false, .bool false, .int .i64 0, .int .i64 0, .int .i64 0, .bool false, .int .i64 0, .int .i64 0, .bool false, .int .i64 0, .slice none 0 0, .slice none 0 0, .slice none 0 0])
  rw [HZ.out] at HPB
  try simp only [HZ.out]
  replace HZ := Lib.hid (show (w2.alloc (.cells #[.int .i64 0, .bool false, .bool false, .int .i64 0, .int .i64 0, .int .i64 0, .bool false, .int .i64 0, .int .i64 0, .bool false, .int .i64 0, .slice none 0 0, .slice none 0 0, .slice none 0 0] 59)).heap.size = lb + 1 + 1 + 1 by rw [World.size_alloc, HZ.out])
  generalize w2.alloc (.cells #[.int .i64 0, .bool false, .bool false, .int .i64 0, .int .i64 0, .int .i64 0, .bool false, .int .i64 0, .int .i64 0, .bool false, .int .i64 0, .slice none 0 0, .slice none 0 0, .slice none 0 0] 59) = w3 at *
  obtain ⟨l0, l1, l2, l3, l4⟩ := HLB.out.at5
  have lf := HLB.out.free 4
  have hux : Upd [lb] w3 (w3.setCell ⟨lb, 4, none⟩ (.pointer (some ⟨lb + 1 + 1, 0, none⟩))) := (Upd.refl _ _).put (.inl (by simp)) _
  have HLB4 := Lib.hid (show Blk (w3.setCell ⟨lb, 4, none⟩ (.pointer (some ⟨lb + 1 + 1, 0, none⟩))) lb 64 #[.pointer (some ⟨a, 0, none⟩), .int .i64 hd, .int .i64 addr, .int .i64 kind, .pointer (some ⟨lb + 1 + 1, 0, none⟩)] from HLB.out.put 4 _)
  have HRB4 := Lib.hid (HRB.out.upd hux (by simp))
  have HPB4 := Lib.hid (HPB.out.upd hux (by simp; omega))
  have H4 := Lib.hid (H.out.upd hux (fun x hx hin => by have := HLT.out x hx; have := hlb.out; simp at hin; omega))
  have HU4 := Lib.hid (HU.out.trans_new hux (fun x hx => .inr (by have := hlb.out; simp at hx; omega)))
  have HSZ := Lib.hid (show (w3.setCell ⟨lb, 4, none⟩ (.pointer (some ⟨lb + 1 + 1, 0, none⟩))).heap.size = lb + 3 by have := HZ.out; simp only [World.setCell] at *; simpa using this)
  clear HLB HRB HPB H HU HZ hux
  go_upto_region 3 with fail
  clear l0 l1 l2 l3 l4 lf
  generalize w3.setCell ⟨lb, 4, none⟩ (.pointer (some ⟨lb + 1 + 1, 0, none⟩)) = w4 at *
  have HT := Lib.hid (t_new m c σ.mu w4 H4.out.mem)
  rw [HSZ.out] at HT
  go_wp2_with fail
  refine HT.out.mono ?_
  rintro e w5 ⟨rfl, htm, hb⟩
  have HLB := Lib.hid (HLB4.out.thru (by rw [HSZ.out]; exact hb))
  have HRB := Lib.hid (HRB4.out.thru (by rw [HSZ.out]; exact hb))
  have HPB := Lib.hid (HPB4.out.thru (by rw [HSZ.out]; exact hb))
  have H0 := Lib.hid (H4.out.thru (by rw [HSZ.out]; exact hb))
  have HU0 := Lib.hid (HU4.out.thru (by rw [HSZ.out]; exact hb))
  have HR0 := Lib.hid (RoundL.first (r := r) (R := RR) (w0 := w) H0.out htm (by have := hlb.out; omega) (show w.heap.size ≤ lb + 1 + 1 by have := hlb.out; omega) (by omega) HPB.out HLT.out HU0.out)
  clear HLB4 HRB4 HPB4 H4 HU4 HSZ HT htm hb HPB H0 HU0
  have HWL := Lib.hid (show w.heap.size = lb from hlb.out)
  go_wp2_with fail
  go_loopw [9] (fun i wr => ∃ (j : Nat) (s : TrS) (F : List Nat) (cs : Array Value), j ≤ 60 ∧ i = .int .i64 j ∧ RoundL w wr ⟨m, c, lb + 3, a, b⟩ (lb + 1 + 1) 59 #[.int .i64 0, .bool false, .bool false, .int .i64 0, .int .i64 0, .int .i64 0, .bool false, .int .i64 0, .int .i64 0, .bool false, .int .i64 0, .slice none 0 0, .slice none 0 0, .slice none 0 0] r RR σ j s F cs ∧
      Blk wr lb 64 #[.pointer (some ⟨a, 0, none⟩), .int .i64 hd, .int .i64 addr, .int .i64 kind, .pointer (some ⟨lb + 1 + 1, 0, none⟩)] ∧ Blk wr (lb + 1) 59 #[.int .i64 0, .bool false, .bool false, .int .i64 0, .int .i64 0, .int .i64 0, .bool false, .int .i64 0, .int .i64 0, .bool false, .int .i64 0, .slice none 0 0, .slice none 0 0, .slice none 0 0] ∧ lb ∉ F ∧ lb + 1 ∉ F) (fun i _ => 60 - (intOf i).toNat)
  case atStart => exact ⟨0, _, _, _, by omega, rfl, HR0.out, HLB.out, HRB.out, by simp, by simp⟩
  case round =>
    clear HR0 HLB HRB
    obtain ⟨j, s, F, cs, hj, rfl, hrd, hlbk, hrbk, hf1, hf2⟩ := hrel
    have HRD := Lib.hid hrd
    have HLB := Lib.hid hlbk
    have HRB := Lib.hid hrbk
    have HF1 := Lib.hid hf1
    have HF2 := Lib.hid hf2
    have HO := Lib.hid (t_over m c (lb + 3) _ s F wr hrd.run.put.tl.tm)
    clear hrd hlbk hrbk hf1 hf2
    cases hov : s.over with
    | true =>
      obtain ⟨htl, hblk, ⟨d0, d1, d2, d3, d4, rfl, hnd⟩, htold⟩ := HRD.out.run.ends HF.out hov
      have hnb : lb + 1 ∉ (Pl.mk m c (lb + 3) a b).all F := by
        intro hin
        simp only [Pl.all, List.mem_cons] at hin
        have h1 := HLT.out m (by simp)
        have h2 := HLT.out c (by simp)
        have h3 := HLT.out a (by simp)
        have h4 := HLT.out b (by simp)
        have h5 := HWL.out
        rcases hin with e | e | e | e | e
        · omega
        · omega
        · omega
        · omega
        · exact HF2.out e
      generalize hv : (r.eval σ).1 = v at *
      have HST := Lib.hid (show Calls Try.prog 56 #[.pointer (some ⟨lb + 3, 0, none⟩)] wr.drew (fun e w' => e = .returned (.int .i64 s.told.length) ∧ w' = wr.drew) from (t_steps m c (lb + 3) _ s F wr.drew (htl.tm.drewN 1)).mono fun _ _ ⟨h1, h2⟩ => ⟨h1, h2.symm⟩)
      have HOV := Lib.hid (show Calls Try.prog 53 #[.pointer (some ⟨lb + 3, 0, none⟩)] wr.drew (fun e w' => e = .returned (.bool s.over) ∧ w' = wr.drew) from (t_over m c (lb + 3) _ s F wr.drew (htl.tm.drewN 1)).mono fun _ _ ⟨h1, h2⟩ => ⟨h1, h2.symm⟩)
      rw [hov] at HO HOV
      rw [htold] at HST
      have HRBD := Lib.hid (show Blk wr.drew (lb + 1) 59 #[.int .i64 0, .bool false, .bool false, .int .i64 0, .int .i64 0, .int .i64 0, .bool false, .int .i64 0, .int .i64 0, .bool false, .int .i64 0, .slice none 0 0, .slice none 0 0, .slice none 0 0] from HRB.out)
      have HONE := Lib.hid (show (#[.int .i64 v.v, .bool v.inner, .bool v.ok, .int .i64 v.area.start, .int .i64 v.area.stop, .int .i64 v.area.prot, .bool v.area.shared, .int .i64 v.area.back, .int .i64 v.area.off, d0, d1, d2, d3, d4] : Array Value).all (·.oneCell') = true by
        rcases hnd with ⟨-, rfl, rfl, rfl, rfl, rfl⟩ | ⟨m', g1, g2, g3, c1, c2, c3, -, rfl, rfl, rfl, rfl, rfl, -⟩ <;> simp [Value.oneCell'])
      have hud : Upd [lb + 1] wr.drew (wr.drew.setRow (lb + 1) #[.int .i64 v.v, .bool v.inner, .bool v.ok, .int .i64 v.area.start, .int .i64 v.area.stop, .int .i64 v.area.prot, .bool v.area.shared, .int .i64 v.area.back, .int .i64 v.area.off, d0, d1, d2, d3, d4]) := upd_setRow HRBD.out _
      have HEND := Lib.hid (show RR (wr.drew.setRow (lb + 1) #[.int .i64 v.v, .bool v.inner, .bool v.ok, .int .i64 v.area.start, .int .i64 v.area.stop, .int .i64 v.area.prot, .bool v.area.shared, .int .i64 v.area.back, .int .i64 v.area.off, d0, d1, d2, d3, d4]) (r.eval σ).1 #[.int .i64 v.v, .bool v.inner, .bool v.ok, .int .i64 v.area.start, .int .i64 v.area.stop, .int .i64 v.area.prot, .bool v.area.shared, .int .i64 v.area.back, .int .i64 v.area.off, d0, d1, d2, d3, d4] ∧ LandAt (wr.drew.setRow (lb + 1) #[.int .i64 v.v, .bool v.inner, .bool v.ok, .int .i64 v.area.start, .int .i64 v.area.stop, .int .i64 v.area.prot, .bool v.area.shared, .int .i64 v.area.back, .int .i64 v.area.off, d0, d1, d2, d3, d4]) m c a b (r.eval σ).2.1 ∧ Upd [m, c, a, b] w (wr.drew.setRow (lb + 1) #[.int .i64 v.v, .bool v.inner, .bool v.ok, .int .i64 v.area.start, .int .i64 v.area.stop, .int .i64 v.area.prot, .bool v.area.shared, .int .i64 v.area.back, .int .i64 v.area.off, d0, d1, d2, d3, d4]) by
        rw [hv]
        refine ⟨⟨_, _, _, _, _, rfl, NodeIs.off (w := wr.drew) ?_ HRBD.out (by decide) hud⟩, ?_, ?_⟩
        · exact hnd.thru (below_drewN0 wr 1)
        · exact (htl.drewN 1).land.upd hud (fun x hx hin => by
            simp only [List.mem_singleton] at hin
            subst hin
            have := HLT.out _ hx
            have := HWL.out
            omega)
        · exact (HRD.out.run.low.drewN 1).trans_new hud (fun x hx => .inr (by simp only [List.mem_singleton] at hx; have := HWL.out; omega)))
      obtain ⟨p0, p1, p2, p3, p4, p5, p6, p7, p8, p9, p10, p11, p12, p13⟩ := hblk.at14
      clear hud htl hblk hnd htold hnb hv hov
      by_cases hlt : j < 60
      · go_wp2_with fail
        refine HO.out.mono ?_
        rintro e w6 ⟨rfl, rfl⟩
        go_upto_region 8 with fail
        refine wp_region_still_tail 5 (by kernel_rfl) (by kernel_rfl) ?_
        simp only [List.take_succ_cons, List.take_zero, List.drop_succ_cons, List.drop_zero]
        repeat (first | still_call (HST.out) | still_call (HOV.out) | still_step)
        try refine wpStill_nil ?_
        change wpList _ _ _ _ _ wr.drew
        clear p0 p1 p2 p3 p4 p5 p6 p7 p8 p9 p10 p11 p12 p13
        go_wp2_with (refine wpList_store_row (P := Try.prog) rfl 59 (.tmp 4) (.tmp 27) rfl (lb + 1) #[.int .i64 v.v, .bool v.inner, .bool v.ok, .int .i64 v.area.start, .int .i64 v.area.stop, .int .i64 v.area.prot, .bool v.area.shared, .int .i64 v.area.back, .int .i64 v.area.off, d0, d1, d2, d3, d4] rfl rfl 59 #[.int .i64 0, .bool false, .bool false, .int .i64 0, .int .i64 0, .int .i64 0, .bool false, .int .i64 0, .int .i64 0, .bool false, .int .i64 0, .slice none 0 0, .slice none 0 0, .slice none 0 0] HRBD.out info_res rfl HONE.out ?_)
        have hrun := run_loadVar_row (P := Try.prog) (wr.drew.setRow (lb + 1) #[.int .i64 v.v, .bool v.inner, .bool v.ok, .int .i64 v.area.start, .int .i64 v.area.stop, .int .i64 v.area.prot, .bool v.area.shared, .int .i64 v.area.back, .int .i64 v.area.off, d0, d1, d2, d3, d4]) (lb + 1) 59 59 #[.int .i64 v.v, .bool v.inner, .bool v.ok, .int .i64 v.area.start, .int .i64 v.area.stop, .int .i64 v.area.prot, .bool v.area.shared, .int .i64 v.area.back, .int .i64 v.area.off, d0, d1, d2, d3, d4] (0, 0) _ (blk_setRow HRBD.out _) Try.underlying59 rfl info_res
        have HFIN := Lib.hid HEND.out
        generalize wr.drew.setRow (lb + 1) #[.int .i64 v.v, .bool v.inner, .bool v.ok, .int .i64 v.area.start, .int .i64 v.area.stop, .int .i64 v.area.prot, .bool v.area.shared, .int .i64 v.area.back, .int .i64 v.area.off, d0, d1, d2, d3, d4] = wz at *
        exact bodyPost_ret (v := .tuple #[.agg #[.int .i64 v.v, .bool v.inner, .bool v.ok, .int .i64 v.area.start, .int .i64 v.area.stop, .int .i64 v.area.prot, .bool v.area.shared, .int .i64 v.area.back, .int .i64 v.area.off, d0, d1, d2, d3, d4], .int .i64 (r.eval σ).2.2, .bool true]) (by simp [results, Try.results28, asAddr, hrun]) rfl ⟨_, rfl, HFIN.out⟩
      · obtain rfl : j = 60 := by omega
        go_upto_region 8 with fail
        refine wp_region_still_tail 5 (by kernel_rfl) (by kernel_rfl) ?_
        simp only [List.take_succ_cons, List.take_zero, List.drop_succ_cons, List.drop_zero]
        repeat (first | still_call (HST.out) | still_call (HOV.out) | still_step)
        try refine wpStill_nil ?_
        change wpList _ _ _ _ _ wr.drew
        clear p0 p1 p2 p3 p4 p5 p6 p7 p8 p9 p10 p11 p12 p13
        go_wp2_with (refine wpList_store_row (P := Try.prog) rfl 59 (.tmp 4) (.tmp 27) rfl (lb + 1) #[.int .i64 v.v, .bool v.inner, .bool v.ok, .int .i64 v.area.start, .int .i64 v.area.stop, .int .i64 v.area.prot, .bool v.area.shared, .int .i64 v.area.back, .int .i64 v.area.off, d0, d1, d2, d3, d4] rfl rfl 59 #[.int .i64 0, .bool false, .bool false, .int .i64 0, .int .i64 0, .int .i64 0, .bool false, .int .i64 0, .int .i64 0, .bool false, .int .i64 0, .slice none 0 0, .slice none 0 0, .slice none 0 0] HRBD.out info_res rfl HONE.out ?_)
        have hrun := run_loadVar_row (P := Try.prog) (wr.drew.setRow (lb + 1) #[.int .i64 v.v, .bool v.inner, .bool v.ok, .int .i64 v.area.start, .int .i64 v.area.stop, .int .i64 v.area.prot, .bool v.area.shared, .int .i64 v.area.back, .int .i64 v.area.off, d0, d1, d2, d3, d4]) (lb + 1) 59 59 #[.int .i64 v.v, .bool v.inner, .bool v.ok, .int .i64 v.area.start, .int .i64 v.area.stop, .int .i64 v.area.prot, .bool v.area.shared, .int .i64 v.area.back, .int .i64 v.area.off, d0, d1, d2, d3, d4] (0, 0) _ (blk_setRow HRBD.out _) Try.underlying59 rfl info_res
        have HFIN := Lib.hid HEND.out
        generalize wr.drew.setRow (lb + 1) #[.int .i64 v.v, .bool v.inner, .bool v.ok, .int .i64 v.area.start, .int .i64 v.area.stop, .int .i64 v.area.prot, .bool v.area.shared, .int .i64 v.area.back, .int .i64 v.area.off, d0, d1, d2, d3, d4] = wz at *
        exact bodyPost_ret (v := .tuple #[.agg #[.int .i64 v.v, .bool v.inner, .bool v.ok, .int .i64 v.area.start, .int .i64 v.area.stop, .int .i64 v.area.prot, .bool v.area.shared, .int .i64 v.area.back, .int .i64 v.area.off, d0, d1, d2, d3, d4], .int .i64 (r.eval σ).2.2, .bool true]) (by simp [results, Try.results28, asAddr, hrun]) rfl ⟨_, rfl, HFIN.out⟩
    | false =>
      have hlt : j < 60 := by
        have h1 := HRD.out.run.over
        rw [hov] at h1
        have h2 := HN.out
        by_cases h3 : j < 60
        · exact h3
        · simp only [Bool.false_eq, Bool.and_eq_false_iff, decide_eq_false_iff_not] at h1
          omega
      have HS := Lib.hid (HRD.out.step 64 (fun a pb => lookArg a pb hd addr kind) HF.out (RR.apart _) HR.out (j : Int) (by omega) (fun _ => by unfold lookArg; kernel_rfl))
      rw [hov] at HO
      clear hov
      obtain ⟨l0, l1, l2, l3, l4⟩ := HLB.out.at5
      go_wp2_with fail
      refine HO.out.mono ?_
      rintro e w6 ⟨rfl, rfl⟩
      go_wp2_with fail
      refine HS.out.mono ?_
      rintro e w6 ⟨bb, s', F', cs', rfl, hrd', hu, hF'⟩
      have hnot : ∀ x, w.heap.size ≤ x → x < lb + 2 → x ∉ F → x ∉ (lb + 1 + 1) :: (Pl.mk m c (lb + 3) a b).all F ∧ x ∉ F' := by
        intro x hx hx2 hxF
        have h1 := HLT.out m (by simp)
        have h2 := HLT.out c (by simp)
        have h3 := HLT.out a (by simp)
        have h4 := HLT.out b (by simp)
        have h5 := HRB.out.lt
        constructor
        · intro hin
          simp only [Pl.all, List.mem_cons] at hin
          rcases hin with e | e | e | e | e | e
          · omega
          · omega
          · omega
          · omega
          · omega
          · exact hxF e
        · intro hin
          rcases hF' x hin with e | e
          · exact hxF e
          · omega
      have HREL := Lib.hid (show _ ∧ _ ∧ _ ∧ _ ∧ _ from ⟨hrd', HLB.out.upd hu (hnot lb (by rw [HWL.out]; omega) (by omega) HF1.out).1, HRB.out.upd hu (hnot (lb + 1) (by rw [HWL.out]; omega) (by omega) HF2.out).1, (hnot lb (by rw [HWL.out]; omega) (by omega) HF1.out).2, (hnot (lb + 1) (by rw [HWL.out]; omega) (by omega) HF2.out).2⟩)
      clear hrd' hu hF' hnot l0 l1 l2 l3 l4 HS HO HRD HLB HRB HF1 HF2
      go_wp2
      go_roundw
      case rel => exact ⟨j + 1, s', F', cs', by omega, by go_num, HREL.out⟩
      case measure => simp [intOf]; omega
end Go.Proofs.Ytldccemgfjmcdaa
