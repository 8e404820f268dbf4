/- Where a task on a land is: the trail, the arena, the land's struct, and what is still to be done. -/
import Derived.Test.YtldccemgfjmcdaaSeekA
namespace Go.Proofs.Ytldccemgfjmcdaa
open Go.RowKit
set_option linter.unusedSimpArgs false
set_option linter.unusedVariables false

/-! ### Accesses -/
def ldR (i : Int) : Res LandS Int := .acc (liftD (dLoad i)) .ret
def stR (i v : Int) : Res LandS Unit := .acc (liftD (dStore i v)) fun _ => .ret ()
/-- Of a slot's word: where it lies is asked of the arena. -/
def cldR (hd wd : Int) : Res LandS Int := .acc (fun σ => liftD (dLoad (σ.ar.cell hd wd)) σ) .ret
def cstR (hd wd v : Int) : Res LandS Unit := .acc (fun σ => liftD (dStore (σ.ar.cell hd wd) v) σ) fun _ => .ret ()
/-- .. and the arena is told when it is fresh. -/
def stTellR (i v : Int) (g : ArS → ArS) : Res LandS Unit := .acc (tellD (dStore i v) g) fun _ => .ret ()
def cstTellR (hd wd v : Int) (g : ArS → ArS) : Res LandS Unit := .acc (fun σ => tellD (dStore (σ.ar.cell hd wd) v) g σ) fun _ => .ret ()
theorem store_wf {μ : MemS} (h : WfM μ) {v : Int} (hv : WfI v) (i : Int) : WfM (μ.store i v).2 := by
  unfold MemS.store
  split
  · intro x hx
    simp only [MemS.tick] at hx
    rcases List.mem_or_eq_of_mem_set hx with hx | hx
    · exact h x hx
    · exact hx ▸ hv
  · exact h
theorem dst_good (i : Int) {v : Int} (hv : WfI v) : ∀ x, WfM x → WfI (dStore i v x).1 ∧ WfM (dStore i v x).2.2 := fun x hx => ⟨WfI.zero, store_wf hx hv i⟩
theorem ld_good (i : Int) : (ldR i).Good WfL := ⟨fun x hx => load_wf hx _, fun _ _ => trivial⟩
theorem cld_good (hd wd : Int) : (cldR hd wd).Good WfL := ⟨fun x hx => load_wf hx _, fun _ _ => trivial⟩
theorem st_good (i : Int) {v : Int} (hv : WfI v) : (stR i v).Good WfL := ⟨fun x hx => ⟨WfI.zero, store_wf hx hv _⟩, fun _ _ => trivial⟩
theorem cst_good (hd wd : Int) {v : Int} (hv : WfI v) : (cstR hd wd v).Good WfL := ⟨fun x hx => ⟨WfI.zero, store_wf hx hv _⟩, fun _ _ => trivial⟩
theorem stTell_good (i : Int) {v : Int} (hv : WfI v) (g : ArS → ArS) : (stTellR i v g).Good WfL := ⟨fun x hx => ⟨WfI.zero, store_wf hx hv _⟩, fun _ _ => trivial⟩
theorem cstTell_good (hd wd : Int) {v : Int} (hv : WfI v) (g : ArS → ArS) : (cstTellR hd wd v g).Good WfL := ⟨fun x hx => ⟨WfI.zero, store_wf hx hv _⟩, fun _ _ => trivial⟩
theorem ld_free (i : Int) : (ldR i).free := ⟨fun _ => rfl, fun _ => trivial⟩
theorem cld_free (hd wd : Int) : (cldR hd wd).free := ⟨fun _ => rfl, fun _ => trivial⟩
theorem st_free (i v : Int) : (stR i v).free := ⟨fun _ => rfl, fun _ => trivial⟩
theorem cst_free (hd wd v : Int) : (cstR hd wd v).free := ⟨fun _ => rfl, fun _ => trivial⟩
theorem stTell_free (i v : Int) (g : ArS → ArS) : (stTellR i v g).free := ⟨fun _ => rfl, fun _ => trivial⟩
theorem cstTell_free (hd wd v : Int) (g : ArS → ArS) : (cstTellR hd wd v g).free := ⟨fun _ => rfl, fun _ => trivial⟩

/-- Where a task is. -/
structure Wk {β : Type} (r0 : Res LandS β) (σ0 : LandS) (s0 : TrS) (w0 w : World) (p : Pl) (lb : Nat) (n : Int) (F0 : List Nat) (N : Nat) (rest : Res LandS β) (σ : LandS) (s : TrS) (F : List Nat) : Prop where
  at_ : AtL w0 w p σ s F0 F N
  land : Blk w lb 93 #[.pointer (some ⟨p.m, 0, none⟩), .pointer (some ⟨p.a, 0, none⟩), .int .i64 n]
  far : lb ∉ p.all F
  goes : GoesL r0 σ0 s0 rest σ s
/-- A store was done of which the arena is still to be told. -/
structure Half {β : Type} (r0 : Res LandS β) (σ0 : LandS) (s0 : TrS) (w0 w : World) (p : Pl) (lb : Nat) (n : Int) (F0 : List Nat) (N : Nat) (g : ArS → ArS) (rest : Res LandS β) (σ : LandS) (s : TrS) (F : List Nat) : Prop where
  at_ : AtL w0 w p σ s F0 F N
  land : Blk w lb 93 #[.pointer (some ⟨p.m, 0, none⟩), .pointer (some ⟨p.a, 0, none⟩), .int .i64 n]
  far : lb ∉ p.all F
  yes : s.fresh = true → GoesL r0 σ0 s0 rest ⟨σ.mu, g σ.ar⟩ s
  no : s.fresh = false → GoesL r0 σ0 s0 rest σ s
section
variable {β γ : Type} {r0 : Res LandS β} {σ0 σ : LandS} {s0 s : TrS} {w0 w w' : World} {p : Pl} {lb : Nat} {n : Int} {F0 F : List Nat} {N : Nat} {rest rest' : Res LandS β}
theorem Wk.start (h : TL w p σ s F) (hi : s.In N) (ho : s.over = false) (hl : Blk w lb 93 #[.pointer (some ⟨p.m, 0, none⟩), .pointer (some ⟨p.a, 0, none⟩), .int .i64 n]) (hf : lb ∉ p.all F) (r : Res LandS β) : Wk r σ s w w p lb n F N r σ s F :=
  ⟨AtL.first h hi ho, hl, hf, GoesL.refl _ _ _⟩
theorem Wk.eq (h : Wk r0 σ0 s0 w0 w p lb n F0 N rest σ s F) (e : rest = rest') : Wk r0 σ0 s0 w0 w p lb n F0 N rest' σ s F := e ▸ h
theorem Wk.thru (h : Wk r0 σ0 s0 w0 w p lb n F0 N rest σ s F) (hb : Below w.heap.size w w') : Wk r0 σ0 s0 w0 w' p lb n F0 N rest σ s F := ⟨h.at_.thru hb, h.land.thru hb, h.far, h.goes⟩
theorem Half.thru {g : ArS → ArS} (h : Half r0 σ0 s0 w0 w p lb n F0 N g rest σ s F) (hb : Below w.heap.size w w') : Half r0 σ0 s0 w0 w' p lb n F0 N g rest σ s F := ⟨h.at_.thru hb, h.land.thru hb, h.far, h.yes, h.no⟩
/-- A call of a task does what is next. -/
theorem Wk.call {R : World → γ → Value → Prop} {r1 : Res LandS γ} {f : γ → Res LandS β} {e : Ending} (h : Wk r0 σ0 s0 w0 w p lb n F0 N (r1.bind f) σ s F) (hd : DoesL R w p σ s F r1 e w') :
    ∃ v x σ' s' F', e = .returned x ∧ R w' v x ∧ Wk r0 σ0 s0 w0 w' p lb n F0 N (f v) σ' s' F' ∧ Keeps w w' p F F' := by
  obtain ⟨v, x, σ', s', F', he, hR, hs, ha, hk⟩ := h.at_.doesK hd
  exact ⟨v, x, σ', s', F', he, hR, ⟨ha, hk.blk h.land h.far, hk.notin h.land.lt h.far, h.goes.trans (GoesL.bind hs)⟩, hk⟩
theorem Wk.ends {R : World → β → Value → Prop} {v : β} {x : Value} (h : Wk r0 σ0 s0 w0 w p lb n F0 N (.ret v) σ s F) (hR : R w v x) : DoesL R w0 p σ0 s0 F0 r0 (.returned x) w :=
  ⟨v, x, σ, s, rfl, hR, h.goes.end_ret, h.at_.tls⟩
theorem Wk.ends_dry {R : World → β → Value → Prop} {x : Value} (h : Wk r0 σ0 s0 w0 w p lb n F0 N rest σ s F) (hd : s.dry = true) (v : β) (hR : R w v x) : DoesL R w0 p σ0 s0 F0 r0 (.returned x) w :=
  ⟨v, x, σ, s, rfl, hR, h.goes.end_dry hd v, h.at_.tls⟩
/-- A dry task: whatever. -/
theorem Wk.any (h : Wk r0 σ0 s0 w0 w p lb n F0 N rest σ s F) (hd : s.dry = true) (rest' : Res LandS β) : Wk r0 σ0 s0 w0 w p lb n F0 N rest' σ s F := ⟨h.at_, h.land, h.far, h.goes.dry hd⟩
theorem Wk.dry_ok (h : Wk r0 σ0 s0 w0 w p lb n F0 N rest σ s F) : Calls Try.prog 77 #[.pointer (some ⟨p.t, 0, none⟩)] w fun e w' => e = .returned (.bool s.dry) ∧ w = w' := by
  have := t_dry p.m p.c p.t σ.mu s F w h.at_.tl.tm
  rw [h.at_.over, Bool.not_false, Bool.and_true] at this
  exact this
theorem Wk.cell (h : Wk r0 σ0 s0 w0 w p lb n F0 N rest σ s F) (hd wd : Int) (hh : hd < 9223372036854775808) : Calls Try.prog 34 #[.pointer (some ⟨p.a, 0, none⟩), .int .i64 hd, .int .i64 wd] w fun e w' => e = .returned (.int .i64 (σ.ar.cell hd wd)) ∧ w = w' :=
  arena_cell p.a p.b σ.ar hd wd w h.at_.tl.ar hh
theorem run_ld (i : Int) (σ : LandS) (s : TrS) : (ldR i).run σ s = ((s.acc (dLoad i) σ.mu).1, ⟨(s.acc (dLoad i) σ.mu).2.1, σ.ar⟩, (s.acc (dLoad i) σ.mu).2.2) := by
  simp only [ldR, Res.run]
  rw [acc_lift]
theorem run_cld (hd wd : Int) (σ : LandS) (s : TrS) : (cldR hd wd).run σ s = (ldR (σ.ar.cell hd wd)).run σ s := by
  simp only [cldR, ldR, Res.run]
  have h := acc_congr (d := (fun σ => liftD (dLoad (σ.ar.cell hd wd)) σ)) (d' := liftD (dLoad (σ.ar.cell hd wd))) (x := σ) s rfl
  rw [h]
theorem run_st (i v : Int) (σ : LandS) (s : TrS) : (stR i v).run σ s = ((), ⟨(s.acc (dStore i v) σ.mu).2.1, σ.ar⟩, (s.acc (dStore i v) σ.mu).2.2) := by
  simp only [stR, Res.run]
  rw [acc_lift]
theorem run_cst (hd wd v : Int) (σ : LandS) (s : TrS) : (cstR hd wd v).run σ s = (stR (σ.ar.cell hd wd) v).run σ s := by
  simp only [cstR, stR, Res.run]
  have h := acc_congr (d := (fun σ => liftD (dStore (σ.ar.cell hd wd) v) σ)) (d' := liftD (dStore (σ.ar.cell hd wd) v)) (x := σ) s rfl
  rw [h]
theorem run_stTell (i v : Int) (g : ArS → ArS) (σ : LandS) (s : TrS) : (stTellR i v g).run σ s = ((), ⟨(s.acc (dStore i v) σ.mu).2.1, if (s.acc (dStore i v) σ.mu).2.2.fresh = true then g σ.ar else σ.ar⟩, (s.acc (dStore i v) σ.mu).2.2) := by
  simp only [stTellR, Res.run]
  rw [acc_tell]
theorem run_cstTell (hd wd v : Int) (g : ArS → ArS) (σ : LandS) (s : TrS) : (cstTellR hd wd v g).run σ s = (stTellR (σ.ar.cell hd wd) v g).run σ s := by
  simp only [cstTellR, stTellR, Res.run]
  have h := acc_congr (d := (fun σ => tellD (dStore (σ.ar.cell hd wd) v) g σ)) (d' := tellD (dStore (σ.ar.cell hd wd) v) g) (x := σ) s rfl
  rw [h]
theorem AtL.stepK {v : γ} {r : Res LandS γ} {σ' : LandS} {s' : TrS} (a : AtL w0 w p σ s F0 F N) (hs : Sim (r.run σ s) (v, σ', s')) (ht : TLs w w' p σ' s' F) : ∃ F', AtL w0 w' p σ' s' F0 F' N ∧ Keeps w w' p F F' := by
  obtain ⟨F', ht, hF, hu⟩ := ht
  obtain ⟨F2, a'⟩ := a.step hs ⟨F', ht, hF, hu⟩
  refine ⟨F', ⟨ht, fun b hb => ?_, a'.upd, a'.inn, a'.over⟩, hu, hF⟩
  rcases hF b hb with h | h
  · exact a.sub b h
  · exact .inr (Nat.le_trans a.upd.size h)
/-- Load: what is next. -/
def LdPost (r0 : Res LandS β) (σ0 : LandS) (s0 : TrS) (w0 : World) (p : Pl) (lb : Nat) (n : Int) (F0 : List Nat) (N : Nat) (f : Int → Res LandS β) (w : World) (F : List Nat) (α : ArS) (e : Ending) (w' : World) : Prop :=
  ∃ v σ' s' F', e = .returned (.int .i64 v) ∧ WfI v ∧ Wk r0 σ0 s0 w0 w' p lb n F0 N (f v) σ' s' F' ∧ Keeps w w' p F F' ∧ σ'.ar = α
def StPost (r0 : Res LandS β) (σ0 : LandS) (s0 : TrS) (w0 : World) (p : Pl) (lb : Nat) (n : Int) (F0 : List Nat) (N : Nat) (f : Res LandS β) (w : World) (F : List Nat) (α : ArS) (e : Ending) (w' : World) : Prop :=
  e = .returned (.tuple #[]) ∧ ∃ σ' s' F', Wk r0 σ0 s0 w0 w' p lb n F0 N f σ' s' F' ∧ Keeps w w' p F F' ∧ σ'.ar = α
theorem Wk.ld {i : Int} {f : Int → Res LandS β} (h : Wk r0 σ0 s0 w0 w p lb n F0 N ((ldR i).bind f) σ s F) (hN : N ≤ 1000000) :
    Calls Try.prog 96 #[.pointer (some ⟨p.t, 0, none⟩), .int .i64 i] w (LdPost r0 σ0 s0 w0 p lb n F0 N f w F σ.ar) :=
  (t_load p.m p.c p.t σ.mu s F i w h.at_.tl.tm (h.at_.ok hN)).mono fun e w' ⟨he, ht⟩ => by
    obtain ⟨g1, g2, g3⟩ := acc_good (dload_good i) h.at_.tl.wm h.at_.tl.wt
    have hs : Sim ((ldR i).run σ s) ((s.acc (dLoad i) σ.mu).1, ⟨(s.acc (dLoad i) σ.mu).2.1, σ.ar⟩, (s.acc (dLoad i) σ.mu).2.2) := by rw [run_ld]; exact Sim.refl _
    obtain ⟨F', ha, hk⟩ := h.at_.stepK hs (TLs.of_tm h.at_.tl ht g2 g3)
    exact ⟨_, _, _, F', he, g1, ⟨ha, hk.blk h.land h.far, hk.notin h.land.lt h.far, h.goes.trans (GoesL.bind hs)⟩, hk, rfl⟩
theorem Wk.cld {hd wd : Int} {f : Int → Res LandS β} (h : Wk r0 σ0 s0 w0 w p lb n F0 N ((cldR hd wd).bind f) σ s F) (hN : N ≤ 1000000) :
    Calls Try.prog 96 #[.pointer (some ⟨p.t, 0, none⟩), .int .i64 (σ.ar.cell hd wd)] w (LdPost r0 σ0 s0 w0 p lb n F0 N f w F σ.ar) := by
  refine Wk.ld (i := σ.ar.cell hd wd) (f := f) ⟨h.at_, h.land, h.far, h.goes.trans fun o ho => ?_⟩ hN
  rw [run_bind] at ho ⊢
  rw [run_cld]
  exact ho
theorem Wk.st {i v : Int} {f : Unit → Res LandS β} (h : Wk r0 σ0 s0 w0 w p lb n F0 N ((stR i v).bind f) σ s F) (hv : WfI v) (hN : N ≤ 1000000) :
    Calls Try.prog 90 #[.pointer (some ⟨p.t, 0, none⟩), .int .i64 i, .int .i64 v] w (StPost r0 σ0 s0 w0 p lb n F0 N (f ()) w F σ.ar) :=
  (t_store p.m p.c p.t σ.mu s F i v w h.at_.tl.tm (h.at_.ok hN)).mono fun e w' ⟨he, ht⟩ => by
    obtain ⟨g1, g2, g3⟩ := acc_good (dst_good i hv) h.at_.tl.wm h.at_.tl.wt
    have hs : Sim ((stR i v).run σ s) ((), ⟨(s.acc (dStore i v) σ.mu).2.1, σ.ar⟩, (s.acc (dStore i v) σ.mu).2.2) := by rw [run_st]; exact Sim.refl _
    obtain ⟨F', ha, hk⟩ := h.at_.stepK hs (TLs.of_tm h.at_.tl ht g2 g3)
    exact ⟨he, _, _, F', ⟨ha, hk.blk h.land h.far, hk.notin h.land.lt h.far, h.goes.trans (GoesL.bind hs)⟩, hk, rfl⟩
theorem Wk.cst {hd wd v : Int} {f : Unit → Res LandS β} (h : Wk r0 σ0 s0 w0 w p lb n F0 N ((cstR hd wd v).bind f) σ s F) (hv : WfI v) (hN : N ≤ 1000000) :
    Calls Try.prog 90 #[.pointer (some ⟨p.t, 0, none⟩), .int .i64 (σ.ar.cell hd wd), .int .i64 v] w (StPost r0 σ0 s0 w0 p lb n F0 N (f ()) w F σ.ar) := by
  refine Wk.st (i := σ.ar.cell hd wd) (f := f) ⟨h.at_, h.land, h.far, h.goes.trans fun o ho => ?_⟩ hv hN
  rw [run_bind] at ho ⊢
  rw [run_cst]
  exact ho
/-- A store of which the arena is to be told. -/
def HalfPost (r0 : Res LandS β) (σ0 : LandS) (s0 : TrS) (w0 : World) (p : Pl) (lb : Nat) (n : Int) (F0 : List Nat) (N : Nat) (g : ArS → ArS) (f : Res LandS β) (w : World) (F : List Nat) (α : ArS) (e : Ending) (w' : World) : Prop :=
  e = .returned (.tuple #[]) ∧ ∃ σ' s' F', Half r0 σ0 s0 w0 w' p lb n F0 N g f σ' s' F' ∧ Keeps w w' p F F' ∧ σ'.ar = α
theorem Wk.half {i v : Int} {g : ArS → ArS} {f : Unit → Res LandS β} (h : Wk r0 σ0 s0 w0 w p lb n F0 N ((stTellR i v g).bind f) σ s F) (hv : WfI v) (hN : N ≤ 1000000) :
    Calls Try.prog 90 #[.pointer (some ⟨p.t, 0, none⟩), .int .i64 i, .int .i64 v] w (HalfPost r0 σ0 s0 w0 p lb n F0 N g (f ()) w F σ.ar) :=
  (t_store p.m p.c p.t σ.mu s F i v w h.at_.tl.tm (h.at_.ok hN)).mono fun e w' ⟨he, ht⟩ => by
    obtain ⟨g1, g2, g3⟩ := acc_good (dst_good i hv) h.at_.tl.wm h.at_.tl.wt
    have hs : Sim ((stR i v).run σ s) ((), ⟨(s.acc (dStore i v) σ.mu).2.1, σ.ar⟩, (s.acc (dStore i v) σ.mu).2.2) := by rw [run_st]; exact Sim.refl _
    obtain ⟨F', ha, hk⟩ := h.at_.stepK hs (TLs.of_tm h.at_.tl ht g2 g3)
    refine ⟨he, _, _, F', ⟨ha, hk.blk h.land h.far, hk.notin h.land.lt h.far, fun hf => ?_, fun hf => ?_⟩, hk, rfl⟩
    · refine h.goes.trans (GoesL.bind ?_)
      rw [run_stTell, if_pos hf]
      exact Sim.refl _
    · refine h.goes.trans (GoesL.bind ?_)
      rw [run_stTell, if_neg (by rw [hf]; simp)]
      exact Sim.refl _
theorem Wk.chalf {hd wd v : Int} {g : ArS → ArS} {f : Unit → Res LandS β} (h : Wk r0 σ0 s0 w0 w p lb n F0 N ((cstTellR hd wd v g).bind f) σ s F) (hv : WfI v) (hN : N ≤ 1000000) :
    Calls Try.prog 90 #[.pointer (some ⟨p.t, 0, none⟩), .int .i64 (σ.ar.cell hd wd), .int .i64 v] w (HalfPost r0 σ0 s0 w0 p lb n F0 N g (f ()) w F σ.ar) := by
  refine Wk.half (i := σ.ar.cell hd wd) (f := f) ⟨h.at_, h.land, h.far, h.goes.trans fun o ho => ?_⟩ hv hN
  rw [run_bind] at ho ⊢
  rw [run_cstTell]
  exact ho
theorem Half.fresh_ok {g : ArS → ArS} (h : Half r0 σ0 s0 w0 w p lb n F0 N g rest σ s F) : Calls Try.prog 91 #[.pointer (some ⟨p.t, 0, none⟩)] w fun e w' => e = .returned (.bool s.fresh) ∧ w = w' :=
  t_fresh p.m p.c p.t σ.mu s F w h.at_.tl.tm
theorem Half.not {g : ArS → ArS} (h : Half r0 σ0 s0 w0 w p lb n F0 N g rest σ s F) (hf : s.fresh = false) : Wk r0 σ0 s0 w0 w p lb n F0 N rest σ s F := ⟨h.at_, h.land, h.far, h.no hf⟩
/-- The arena was told. -/
theorem Half.told {g : ArS → ArS} (h : Half r0 σ0 s0 w0 w p lb n F0 N g rest σ s F) (hf : s.fresh = true) (ha : ArAt w' p.a p.b (g σ.ar)) (hu : Upd [p.a, p.b] w w') : Wk r0 σ0 s0 w0 w' p lb n F0 N rest ⟨σ.mu, g σ.ar⟩ s F ∧ Keeps w w' p F F := by
  have hup : Upd (p.all F) w w' := hu.mono (by intro b hb; simp [Pl.all] at hb ⊢; rcases hb with h | h <;> simp [h])
  refine ⟨⟨⟨h.at_.tl.with_ar ha hu, h.at_.sub, h.at_.upd.trans_new hup fun b hb => ?_, h.at_.inn, h.at_.over⟩, h.land.upd hup h.far, h.far, h.yes hf⟩, hup, fun _ hb => .inl hb⟩
  simp only [Pl.all, List.mem_cons] at hb ⊢
  rcases hb with rfl | rfl | rfl | rfl | hb
  · simp
  · simp
  · simp
  · simp
  · rcases h.at_.sub b hb with h | h
    · simp [h]
    · exact .inr h
end
end Go.Proofs.Ytldccemgfjmcdaa
