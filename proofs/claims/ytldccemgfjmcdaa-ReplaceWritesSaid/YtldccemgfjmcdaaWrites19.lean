/- ReplaceWrites: a task that writes words, alone; what is read of the slot behind it. -/
import Derived.Test.YtldccemgfjmcdaaWritesP19
import Derived.Test.YtldccemgfjmcdaaRingP19
namespace Go.Proofs.Ytldccemgfjmcdaa
open Go.RowKit
set_option linter.unusedSimpArgs false
set_option linter.unusedVariables false

/-- A task that puts nothing. -/
def RC (cs : Array Value) (_ : World) (_ : Unit) (c : Array Value) : Prop := c = cs
theorem RC.apart (t : Nat) (cs : Array Value) : Apart t (RC cs) := fun _ _ _ _ _ _ h _ => h
def writeT (h : Int) (ws : List Int) : Res LandS Unit := (writeR h 0 ws).bind fun _ => .ret ()
theorem writeT_free (h : Int) (ws : List Int) : (writeT h ws).free := Res.bind_free (write_free h 0 ws) fun _ => trivial
theorem Wk.post_quiet {r0 : Res LandS Unit} {σ0 σ : LandS} {s0 s : TrS} {w0 w : World} {p : Pl} {lb pb : Nat} {n : Int} {F0 F : List Nat} {N : Nat} {ty : TypeId} {cs : Array Value}
    (h : Wk r0 σ0 s0 w0 w p lb n F0 N (.ret ()) σ s F) (hb : Blk w pb ty cs) (hp : pb ∉ p.all F0) (hp0 : pb < w0.heap.size) : TaskPostL (TaskQL w0 p σ0 s0 F0 r0 pb ty (RC cs)) p (.returned (.tuple #[])) w := by
  cases hd : s.dry with
  | true => exact h.post_dry hd ()
  | false => exact h.post_put hd hp hp0 (Upd.refl _ _) hb rfl
theorem IntsOff.far {w : World} {a : Option Addr} {len cap : Nat} {zs : List Int} {X Y : List Nat} (h : IntsOff w a len cap zs X) (hx : ∀ b, b < w.heap.size → b ∉ X → b ∉ Y) : IntsOff w a len cap zs Y := by
  refine ⟨h.ints, ?_⟩
  rcases h.off with h0 | ⟨b, o, ha, hlt, hn⟩
  · exact .inl h0
  · exact .inr ⟨b, o, ha, hlt, hx b hlt hn⟩
/-- An argument lies apart from all that is new. -/
theorem IntsOff.of_arg {w w' : World} {a : Option Addr} {len cap : Nat} {zs : List Int} {X : List Nat} (h : Ints w a len cap zs) (hb : Below w.heap.size w w') (hX : ∀ b ∈ X, w.heap.size ≤ b) : IntsOff w' a len cap zs X := by
  refine ⟨h.thru hb, ?_⟩
  rcases h.reads with h0 | ⟨b, o, ha, hlt, -⟩
  · refine .inl ?_
    cases zs with
    | nil => rfl
    | cons z zs => simp at h0
  · exact .inr ⟨b, o, ha, Nat.lt_of_lt_of_le hlt hb.size, fun hin => by have := hX _ hin; omega⟩
set_option maxRecDepth 100000 in
set_option maxHeartbeats 4000000 in
theorem writing_run (h : Int) (a : Option Addr) (len cap : Nat) (zs : List Int) (lb : Nat) (n : Int) (pb : Nat) (ty : TypeId) (cs : Array Value) (p : Pl) (σ : LandS) (s : TrS) (F : List Nat) (N : Nat) (w : World) (ht : TL w p σ s F) (hi : s.In N) (hN : N ≤ 1000000) (hov : s.over = false)
    (hp : Blk w pb ty cs) (hpf : pb ∉ p.all F) (hl : Blk w lb 93 #[.pointer (some ⟨p.m, 0, none⟩), .pointer (some ⟨p.a, 0, none⟩), .int .i64 n]) (hf : lb ∉ p.all F) (hh : WfI h) (hz : IntsOff w a len cap zs (p.all F)) :
    Calls Try.prog 55 #[.agg #[.pointer (some ⟨lb, 0, none⟩), .int .i64 h, .slice a len cap], .pointer (some ⟨p.t, 0, none⟩)] w (TaskPostL (TaskQL w p σ s F (writeT h (zs.take 26)) pb ty (RC cs)) p) := by
  have W0 := Lib.hid (Wk.start ht hi hov hl hf (writeT h (zs.take 26)))
  have HP := Lib.hid hp
  have HPF := Lib.hid hpf
  have HPL := Lib.hid hp.lt
  have HZS := Lib.hid hz
  have HH := Lib.hid hh
  clear ht hi hov hl hf hp hpf hz hh
  go_enter Try.func55, Try.ntmps55
  replace W0 := Lib.hid (W0.out.thru (below_alloc0 w (.cells #[.pointer (some ⟨lb, 0, none⟩), .int .i64 h, .slice a len cap] 119)))
  replace HP := Lib.hid (HP.out.thru (below_alloc0 w (.cells #[.pointer (some ⟨lb, 0, none⟩), .int .i64 h, .slice a len cap] 119)))
  replace HZS := Lib.hid (HZS.out.thru (below_alloc0 w (.cells #[.pointer (some ⟨lb, 0, none⟩), .int .i64 h, .slice a len cap] 119)))
  have HCB := Lib.hid (Blk.new w 119 #[.pointer (some ⟨lb, 0, none⟩), .int .i64 h, .slice a len cap])
  go_upto_region 1 with fail
  have HZ := Lib.hid (World.size_alloc w (.cells #[.pointer (some ⟨lb, 0, none⟩), .int .i64 h, .slice a len cap] 119))
  obtain ⟨cb, hcb⟩ : ∃ x, w.heap.size = x := ⟨_, rfl⟩
  simp only [hcb] at HCB HZ ⊢
  replace hcb := Lib.hid hcb
  generalize w.alloc (.cells #[.pointer (some ⟨lb, 0, none⟩), .int .i64 h, .slice a len cap] 119) = w1 at *
  obtain ⟨l0, l1, l2⟩ := HCB.out.at3
  have HT := Lib.hid (replace_write h a len cap zs p lb n σ s F N w1 W0.out.at_.tl W0.out.at_.inn hN W0.out.at_.over W0.out.land W0.out.far HH.out HZS.out)
  go_wp2_with fail
  refine HT.out.mono ?_
  rintro e w3 hd
  obtain ⟨v, x, σ3, s3, F3, rfl, -, hw, hk⟩ := W0.out.call hd
  have HE := Lib.hid (hw.post_quiet (hk.blk HP.out HPF.out) HPF.out HPL.out)
  clear hd HT hw hk W0 HP HCB l0 l1 l2
  go_wp2
  go_end0
  exact HE.out
/-! ### What is read of the slot -/
theorem MemIs.look {μ : MemS} {len : Nat} {f : Nat → Int} (h : MemIs μ len f) {i n : Nat} (hi : i + n ≤ len) : (μ.look (i : Int) (n : Int)).length = n ∧ ∀ k, k < n → (μ.look (i : Int) (n : Int)).getD k 0 = f (i + k) := by
  have hl := h.1
  refine ⟨by simp [MemS.look]; omega, fun k hk => ?_⟩
  rw [← h.2 (i + k) (by omega)]
  simp only [MemS.look, Int.toNat_natCast, List.getD_eq_getElem?_getD]
  rw [List.getElem?_take_of_lt hk, List.getElem?_drop]
/-- What a look at a slot's words tells. -/
theorem LIs.words {σ : LandS} {N : Nat} {f : Nat → Int} {α : ArS} (h : LIs σ (24 + 30 * N) f α) {s : Nat} (h1 : 1 ≤ s) (h2 : s ≤ N) : (σ.mu.look (cl N s 0 : Nat) 28).length = 28 ∧ ∀ k, k < 28 → (σ.mu.look (cl N s 0 : Nat) 28).getD k 0 = f (cl N s k) := by
  obtain ⟨e1, e2⟩ := h.1.look (i := cl N s 0) (n := 28) (by have := (cl_lt (N := N) h1 h2 (show 27 < 28 by omega)).1; unfold cl at *; omega)
  refine ⟨e1, fun k hk => ?_⟩
  have := e2 k hk
  rw [show cl N s 0 + k = cl N s k by unfold cl; omega] at this
  exact this
/-- The state behind a writing. -/
structure Wrote (σ σ' : LandS) (h : Int) (st : Bool) (ws : List Int) (X Y : List Int) : Prop where
  n : ((writeT h ws).eval σ).2.2 = ws.length
  s : ((writeT h ws).eval σ).2.1 = σ'
  x : σ.mu.look (σ.ar.cell h 0) 28 = X
  y : σ'.mu.look (σ'.ar.cell h 0) 28 = Y
  xl : X.length = 28
  yl : Y.length = 28
  put : ∀ k, k < 28 → Y.getD k 0 = if k < ws.length then ws.getD k 0 else X.getD k 0
  stale : σ'.ar.stale = (st && decide (0 < ws.length))
theorem writes_plain {σ : LandS} {f : Nat → Int} {α : ArS} (h : LIs σ 114 f α) (hr : Rel 3 f α (LS.new 3).take.2) (st : Bool) (hd : Int) (hhd : hd = if st then 131074 else 65538) (ws : List Int) (hw : ws.length ≤ 26) :
    ∃ σ' X Y, Wrote σ σ' hd st ws X Y := by
  have hsl : slotOf hd = 2 := by subst hhd; cases st <;> decide
  have hc : ∀ wd : Nat, wd < 28 → α.cell hd wd = (cl 3 2 wd : Nat) := fun wd hwd => hr.cell (by omega) (by omega) hwd hsl
  obtain ⟨σ', e, h'⟩ := (Ev.write (N := 3) (s := 2) (h := hd) (by omega) (by omega) ws 0 f α (by omega) hc).bind (k := fun _ => (Res.ret () : Res LandS Unit)) (Ev.ret _) σ h
  have e2 : (writeT hd ws).eval σ = ((), σ', ws.length + 0) := e
  have hca : σ.ar.cell hd 0 = (cl 3 2 0 : Nat) := by rw [h.2]; exact hc 0 (by omega)
  have hca' : σ'.ar.cell hd 0 = (cl 3 2 0 : Nat) := by
    rw [h'.2]
    split
    · exact hc 0 (by omega)
    · rw [touch_cell]; exact hc 0 (by omega)
  obtain ⟨x1, x2⟩ := LIs.words (N := 3) h (s := 2) (by omega) (by omega)
  obtain ⟨y1, y2⟩ := LIs.words (N := 3) h' (s := 2) (by omega) (by omega)
  refine ⟨σ', _, _, ⟨by rw [e2]; rfl, by rw [e2], rfl, rfl, by rw [hca]; exact x1, by rw [hca']; exact y1, ?_, ?_⟩⟩
  · intro k hk
    rw [hca, hca', y2 k hk, x2 k hk]
    have ek : cl 3 2 k = cl 3 2 0 + k := by unfold cl; omega
    rw [ek]
    by_cases hkl : k < ws.length
    · rw [if_pos hkl]; exact wroteF_in ws f _ k hkl
    · rw [if_neg hkl]; exact wroteF_out ws f _ _ (by omega)
  · rw [h'.2]
    cases ws with
    | nil => rw [if_pos rfl, hr.clean.1]; simp
    | cons z zs =>
      rw [if_neg (List.cons_ne_nil _ _)]
      simp only [List.length_cons, Nat.zero_lt_succ, decide_true, Bool.and_true]
      have hrt : α.right hd = !st := by
        cases st with
        | false =>
          obtain ⟨-, h2, -⟩ := hr.right sm2 (by omega) has2
          rw [hhd]
          exact h2
        | true =>
          have h22 := hr.at_ (s := 2) (by omega) (by omega)
          unfold ArS.right ArS.handle
          rw [hsl, show (2 : Int) = ((2 : Nat) : Int) from rfl, h22, hhd]
          have e4 : (LS.new 3).take.2.gen.getD (2 - 1) 0 = 1 := by decide
          have e5 : hand 1 ((2 : Nat) : Int) = 65538 := by unfold hand wrap64; omega
          rw [e4, e5]
          have e3 : ((65538 : Int) == (if true = true then (131074 : Int) else 65538)) = false := by decide
          rw [e3, Bool.and_false]
          rfl
      unfold ArS.touch
      rw [hrt]
      cases st with
      | false => exact hr.clean.1
      | true => rfl
end Go.Proofs.Ytldccemgfjmcdaa
