/- TrailTurns, walked: whatever programs, and in whatever turns. -/
import Derived.Test.YtcphidmfdakbeaaShow03
import Derived.Test.YtcphidmfdakbeaaGThsB
import Derived.Test.YtcphidmfdakbeaaAlone
import Derived.Test.YtcphidmfdakbeaaGrid
namespace Go.Proofs.Ytcphidmfdakbeaa
open Go.RowKit
set_option linter.unusedSimpArgs false
set_option linter.unusedVariables false

/-! ### A program's thread, and the chapter's -/
structure TS3 where
  l : List OpV
  u : R3
  b : Bool
def TS3.place (x : TS3) : Res MemS Int := progR (skip (x.l.drop x.u.at_)) x.u.sum
def TS3.task (x : TS3) : Res MemS Int := progR x.l 0
def TS3.next (x : TS3) (time : Int) (μ : MemS) : TS3 := ⟨x.l, (x.u.step x.l time μ).1, true⟩
structure TS3.Ok (x : TS3) : Prop where
  ops : ∀ o ∈ x.l, o.Ok
  few : x.l.length ≤ 25
  at_ : x.u.at_ ≤ x.l.length
  told : x.u.told + x.u.marks.length ≤ x.u.at_
  sum : wrap64 x.u.sum = x.u.sum
def R3s (s : TrS) (x : TS3) : Prop := x.Ok ∧ s.told.length = x.u.told ∧ s.marks = x.u.marks

theorem skip_suffix (l : List OpV) : skip l <:+ l := by
  induction l with
  | nil => exact List.suffix_refl _
  | cons o l ih =>
    simp only [skip]
    cases o.isMark with
    | true => exact ih.trans (List.suffix_cons _ _)
    | false => exact List.suffix_refl _
theorem drop_suffix_len {l s : List OpV} (h : s <:+ l) : l.drop (l.length - s.length) = s := (List.suffix_iff_eq_drop.1 h).symm
theorem skip_end (l : List OpV) : skip (l.drop l.length) = [] := by rw [List.drop_length]; rfl

theorem TS3.Ok.next {x : TS3} (h : x.Ok) (time : Int) (μ : MemS) :
    (x.place.step μ).1 = (x.next time μ).place ∧ (x.place.step μ).2.1 = (x.u.step x.l time μ).2 ∧ x.u.told + (x.place.tells μ).length = (x.next time μ).u.told ∧
      x.u.marks ++ (x.place.step μ).2.2.map (fun k => (k, time)) = (x.next time μ).u.marks ∧ (x.next time μ).Ok := by
  obtain ⟨l, u, b⟩ := x
  obtain ⟨hok, hfew, hat, htold, hsum⟩ := h
  simp only at hok hfew hat htold hsum
  have hsf : skip (l.drop u.at_) <:+ l := (skip_suffix _).trans (List.drop_suffix _ _)
  have hsl : (skip (l.drop u.at_)).length ≤ l.length - u.at_ := by have := (skip_suffix (l.drop u.at_)).length_le; simpa using this
  unfold TS3.next TS3.place R3.step
  simp only
  cases hs : skip (l.drop u.at_) with
  | nil =>
    simp only
    refine ⟨?_, rfl, rfl, by simp [Res.step, progR], ⟨hok, hfew, Nat.le_refl _, by simp only; omega, hsum⟩⟩
    rw [skip_end]
    rfl
  | cons o rest =>
    have hm := skip_head hs
    have hin : ∀ o' ∈ o :: rest, o'.Ok := fun o' ho' => hok o' (hsf.mem (by rw [hs]; exact ho'))
    rw [hs] at hsl hsf
    simp only [List.length_cons] at hsl
    simp only
    rw [prog_acc o rest u.sum (hin o (by simp)) hm]
    cases he : (o.acc u.sum μ).2.1 with
    | true =>
      obtain ⟨e1, e2⟩ := prog_next rest (wrap64 (u.sum + o.got (o.acc u.sum μ).1)) (fun o' ho' => hin o' (by simp [ho'])) (wrap_wrap _)
      have hsf2 : skip rest <:+ l := ((skip_suffix rest).trans (List.suffix_cons _ _)).trans hsf
      have hk := kinds_len rest
      simp only [Res.step, Res.tells, he, if_true, e1, e2]
      refine ⟨?_, (by first | trivial | rfl), (by first | trivial | rfl | simp), (by first | trivial | rfl | simp), ⟨hok, hfew, by simp only; omega, ?_, wrap_wrap _⟩⟩
      · rw [drop_suffix_len hsf2, skip_skip]
      · have h1 := hsf2.length_le
        simp only [List.length_append, List.length_map]
        omega
    | false =>
      simp only [Res.step, Res.tells, he, Bool.false_eq_true, if_false]
      refine ⟨?_, (by first | trivial | rfl), (by first | trivial | rfl | simp), by simp, ⟨hok, hfew, by simp only; omega, by simp only; omega, hsum⟩⟩
      rw [show l.length - (rest.length + 1) = l.length - (o :: rest).length from rfl, drop_suffix_len hsf]
      rw [show skip (o :: rest) = o :: rest by simp only [skip, hm, cond_false]]
      exact (prog_acc o rest u.sum (hin o (by simp)) hm).symm

theorem TS3.Ok.ret {x : TS3} (h : x.Ok) : x.place.isRet = (skip (x.l.drop x.u.at_)).isEmpty :=
  prog_ret _ _ (fun o ho => h.ops o (((skip_suffix _).trans (List.drop_suffix _ _)).mem ho)) (skip_skip _)
theorem TS3.Ok.over {x : TS3} (h : x.Ok) (hr : x.place.isRet = true) : x.place = .ret x.u.sum := by
  have h1 := h.ret
  rw [hr] at h1
  unfold TS3.place
  rw [List.isEmpty_iff.1 h1.symm]
  rfl
theorem TS3.start (l : List OpV) (hok : ∀ o ∈ l, o.Ok) (hl : l.length ≤ 25) : (⟨l, ⟨0, 0, 0, []⟩, false⟩ : TS3).Ok ∧ (⟨l, ⟨0, 0, 0, []⟩, false⟩ : TS3).place = (⟨l, ⟨0, 0, 0, []⟩, false⟩ : TS3).task.next := by
  refine ⟨⟨hok, hl, Nat.zero_le _, Nat.le_refl _, by show wrap64 0 = 0; unfold wrap64; omega⟩, ?_⟩
  unfold TS3.place TS3.task
  rw [(prog_next l 0 hok (by unfold wrap64; omega)).1]
  rfl

/-! ### The chapter's threads, in a row -/
abbrev Q3 := TS3 × Option Addr × Nat
def rcells (q : Q3) : List Value := [.int .i64 q.1.u.at_, .int .i64 q.1.u.told, .int .i64 q.1.u.sum, .slice q.2.1 q.1.u.marks.length q.2.2]
def rarr (qs : List Q3) : Array Value := (qs.flatMap rcells).toArray
theorem rcells_len (q : Q3) : (rcells q).length = 4 := rfl
theorem rarr_get {qs : List Q3} {i : Nat} {q : Q3} (h : qs[i]? = some q) {j : Nat} (hj : j < 4) : (rarr qs)[i * 4 + j]? = (rcells q)[j]? := by
  unfold rarr
  rw [List.getElem?_toArray]
  exact flat_get rcells_len qs i q j h hj
theorem rarr_size (qs : List Q3) : (rarr qs).size = qs.length * 4 := by
  unfold rarr
  simp only [List.size_toArray]
  exact flat_len rcells_len qs
theorem lt4 {i n : Nat} (h : i < n) : i * 4 + 3 < n * 4 := by omega
theorem rarr_same {qs : List Q3} {i : Nat} {q : Q3} (h : qs[i]? = some q) : put4 (rarr qs) (i * 4) (.int .i64 q.1.u.at_) (.int .i64 q.1.u.told) (.int .i64 q.1.u.sum) (.slice q.2.1 q.1.u.marks.length q.2.2) = rarr qs := by
  have h0 := rarr_get h (j := 0) (by decide)
  have h1 := rarr_get h (j := 1) (by decide)
  have h2 := rarr_get h (j := 2) (by decide)
  have h3 := rarr_get h (j := 3) (by decide)
  apply Array.ext_getElem?
  intro j
  rw [put4_get]
  by_cases hj : j < (rarr qs).size
  · rw [if_pos hj]
    by_cases e3 : j = i * 4 + 3
    · subst e3; rw [if_pos rfl, h3]; rfl
    · rw [if_neg e3]
      by_cases e2 : j = i * 4 + 2
      · subst e2; rw [if_pos rfl, h2]; rfl
      · rw [if_neg e2]
        by_cases e1 : j = i * 4 + 1
        · subst e1; rw [if_pos rfl, h1]; rfl
        · rw [if_neg e1]
          by_cases e0 : j = i * 4
          · subst e0; rw [if_pos rfl]; exact h0.symm
          · rw [if_neg e0]
  · rw [if_neg hj, Array.getElem?_eq_none (by omega)]
theorem rarr_put {qs : List Q3} {i : Nat} (hi : i < qs.length) (q : Q3) : put4 (rarr qs) (i * 4) (.int .i64 q.1.u.at_) (.int .i64 q.1.u.told) (.int .i64 q.1.u.sum) (.slice q.2.1 q.1.u.marks.length q.2.2) = rarr (qs.set i q) := by
  have hsz := rarr_size qs
  have hlt := lt4 hi
  apply Array.ext'
  unfold rarr at *
  refine flat_put rcells_len _ qs i q ?_ hi ?_ ?_
  · rw [Array.length_toList, put4_size]; exact hsz
  · intro j hj
    rw [Array.getElem?_toList, put4_get, if_pos (by rw [hsz]; omega)]
    match j, hj with
    | 0, _ => rw [if_neg (by omega), if_neg (by omega), if_neg (by omega), if_pos (by omega)]; rfl
    | 1, _ => rw [if_neg (by omega), if_neg (by omega), if_pos rfl]; rfl
    | 2, _ => rw [if_neg (by omega), if_pos rfl]; rfl
    | 3, _ => rw [if_pos rfl]; rfl
  · intro k hk
    rw [Array.getElem?_toList, put4_get]
    by_cases hks : k < (List.flatMap rcells qs).toArray.size
    · rw [if_pos hks, if_neg (by omega), if_neg (by omega), if_neg (by omega), if_neg (by omega)]
      simp
    · rw [if_neg hks, List.getElem?_eq_none (by simpa using hks)]
theorem made_rarr (N : Nat) (q : Q3) (hq : rcells q = [.int .i64 0, .int .i64 0, .int .i64 0, .slice none 0 0]) : madeCells #[.int .i64 0, .int .i64 0, .int .i64 0, .slice none 0 0] (N * 4) = rarr (List.replicate N q) :=
  made_flat rcells_len _ q hq N
theorem ArgOf.low {E : Type} {cells : E → List Value} {z : Nat} {ok : E → Prop} {w : World} {a : Option Addr} {len cap : Nat} {zs : List E} (h : ArgOf cells z ok w a len cap zs) : zs ≠ [] → ∀ b ∈ blockOf a, b < w.heap.size := by
  intro hz b hb
  rcases h.reads with h0 | ⟨b', off, rfl, hlt, -⟩
  · exact absurd h0 hz
  · simp [blockOf] at hb
    subst hb
    exact hlt

abbrev ptrTo (t : Nat) : Value := .pointer (some ⟨t, 0, none⟩)
abbrev others (tg wb r g : Nat) (qs : List Q3) : List Nat := tg :: wb :: r :: g :: qs.flatMap fun q => blockOf q.2.1
/-- The trails and the chapter's threads, side by side. -/
structure TT (w0 w : World) (m c pb r g wb tg k cap1 : Nat) (ts : List Nat) (xs : List TS3) (qs : List Q3) (μ μr : MemS) : Prop where
  ths : GThsB TS3.place TS3.task TS3.b R3s (.int .i64 0) 2 (Value.int .i64) w0.heap.size w m c pb (others tg wb r g qs) k ts xs μ
  len : qs.length = k
  row : Row w 30 1 tg k cap1 (ts.map ptrTo)
  blk : Blk w wb 57 (rarr qs)
  own : ∀ (i : Nat) (q : Q3), qs[i]? = some q → w.ownsRow 0 118 2 (.slice q.2.1 q.1.u.marks.length q.2.2) q.1.u.marks.length (markCells q.1.u.marks)
  far : ∀ (i : Nat) (q : Q3), qs[i]? = some q → ∀ x ∈ blockOf q.2.1, x ∉ [tg, wb, r, g]
  dis : ∀ (i j : Nat) (a b : Q3), i ≠ j → qs[i]? = some a → qs[j]? = some b → ∀ x ∈ blockOf a.2.1, x ∉ blockOf b.2.1
  newA : ∀ (i : Nat) (q : Q3), qs[i]? = some q → ∀ x ∈ blockOf q.2.1, w0.heap.size ≤ x
  ref : RefAt w r g μr
  new : ∀ x ∈ [tg, wb, r, g], w0.heap.size ≤ x ∧ x < w.heap.size
  dist : wb ≠ g ∧ wb ≠ r ∧ tg ≠ wb ∧ tg ≠ r ∧ tg ≠ g
  low : Below w0.heap.size w0 w
section
variable {w0 w w' : World} {m c pb r g wb tg k cap1 : Nat} {ts : List Nat} {xs : List TS3} {qs : List Q3} {μ μr : MemS} {G : List Nat}
theorem others_mem {i : Nat} {q : Q3} (h : qs[i]? = some q) {x : Nat} (hx : x ∈ blockOf q.2.1) : x ∈ others tg wb r g qs := by
  simp only [others, List.mem_cons, List.mem_flatMap]
  exact .inr (.inr (.inr (.inr ⟨q, List.mem_of_getElem? h, hx⟩)))
/-- The threads' side was stepped. -/
theorem TT.keep {xs' : List TS3} {μ' : MemS} (h : TT w0 w m c pb r g wb tg k cap1 ts xs qs μ μr)
    (ht : GThsB TS3.place TS3.task TS3.b R3s (.int .i64 0) 2 (Value.int .i64) w0.heap.size w' m c pb (others tg wb r g qs) k ts xs' μ') (hu : Upd G w w') (hG : ∀ x ∈ others tg wb r g qs, x ∉ G) (hb : Below w0.heap.size w w') :
    TT w0 w' m c pb r g wb tg k cap1 ts xs' qs μ' μr := by
  obtain ⟨-, hlen, hrow, hblk, hown, hfar, hdis, hnewA, href, hnew, hdist, hlow⟩ := h
  exact ⟨ht, hlen, hrow.upd hu (hG tg (by simp)), hblk.upd hu (hG wb (by simp)), fun i q hq => ownsRow_upd (hown i q hq) hu (fun b hb => hG b (others_mem hq hb)), hfar, hdis, hnewA,
    href.upd hu (hG r (by simp)) (hG g (by simp)), fun x hx => ⟨(hnew x hx).1, Nat.lt_of_lt_of_le (hnew x hx).2 hu.size⟩, hdist, hlow.trans hb⟩
theorem TT.later (h : TT w0 w m c pb r g wb tg k cap1 ts xs qs μ μr) (hu : Upd [] w w') : TT w0 w' m c pb r g wb tg k cap1 ts xs qs μ μr :=
  h.keep (h.ths.upd hu (by simp)) hu (by simp) (hu.below h.low.size (by simp))

theorem TT.stepT {i t : Nat} {x : TS3} {a : Option Addr} {len cap : Nat} (time : Int) (h : TT w0 w m c pb r g wb tg k cap1 ts xs qs μ μr) (ht : ts[i]? = some t) (hx : xs[i]? = some x) (ha : ArgOf OpV.cells 5 OpV.Ok w0 a len cap x.l) (x' : TS3) (μ' : MemS)
    (hx' : (x.b && x.place.isRet) = true ∧ x' = x ∧ μ' = μ ∨ (x.b && x.place.isRet) = false ∧ x' = x.next time μ ∧ μ' = (x.u.step x.l time μ).2) :
    Calls Try.prog 19 #[.pointer (some ⟨t, 0, none⟩), .int .i64 time, .func (.func 20) #[.agg #[.slice a len cap, .pointer (some ⟨pb, i, none⟩)]] #[]] w fun e w' =>
      e = .returned (.bool x'.place.isRet) ∧ TT w0 w' m c pb r g wb tg k cap1 ts (xs.set i x') qs μ' μr := by
  have hok : x.Ok := by
    obtain ⟨_, _, _, hR, _⟩ := h.ths.at_ ht hx
    exact hR.1
  have hzl := ha.hl
  have hfew := hok.few
  have key : (x.place.step μ).1 = x'.place ∧ (x.place.step μ).2.1 = μ' ∧ x'.task = x.task ∧ x'.b = true ∧
      (∀ s s' : TrS, R3s s x → s'.told = s.told ++ x.place.tells μ → s'.marks = s.marks ++ (x.place.step μ).2.2.map (fun k => (k, time)) → R3s s' x') := by
    rcases hx' with ⟨hb, rfl, rfl⟩ | ⟨_, rfl, rfl⟩
    · rw [Bool.and_eq_true] at hb
      have e := hok.over hb.2
      rw [e]
      refine ⟨rfl, rfl, rfl, hb.1, fun s s' hs h1 h2 => ?_⟩
      simp only [Res.tells, Res.step, List.append_nil, List.map_nil] at h1 h2
      exact ⟨hs.1, by rw [h1]; exact hs.2.1, by rw [h2]; exact hs.2.2⟩
    · obtain ⟨e1, e2, e3, e4, e5⟩ := hok.next time μ
      exact ⟨e1, e2, rfl, rfl, fun s s' hs h1 h2 => ⟨e5, by rw [h1, List.length_append, hs.2.1]; exact e3, by rw [h2, hs.2.2]; exact e4⟩⟩
  obtain ⟨k1, k2, k3, k4, k5⟩ := key
  refine (h.ths.step (P := Try.prog) (u' := x') (time := time) ht hx h.low.size (fun s F cs hp hR hz hnew => ?_) k1 k3 k4 k5).mono ?_
  · have htF := hp.tm.tF
    have hfar : x.l ≠ [] → ∀ b ∈ blockOf a, b ∉ m :: c :: F := fun hz b hb hin => by
      have h1 := ha.low hz b hb
      have h2 := hnew b (by simp only [List.mem_cons] at hin ⊢; exact .inr hin)
      omega
    have htold : s.told.length ≤ 25 := by have := hR.2.1; have := hok.told; have := hok.at_; omega
    have hmk : s.marks.length ≤ 25 := by rw [hR.2.2]; have := hok.told; have := hok.at_; omega
    refine put_stepB _ _ m c t pb i _ x.task _ μ s F cs x.place x.b time w hp (fun _ => by kernel_rfl) fun w1 h1 hu1 hb1 hso => ?_
    refine prog_run a len cap x.l (some ⟨pb, i, none⟩) _ m c t μ (s.begin time) F (s.told.length + 1) w1 h1 (begin_in s time) (by omega) hso rfl (by show s.marks.length ≤ _; omega)
      ((ha.below h.low (Nat.le_refl _)).upd hu1 fun hz b hb hin => hfar hz b hb (by simp at hin; subst hin; simp [htF])) (by omega) hfar
      (Lib.hid fun _ _ _ _ _ hat hs hd => hat.ends_dry hs hd) (Lib.hid fun _ _ _ _ _ hat hs hd => hat.ends_put hs hd hp.far hb1.lt) (fun q hq => ?_)
    injection hq with hq
    subst hq
    obtain ⟨u, hu⟩ : ∃ u, cs[i]? = some u := ⟨_, Array.getElem?_eq_getElem hp.cell⟩
    exact ⟨rfl, hp.far, ⟨u, hb1.at_ hu⟩, hb1.free i⟩
  · rintro e w' ⟨rfl, hg, ⟨G, hu, hG⟩, hb⟩
    rw [k2] at hg
    exact ⟨rfl, h.keep hg hu hG hb⟩

theorem TT.stepR {i : Nat} {q : Q3} {a : Option Addr} {len cap : Nat} (time : Int) (h : TT w0 w m c pb r g wb tg k cap1 ts xs qs μ μr) (hq : qs[i]? = some q) (hok : q.1.Ok) (ha : ArgOf OpV.cells 5 OpV.Ok w0 a len cap q.1.l) :
    Calls Try.prog 30 #[.pointer (some ⟨wb, i * 4, none⟩), .pointer (some ⟨r, 0, none⟩), .slice a len cap, .int .i64 time] w fun e w' =>
      e = .returned (.tuple #[]) ∧ ∃ A' cap', TT w0 w' m c pb r g wb tg k cap1 ts xs (qs.set i (q.1.next time μr, A', cap')) μ (q.1.u.step q.1.l time μr).2 := by
  have hil : i < qs.length := (List.getElem?_eq_some_iff.1 hq).1
  have hzl := ha.hl
  have hfew := hok.few
  have htd := hok.told
  have hat := hok.at_
  have hfarq := h.far i q hq
  have hsz := h.low.size
  have hw : R3W w q.2.1 w wb (i * 4) (rarr qs) r g q.1.u q.2.1 q.2.2 μr :=
    ⟨by rw [rarr_size]; exact lt4 hil, by rw [rarr_same hq]; exact h.blk, h.own i q hq, h.ref, (h.new g (by simp)).2, h.dist.1, h.dist.2.1,
      ⟨fun hin => hfarq r hin (by simp), fun hin => hfarq g hin (by simp)⟩, fun x hx => .inl hx, Upd.refl _ _⟩
  refine (ref03_step wb (i * 4) (rarr qs) q.1.u q.2.1 q.2.2 r g μr a len cap q.1.l time w hw (ha.below h.low (Nat.le_refl _)) (by omega) (by omega) (by omega) (by omega) (fun hz b hb hin => ?_)).mono ?_
  · have h1 := ha.low hz b hb
    simp only [List.mem_cons] at hin
    rcases hin with e | e | e | e
    · have := (h.new wb (by simp)).1; omega
    · have := (h.new r (by simp)).1; omega
    · have := (h.new g (by simp)).1; omega
    · have := h.newA i q hq b e; omega
  · rintro e w' ⟨rfl, A', cap', hr⟩
    refine ⟨rfl, A', cap', ?_⟩
    have hu := hr.upd
    have hFo : ∀ x ∈ wb :: r :: g :: blockOf q.2.1, x ∈ others tg wb r g qs := fun x hx => by
      simp only [List.mem_cons] at hx
      rcases hx with e | e | e | e
      · simp [e]
      · simp [e]
      · simp [e]
      · exact others_mem hq e
    have hset : ∀ (j : Nat) (q' : Q3), (qs.set i (q.1.next time μr, A', cap'))[j]? = some q' → (j = i ∧ q' = (q.1.next time μr, A', cap')) ∨ (j ≠ i ∧ qs[j]? = some q') := by
      intro j q' hj
      by_cases hji : j = i
      · subst hji
        rw [List.getElem?_set_self hil] at hj
        exact .inl ⟨rfl, (Option.some.inj hj).symm⟩
      · rw [List.getElem?_set_ne (fun e => hji e.symm)] at hj
        exact .inr ⟨hji, hj⟩
    have hlt : ∀ (j : Nat) (q' : Q3), qs[j]? = some q' → ∀ x ∈ blockOf q'.2.1, x < w.heap.size := fun j q' hj x hx => ownsRow_blockLt (h.own j q' hj) x hx
    have hA' : ∀ x ∈ blockOf A', x < w'.heap.size := fun x hx => ownsRow_blockLt hr.own x hx
    have hths : GThsB TS3.place TS3.task TS3.b R3s (.int .i64 0) 2 (Value.int .i64) w0.heap.size w' m c pb (others tg wb r g (qs.set i (q.1.next time μr, A', cap'))) k ts xs μ := by
      have hmem : ∀ x ∈ others tg wb r g (qs.set i (q.1.next time μr, A', cap')), x ∈ others tg wb r g qs ∨ (x ∈ blockOf A' ∧ x ∉ blockOf q.2.1) := by
        intro x hx
        simp only [others, List.mem_cons, List.mem_flatMap] at hx
        rcases hx with e | e | e | e | ⟨q', hq', hx⟩
        · exact .inl (by simp [e])
        · exact .inl (by simp [e])
        · exact .inl (by simp [e])
        · exact .inl (by simp [e])
        · obtain ⟨j, hj⟩ := List.getElem?_of_mem hq'
          rcases hset j q' hj with ⟨rfl, rfl⟩ | ⟨_, hj⟩
          · by_cases hin : x ∈ blockOf q.2.1
            · exact .inl (others_mem hq hin)
            · exact .inr ⟨hx, hin⟩
          · exact .inl (others_mem hj hx)
      by_cases hnew : ∃ x ∈ blockOf A', x ∉ blockOf q.2.1
      · obtain ⟨x, hx, hn⟩ := hnew
        have hge : w.heap.size ≤ x := (hr.sub x hx).resolve_left hn
        refine (h.ths.more hu hFo hge (hA' x hx)).less fun y hy => ?_
        rcases hmem y hy with e | ⟨e, _⟩
        · exact List.mem_cons_of_mem _ e
        · have : y = x := by
            cases hA : A' with
            | none => rw [hA] at e; simp [blockOf] at e
            | some a' => rw [hA] at e hx; simp [blockOf] at e hx; rw [e, hx]
          rw [this]
          exact List.mem_cons_self
      · refine (h.ths.upd hu hFo).less fun y hy => ?_
        rcases hmem y hy with e | ⟨e, e2⟩
        · exact e
        · exact absurd ⟨y, e, e2⟩ hnew
    have hblk := hr.blk
    have e := rarr_put hil (q.1.next time μr, A', cap')
    simp only [TS3.next] at e
    rw [e] at hblk
    refine ⟨hths, by simpa using h.len, h.row.upd hu ?_, hblk, fun j q' hj => ?_, fun j q' hj x hx => ?_, fun j j' qa qb hne hj hj' x hx hx2 => ?_, fun j q' hj x hx => ?_, hr.ref, fun x hx => ⟨(h.new x hx).1, Nat.lt_of_lt_of_le (h.new x hx).2 hu.size⟩, h.dist, h.low.trans (hu.below hsz fun x hx => ?_)⟩
    · simp only [List.mem_cons, not_or]
      exact ⟨h.dist.2.2.1, h.dist.2.2.2.1, h.dist.2.2.2.2, fun hin => hfarq tg hin (by simp)⟩
    · rcases hset j q' hj with ⟨rfl, rfl⟩ | ⟨hji, hj⟩
      · exact hr.own
      · refine ownsRow_upd (h.own j q' hj) hu fun x hx hin => ?_
        simp only [List.mem_cons] at hin
        have hf := h.far j q' hj x hx
        simp only [List.mem_cons, not_or] at hf
        rcases hin with e | e | e | e
        · exact hf.2.1 e
        · exact hf.2.2.1 e
        · exact hf.2.2.2.1 e
        · exact h.dis j i q' q hji hj hq x hx e
    · rcases hset j q' hj with ⟨rfl, rfl⟩ | ⟨hji, hj⟩
      · rcases hr.sub x hx with hin | hge
        · exact hfarq x hin
        · intro hin
          have := (h.new x hin).2
          omega
      · exact h.far j q' hj x hx
    · rcases hset j qa hj with ⟨rfl, rfl⟩ | ⟨hji, hjo⟩
      · rcases hset j' qb hj' with ⟨rfl, rfl⟩ | ⟨hji', hjo'⟩
        · exact hne rfl
        · rcases hr.sub x hx with hin | hge
          · exact h.dis _ j' q qb hne hq hjo' x hin hx2
          · have := hlt j' qb hjo' x hx2
            omega
      · rcases hset j' qb hj' with ⟨rfl, rfl⟩ | ⟨hji', hjo'⟩
        · rcases hr.sub x hx2 with hin | hge
          · exact h.dis j _ qa q hne hjo hq x hx hin
          · have := hlt j qa hjo x hx
            omega
        · exact h.dis j j' qa qb hne hjo hjo' x hx hx2
    · rcases hset j q' hj with ⟨rfl, rfl⟩ | ⟨hji, hj⟩
      · rcases hr.sub x hx with hin | hge
        · exact h.newA _ q hq x hin
        · omega
      · exact h.newA j q' hj x hx
    · simp only [List.mem_cons] at hx
      rcases hx with e | e | e | e
      · rw [e]; exact (h.new wb (by simp)).1
      · rw [e]; exact (h.new r (by simp)).1
      · rw [e]; exact (h.new g (by simp)).1
      · exact h.newA i q hq x e
end
end Go.Proofs.Ytcphidmfdakbeaa
