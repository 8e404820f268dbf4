/- RcuTurns: the calls' places in the chapter's words. -/
import Derived.Test.YtcphidmfdakbeaaBoard
import Derived.Test.YtcphidmfdakbeaaGThs
import Derived.Test.YtcphidmfdakbeaaPairs
namespace Go.Proofs.Ytcphidmfdakbeaa
open Go.RowKit

/-- A call, as it comes in: its kind, and its reader. -/
structure CallV where
  kind : Int
  reader : Int
def CallV.cells (c : CallV) : List Value := [.int .u8 c.kind, .int .u8 c.reader]
def CallV.Ok (c : CallV) : Prop := 0 ≤ c.kind ∧ c.kind ≤ 255 ∧ 0 ≤ c.reader ∧ c.reader ≤ 255
theorem callv_open {H : Type} {enc : TypeId × Value → H} {w : World} (n : Nat) (vs : List Value) (hl : vs.length = 2)
    (h0 : ∃ v y, vs[0]? = some v ∧ DataW.trod enc Try.prog w 0 (fun _ => true) true n 5 [v] = some y) (h1 : ∃ v y, vs[1]? = some v ∧ DataW.trod enc Try.prog w 0 (fun _ => true) true n 5 [v] = some y) :
    ∃ x : CallV, x.Ok ∧ x.cells = vs := by
  obtain ⟨v0, y0, e0, t0⟩ := h0
  obtain ⟨v1, y1, e1, t1⟩ := h1
  obtain ⟨a0, c0, -, w0⟩ := DataW.trod_int Try.underlying5 t0
  obtain ⟨a1, c1, -, w1⟩ := DataW.trod_int Try.underlying5 t1
  simp only [List.cons.injEq, and_true] at c0 c1
  subst c0 c1
  match vs, hl with
  | [x0, x1], _ =>
    simp at e0 e1
    subst e0 e1
    have b0 := bounds_u8 w0
    have b1 := bounds_u8 w1
    exact ⟨⟨a0, a1⟩, ⟨b0.1, b0.2, b1.1, b1.2⟩, rfl⟩

/-- Where a call is: its kind, its reader, how many accesses it did, the epoch that it saw, whether it is over, whether it went. -/
structure TS where
  kind : Nat
  x : Nat
  at_ : Nat
  saw : Int
  over : Bool
  went : Bool

def TS.place (t : TS) : Res MemS Bool :=
  if t.over = true then .ret t.went
  else if t.kind = 0 then (if t.at_ = 0 then (callR 0 t.x).next else .acc (dStore (4 + (t.x : Int)) (wrap64 (t.saw + 1))) fun _ => .ret false)
  else if t.kind = 1 then (callR 1 t.x).next
  else if t.at_ = 0 then advanceR.next else scanR t.saw (17 - t.at_)

def TS.step (t : TS) (e : Int) (b : List Int) : TS × Int × List Int :=
  if t.over = true then (t, e, b)
  else if t.kind = 0 then (if t.at_ = 0 then ({ t with at_ := 1, saw := e }, e, b) else ({ t with at_ := t.at_ + 1, over := true }, e, b.set t.x (wrap64 (t.saw + 1))))
  else if t.kind = 1 then ({ t with at_ := t.at_ + 1, over := true }, e, b.set t.x 0)
  else if t.at_ = 0 then ({ t with at_ := 1, saw := e }, e, b)
  else if t.at_ ≤ 16 then ({ t with at_ := t.at_ + 1, over := (b.getD (t.at_ - 1) 0 != 0 && b.getD (t.at_ - 1) 0 != wrap64 (t.saw + 1)) }, e, b)
  else ({ t with at_ := t.at_ + 1, over := true, went := true }, wrap64 (t.saw + 1), b)

/-- What a call's state may be. -/
structure TS.Ok (t : TS) : Prop where
  kind : t.kind ≤ 2
  x : t.x < 16
  k0 : t.kind = 0 → t.at_ ≤ 2 ∧ (t.over = false → t.at_ ≤ 1)
  k1 : t.kind = 1 → t.at_ ≤ 1 ∧ (t.over = false → t.at_ = 0)
  k2 : t.kind = 2 → t.at_ ≤ 18 ∧ (t.over = false → t.at_ ≤ 17)
  went : t.over = false → t.went = false

theorem ts_ret (t : TS) (h : t.Ok) : t.place.isRet = t.over := by
  unfold TS.place
  cases ho : t.over with
  | true => rfl
  | false =>
    rw [if_neg (by simp)]
    split
    · split
      · have hx := h.x
        unfold callR enterR
        rw [if_pos rfl, if_pos ⟨by omega, by omega⟩]
        rfl
      · rfl
    · split
      · have hx := h.x
        unfold callR leaveR
        rw [if_neg (by decide), if_pos rfl, if_pos ⟨by omega, by omega⟩]
        rfl
      · split
        · rfl
        · generalize 17 - t.at_ = k
          cases k <;> rfl

theorem ts_ok (t : TS) (e : Int) (b : List Int) (h : t.Ok) : (t.step e b).1.Ok := by
  unfold TS.step
  cases ho : t.over with
  | true => rw [if_pos rfl]; exact h
  | false =>
    have hw := h.went ho
    rw [if_neg (by simp)]
    split
    · rename_i hk
      have h0 := (h.k0 hk).2 ho
      split
      · exact ⟨h.kind, h.x, fun _ => ⟨by simp, fun _ => by simp⟩, fun h2 => by simp at h2; omega, fun h2 => by simp at h2; omega, fun _ => hw⟩
      · exact ⟨h.kind, h.x, fun _ => ⟨by simp; omega, fun h2 => by simp at h2⟩, fun h2 => by simp at h2; omega, fun h2 => by simp at h2; omega, fun h2 => by simp at h2⟩
    · split
      · rename_i hk0 hk
        have h0 := (h.k1 hk).2 ho
        exact ⟨h.kind, h.x, fun h2 => by simp at h2; omega, fun _ => ⟨by simp; omega, fun h2 => by simp at h2⟩, fun h2 => by simp at h2; omega, fun h2 => by simp at h2⟩
      · rename_i hk0 hk1
        have hk2 : t.kind = 2 := by have := h.kind; omega
        have h0 := (h.k2 hk2).2 ho
        split
        · exact ⟨h.kind, h.x, fun h2 => by simp at h2; omega, fun h2 => by simp at h2; omega, fun _ => ⟨by simp, fun _ => by simp⟩, fun _ => hw⟩
        · split
          · exact ⟨h.kind, h.x, fun h2 => by simp at h2; omega, fun h2 => by simp at h2; omega, fun _ => ⟨by simp; omega, fun _ => by simp; omega⟩, fun _ => hw⟩
          · exact ⟨h.kind, h.x, fun h2 => by simp at h2; omega, fun h2 => by simp at h2; omega, fun _ => ⟨by simp; omega, fun h2 => by simp at h2⟩, fun h2 => by simp at h2⟩

theorem ts_len (t : TS) (e : Int) (b : List Int) (hb : b.length = 16) : (t.step e b).2.2.length = 16 := by
  unfold TS.step
  repeat' split
  all_goals simp [hb]

theorem ts_step (t : TS) (e cnt : Int) (b : List Int) (h : t.Ok) (hb : b.length = 16) :
    ∃ cnt', (t.place.step (RM e b cnt)).1 = (t.step e b).1.place ∧ (t.place.step (RM e b cnt)).2.1 = RM (t.step e b).2.1 (t.step e b).2.2 cnt' := by
  obtain ⟨kind, x, a, saw, over, went⟩ := t
  have hx := h.x
  simp only at hx
  cases over with
  | true => exact ⟨cnt, by simp [TS.place, TS.step, Res.step]⟩
  | false =>
    have hw := h.went rfl
    simp only at hw
    subst hw
    by_cases hk0 : kind = 0
    · subst hk0
      have h0 := (h.k0 rfl).2 rfl
      simp only at h0
      have e1 : callR 0 (x : Int) = .acc (dLoad 3) fun v => .acc (dStore (4 + (x : Int)) (wrap64 (v + 1))) fun _ => .ret false := by
        unfold callR enterR
        rw [if_pos rfl, if_pos ⟨by omega, by omega⟩]
        rfl
      by_cases ha : a = 0
      · subst ha
        refine ⟨wrap64 (cnt + 1), ?_⟩
        simp [TS.place, TS.step, e1, Res.next, Res.step, RM.load3 hb]
      · refine ⟨wrap64 (cnt + 1), ?_⟩
        simp [TS.place, TS.step, ha, Res.next, Res.step, RM.store4 hb x hx]
    · by_cases hk1 : kind = 1
      · subst hk1
        have e1 : callR 1 (x : Int) = .acc (dStore (4 + (x : Int)) 0) fun _ => .ret false := by
          unfold callR leaveR
          rw [if_neg (by decide), if_pos rfl, if_pos ⟨by omega, by omega⟩]
          rfl
        refine ⟨wrap64 (cnt + 1), ?_⟩
        simp [TS.place, TS.step, e1, Res.next, Res.step, RM.store4 hb x hx]
      · have hk2 : kind = 2 := by have := h.kind; simp only at this; omega
        subst hk2
        have h0 := (h.k2 rfl).2 rfl
        simp only at h0
        by_cases ha : a = 0
        · subst ha
          refine ⟨wrap64 (cnt + 1), ?_⟩
          have hn : (scanR e 16).next = scanR e 16 := scan_next e 16
          simp [TS.place, TS.step, advanceR, Res.next, Res.step, RM.load3 hb, hn]
        · by_cases ha16 : a ≤ 16
          · refine ⟨wrap64 (cnt + 1), ?_⟩
            obtain ⟨j, rfl⟩ : ∃ j, a = j + 1 := ⟨a - 1, by omega⟩
            have e1 : scanR saw (17 - (j + 1)) = .acc (dLoad (4 + (j : Int))) fun v => if v ≠ 0 ∧ v ≠ wrap64 (saw + 1) then .ret false else scanR saw (15 - j) := by
              rw [show 17 - (j + 1) = (15 - j) + 1 by omega, scanR, show (15 - (15 - j) : Nat) = j by omega]
            have e2 : 17 - (j + 1 + 1) = 15 - j := by omega
            simp only [TS.place, TS.step, Bool.false_eq_true, if_false, hk0, hk1, Nat.add_one_ne_zero, ha16, if_true, e1, Res.step, RM.load4 hb j (by omega), Nat.add_sub_cancel, e2]
            refine ⟨?_, trivial⟩
            by_cases hv : b.getD j 0 ≠ 0 ∧ b.getD j 0 ≠ wrap64 (saw + 1)
            · rw [if_pos hv]
              have : (b.getD j 0 != 0 && b.getD j 0 != wrap64 (saw + 1)) = true := by simpa using hv
              rw [this]
              rfl
            · rw [if_neg hv]
              have : (b.getD j 0 != 0 && b.getD j 0 != wrap64 (saw + 1)) = false := by
                rw [Bool.eq_false_iff]
                intro h2
                exact hv (by simpa using h2)
              rw [this, scan_next]
              simp
          · obtain rfl : a = 17 := by omega
            refine ⟨wrap64 (cnt + 1), ?_⟩
            simp [TS.place, TS.step, scanR, Res.next, Res.step, RM.store3 hb]

theorem call01_answer (k : Nat) (hk : k = 0 ∨ k = 1) (x : Int) (μ : MemS) (s : TrS) : ((callR k x).run μ s).1 = false := by
  rcases hk with rfl | rfl
  · unfold callR
    rw [if_pos rfl, run_bind]
    rfl
  · unfold callR
    rw [if_neg (by decide), if_pos rfl, run_bind]
    rfl
/-- A step of a call that has a cell, which stays false. -/
theorem call01_put (k : Nat) (hk01 : k = 0 ∨ k = 1) (kd x : Int) (m c t pb po : Nat) (ty : TypeId) (μ : MemS) (s : TrS) (F : List Nat) (cs : Array Value) (cur : Res MemS Bool) (time : Int) (w : World) (hk : kd.tmod 3 = k)
    (h : Put w m c t pb po ty (callR k x) Value.bool μ s F cs cur) (hl : s.told.length < 1000000) (hfalse : s.over = false → cs[po]? = some (.bool false)) :
    Calls Try.prog 19 #[.pointer (some ⟨t, 0, none⟩), .int .i64 time, .func (.func 36) #[.agg #[.int .u8 kd, .int .i64 x, .pointer (some ⟨pb, po, none⟩)]] #[]] w (PutStep w m c t pb po ty (callR k x) Value.bool μ s F cs cur time) := by
  refine put_step _ _ m c t pb po ty (callR k x) _ μ s F cs cur time w h (fun _ => by kernel_rfl) fun w1 h1 hb1 hso => ?_
  refine (call_run01 k hk01 kd x _ m c t μ (s.begin time) F _ w1 h1 (begin_in s time) (by omega) hso hk).mono fun e w2 hq => TaskPost.mono hq ?_
  rintro μ2 s2 F2 w3 ⟨v, hsim, hF, hu⟩
  refine ⟨v, w3, hsim, hF, hu, fun _ => rfl, fun hd => ?_⟩
  have hv : v = false := by
    rcases hsim.tr with ⟨_, _, e3⟩ | ⟨hd2, b, e2⟩
    · exact e3.trans (call01_answer k hk01 x μ (s.begin time))
    · simp only at e2
      rw [e2] at hd
      simp [hd2] at hd
  rw [hv]
  exact (setCell_same (hb1.upd hu h.far) (hfalse hso)).symm

theorem ts_same (t : TS) (e : Int) (b : List Int) : (t.step e b).1.kind = t.kind ∧ (t.step e b).1.x = t.x := by
  unfold TS.step
  repeat' split
  all_goals exact ⟨rfl, rfl⟩
theorem ts_at (t : TS) (e : Int) (b : List Int) : (t.step e b).1.at_ = if t.over = true then t.at_ else t.at_ + 1 := by
  unfold TS.step
  cases t.over with
  | true => rfl
  | false =>
    simp only [Bool.false_eq_true, if_false]
    split
    · split
      · simp; omega
      · rfl
    · split
      · rfl
      · split
        · simp; omega
        · split <;> rfl

/-- The calls' threads, in these words. -/
def CThs (B : Nat) (w : World) (m c pb : Nat) (O : List Nat) (N : Nat) (ts : List Nat) (us : List TS) (e : Int) (b : List Int) : Prop :=
  ∃ cnt : Int, GThs TS.place (fun u => callR u.kind u.x) (fun s u => u.Ok ∧ s.told.length ≤ u.at_) (.bool false) 4 Value.bool B w m c pb O N ts us (RM e b cnt) ∧ b.length = 16

section
variable {B : Nat} {w w' : World} {m c pb : Nat} {O G : List Nat} {N : Nat} {ts : List Nat} {us : List TS} {e : Int} {b : List Int}
theorem CThs.upd (h : CThs B w m c pb O N ts us e b) (hu : Upd G w w') (hG : ∀ x ∈ G, x ∈ O) : CThs B w' m c pb O N ts us e b := by
  obtain ⟨cnt, h, hb⟩ := h
  exact ⟨cnt, h.upd hu hG, hb⟩
theorem CThs.went (h : CThs B w m c pb O N ts us e b) {i : Nat} {u : TS} (hu : us[i]? = some u) : w.cell? ⟨pb, i, none⟩ = some (.bool u.went) ∧ u.Ok := by
  obtain ⟨cnt, h, hb⟩ := h
  have hl := h.len
  have hi := (List.getElem?_eq_some_iff.1 hu).1
  have ht : ts[i]? = some (ts[i]'(by omega)) := List.getElem?_eq_getElem (by omega)
  obtain ⟨s, F, -, -, hok, -⟩ := h.over ht hu
  refine ⟨?_, hok⟩
  cases ho : u.over with
  | true => exact h.cell_ret ht hu (by unfold TS.place; rw [if_pos ho])
  | false =>
    rw [hok.went ho]
    exact h.cell_not ht hu (by rw [ts_ret u hok]; exact ho)
/-- A step of one of them. -/
theorem CThs.step {i t : Nat} {u : TS} (h : CThs B w m c pb O N ts us e b) (ht : ts[i]? = some t) (hu : us[i]? = some u) (hB : B ≤ w.heap.size) (time kd : Int) (hkd : kd.tmod 3 = u.kind) :
    Calls Try.prog 19 #[.pointer (some ⟨t, 0, none⟩), .int .i64 time, .func (.func 36) #[.agg #[.int .u8 kd, .int .i64 u.x, .pointer (some ⟨pb, i, none⟩)]] #[]] w fun ed w' =>
      ed = .returned (.bool (u.step e b).1.over) ∧ CThs B w' m c pb O N ts (us.set i (u.step e b).1) (u.step e b).2.1 (u.step e b).2.2 ∧ (∀ x ∈ O, w'.heap[x]? = w.heap[x]?) ∧ Below B w w' := by
  obtain ⟨cnt, h, hb⟩ := h
  obtain ⟨s0, F0, -, -, hok, -⟩ := h.over ht hu
  obtain ⟨cnt', e1, e2⟩ := ts_step u e cnt b hok hb
  have hok' := ts_ok u e b hok
  have hat : u.at_ ≤ 18 := by
    have := hok.kind
    rcases (show u.kind = 0 ∨ u.kind = 1 ∨ u.kind = 2 by omega) with hk | hk | hk
    · have := (hok.k0 hk).1; omega
    · have := (hok.k1 hk).1; omega
    · exact (hok.k2 hk).1
  obtain ⟨k1, k2⟩ := ts_same u e b
  refine (h.step (time := time) ht hu hB (fun s F cs hp hR hz => ?_) e1 (by rw [k1, k2]) (fun s s' hR htold _ => ⟨hok', ?_⟩)).mono fun ed w' hs => ?_
  · have hkind : u.kind = 0 ∨ u.kind = 1 ∨ u.kind = 2 := by have := hok.kind; omega
    have hl := hR.2
    have hf : s.over = false → cs[i]? = some (.bool false) := fun ho => hz (by rw [← hp.over]; exact ho)
    rcases hkind with hk | hk | hk
    · exact call01_put u.kind (.inl hk) kd u.x m c t pb i _ _ s F cs _ time w hkd hp (by omega) hf
    · exact call01_put u.kind (.inr hk) kd u.x m c t pb i _ _ s F cs _ time w hkd hp (by omega) hf
    · rw [hk] at hkd hp ⊢
      exact call2_step kd u.x m c t pb i _ _ s F cs _ time w hkd hp (by omega) hf
  · rw [htold, List.length_append, ts_at]
    have := tells_le u.place (RM e b cnt)
    have := hR.2
    cases ho : u.over with
    | true =>
      have : u.place = .ret u.went := by unfold TS.place; rw [if_pos ho]
      rw [this]
      simp [Res.tells]
      exact hR.2
    | false => simp; omega
  · obtain ⟨he, hg, hO, hbl⟩ := hs
    rw [e2] at hg
    rw [ts_ret _ hok'] at he
    exact ⟨he, ⟨cnt', hg, ts_len u e b hb⟩, hO, hbl⟩
end
end Go.Proofs.Ytcphidmfdakbeaa
