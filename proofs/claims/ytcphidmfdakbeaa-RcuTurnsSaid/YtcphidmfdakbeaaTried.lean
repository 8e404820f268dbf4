/- Layer 4's memory, and Advance alone on it; 'tried', walked. -/
import Derived.Test.YtcphidmfdakbeaaLaw04
namespace Go.Proofs.Ytcphidmfdakbeaa
open Go.RowKit

/-- The 30 cells of layer 4's statements: the epoch, and 16 readers' cells. -/
def RM (e : Int) (b : List Int) (cnt : Int) : MemS := ⟨0 :: 0 :: 0 :: e :: (b ++ List.replicate 10 0), cnt⟩

section
variable {e cnt v : Int} {b : List Int}
theorem RM.has (hb : b.length = 16) (i : Int) (h0 : 0 ≤ i) (h1 : i < 30) : (RM e b cnt).has i = true := by
  simp only [MemS.has, RM, List.length_cons, List.length_append, List.length_replicate, hb, Bool.and_eq_true, decide_eq_true_eq]
  omega
theorem RM.load3 (hb : b.length = 16) : dLoad 3 (RM e b cnt) = (e, true, RM e b (wrap64 (cnt + 1))) := by
  unfold dLoad MemS.load
  rw [if_pos (RM.has hb 3 (by omega) (by omega))]
  rfl
theorem RM.load4 (hb : b.length = 16) (i : Nat) (hi : i < 16) : dLoad (4 + (i : Int)) (RM e b cnt) = (b.getD i 0, true, RM e b (wrap64 (cnt + 1))) := by
  unfold dLoad MemS.load
  rw [if_pos (RM.has hb _ (by omega) (by omega))]
  have h : (RM e b cnt).get (4 + (i : Int)) = b.getD i 0 := by
    unfold MemS.get RM
    rw [show (4 + (i : Int)).toNat = i + 4 by omega]
    simp only [List.getD_eq_getElem?_getD, List.getElem?_cons_succ]
    rw [List.getElem?_append_left (by omega)]
  simp only [h]
  rfl
theorem RM.store3 (hb : b.length = 16) : dStore 3 v (RM e b cnt) = (0, true, RM v b (wrap64 (cnt + 1))) := by
  unfold dStore MemS.store
  rw [if_pos (RM.has hb 3 (by omega) (by omega))]
  rfl
theorem RM.store4 (hb : b.length = 16) (i : Nat) (hi : i < 16) : dStore (4 + (i : Int)) v (RM e b cnt) = (0, true, RM e (b.set i v) (wrap64 (cnt + 1))) := by
  unfold dStore MemS.store
  rw [if_pos (RM.has hb _ (by omega) (by omega))]
  unfold MemS.set MemS.tick RM
  rw [show (4 + (i : Int)).toNat = i + 4 by omega]
  simp only [List.set_cons_succ]
  rw [List.set_append_left _ _ (by omega)]
end

/-- Lets a reader's cell the epoch go on? -/
def okB (e : Int) (b : List Int) (i : Nat) : Prop := b.getD i 0 = 0 ∨ b.getD i 0 = wrap64 (e + 1)
instance (e : Int) (b : List Int) (i : Nat) : Decidable (okB e b i) := inferInstanceAs (Decidable (_ ∨ _))

theorem alone_stay {α : Type} (n : Nat) (r : Res MemS α) (μ μ' : MemS) (a : α) (h : Res.alone n r μ = (.ret a, μ')) : ∀ d, Res.alone (n + d) r μ = (.ret a, μ')
  | 0 => h
  | d + 1 => by
    have ih := alone_stay n r μ μ' a h d
    rw [← Nat.add_assoc]
    simp only [Res.alone, ih, Res.step]
theorem scan_next (e : Int) (k : Nat) : (scanR e k).next = scanR e k := by
  cases k <;> rfl
theorem scan_alone (e cnt : Int) (b : List Int) (hb : b.length = 16) : ∀ k, k ≤ 16 → (∀ i, i < k → okB e b i) → ∃ cnt', Res.alone (k + 1) advanceR.next (RM e b cnt) = (scanR e (16 - k), RM e b cnt')
  | 0, _, _ => by
    refine ⟨wrap64 (cnt + 1), ?_⟩
    simp only [Res.alone, advanceR, Res.next, Res.step, RM.load3 hb, if_true]
    rw [scan_next]
  | k + 1, hk, hok => by
    obtain ⟨cnt', ih⟩ := scan_alone e cnt b hb k (by omega) fun i hi => hok i (by omega)
    refine ⟨wrap64 (cnt' + 1), ?_⟩
    rw [Res.alone, ih]
    have e1 : scanR e (16 - k) = .acc (dLoad (4 + (k : Int))) fun v => if v ≠ 0 ∧ v ≠ wrap64 (e + 1) then .ret false else scanR e (15 - k) := by
      rw [show 16 - k = (15 - k) + 1 by omega, scanR, show (15 - (15 - k) : Nat) = k by omega]
    rw [e1]
    simp only [Res.step, RM.load4 hb k (by omega), if_true]
    have h := hok k (by omega)
    unfold okB at h
    rw [if_neg (fun hh => h.elim hh.1 hh.2)]
    rw [scan_next, show 16 - (k + 1) = 15 - k by omega]
theorem adv_goes (e cnt : Int) (b : List Int) (hb : b.length = 16) (h : ∀ i, i < 16 → okB e b i) : ∃ cnt', Res.alone 18 advanceR.next (RM e b cnt) = (.ret true, RM (wrap64 (e + 1)) b cnt') := by
  obtain ⟨cnt', ih⟩ := scan_alone e cnt b hb 16 (Nat.le_refl _) h
  refine ⟨wrap64 (cnt' + 1), ?_⟩
  rw [Res.alone, ih]
  simp only [Nat.sub_self, scanR, Res.step, RM.store3 hb, if_true, Res.next]
theorem adv_fails (e cnt : Int) (b : List Int) (hb : b.length = 16) (j : Nat) (hj : j < 16) (h : ∀ i, i < j → okB e b i) (hbad : ¬ okB e b j) : ∃ cnt', Res.alone 18 advanceR.next (RM e b cnt) = (.ret false, RM e b cnt') := by
  obtain ⟨cnt', ih⟩ := scan_alone e cnt b hb j (by omega) h
  refine ⟨wrap64 (cnt' + 1), ?_⟩
  have h2 : Res.alone (j + 2) advanceR.next (RM e b cnt) = (.ret false, RM e b (wrap64 (cnt' + 1))) := by
    rw [Res.alone, ih]
    have e1 : scanR e (16 - j) = .acc (dLoad (4 + (j : Int))) fun v => if v ≠ 0 ∧ v ≠ wrap64 (e + 1) then .ret false else scanR e (15 - j) := by
      rw [show 16 - j = (15 - j) + 1 by omega, scanR, show (15 - (15 - j) : Nat) = j by omega]
    rw [e1]
    simp only [Res.step, RM.load4 hb j hj, if_true]
    unfold okB at hbad
    rw [if_pos (by simpa [not_or] using hbad)]
    rfl
  have := alone_stay (j + 2) _ _ _ _ h2 (16 - j)
  rw [show j + 2 + (16 - j) = 18 by omega] at this
  exact this

def allOk (e : Int) (b : List Int) : Bool := (List.range 16).all fun i => decide (okB e b i)
theorem allOk_iff (e : Int) (b : List Int) : allOk e b = true ↔ ∀ i, i < 16 → okB e b i := by
  simp [allOk]
theorem adv18 (e cnt : Int) (b : List Int) (hb : b.length = 16) : ∃ cnt', Res.alone 18 advanceR.next (RM e b cnt) = (.ret (allOk e b), RM (if allOk e b = true then wrap64 (e + 1) else e) b cnt') := by
  by_cases h : ∀ i, i < 16 → okB e b i
  · have e1 : allOk e b = true := (allOk_iff e b).2 h
    rw [e1]
    exact adv_goes e cnt b hb h
  · have e1 : allOk e b = false := Bool.eq_false_iff.2 fun h2 => h ((allOk_iff e b).1 h2)
    rw [e1]
    have hex : ∃ j, (j < 16 ∧ ¬ okB e b j) ∧ ∀ i, i < j → okB e b i := by
      have h2 : ∃ j, j < 16 ∧ ¬ okB e b j := by
        apply Classical.byContradiction
        intro hn
        exact h fun i hi => Classical.byContradiction fun hi2 => hn ⟨i, hi, hi2⟩
      obtain ⟨n, hn⟩ := h2
      induction n using Nat.strongRecOn with
      | ind n ih =>
        by_cases hlow : ∃ i, i < n ∧ ¬ okB e b i
        · obtain ⟨i, hi, hi2⟩ := hlow
          exact ih i hi ⟨by omega, hi2⟩
        · exact ⟨n, hn, fun i hi => Classical.byContradiction fun hi2 => hlow ⟨i, hi, hi2⟩⟩
    obtain ⟨j, ⟨hj, hbad⟩, hlow⟩ := hex
    exact adv_fails e cnt b hb j hj hlow hbad

/-- So many tries, each alone: how many went, and the epoch behind them. -/
def triedR (e : Int) (b : List Int) : Nat → Nat × Int
  | 0 => (0, e)
  | n + 1 => if allOk (triedR e b n).2 b = true then ((triedR e b n).1 + 1, wrap64 ((triedR e b n).2 + 1)) else triedR e b n
theorem tried_le (e : Int) (b : List Int) : ∀ n, (triedR e b n).1 ≤ n
  | 0 => Nat.le_refl _
  | n + 1 => by
    have := tried_le e b n
    simp only [triedR]
    split
    · simp only; omega
    · omega

/-- A task that is alone, on a memory that was there before. -/
structure AloneIn {α : Type} (w0 : World) (m c t pb po : Nat) (ty : TypeId) (r : Res MemS α) (val : α → Value) (p0 : Res MemS α) (μ0 : MemS) (cs : Array Value) (k : Nat) (w : World) (s : TrS) (F : List Nat) : Prop where
  put : Put w m c t pb po ty r val (Res.alone k p0 μ0).2 s F ((Res.alone k p0 μ0).1.putIn cs po val) (Res.alone k p0 μ0).1
  told : s.told.length ≤ k
  new : ∀ b ∈ F, w0.heap.size ≤ b
  upd : Upd [m, c] w0 w
theorem AloneIn.first {α : Type} {w0 w : World} {m c t pb po : Nat} {ty : TypeId} {r : Res MemS α} {val : α → Value} {μ : MemS} {F : List Nat} {cs : Array Value} (h : TM w m c t μ TrS.new F) (hb : Blk w pb ty cs) (hfar : pb ∉ m :: c :: F) (hcell : po < cs.size) (hr : r.next.isRet = false) (hF : ∀ b ∈ F, w0.heap.size ≤ b) (hw : Upd [m, c] w0 w) :
    AloneIn w0 m c t pb po ty r val r.next μ cs 0 w TrS.new F :=
  ⟨by simp only [Res.alone]; rw [putIn_next _ _ _ _ hr]; exact Put.first h hb hfar hcell hr, Nat.le_refl _, hF, hw⟩
theorem AloneIn.next {α : Type} {w0 w w' : World} {m c t pb po : Nat} {ty : TypeId} {r : Res MemS α} {val : α → Value} {p0 : Res MemS α} {μ0 : MemS} {s : TrS} {F : List Nat} {cs : Array Value} {k : Nat} {time : Int} {e : Ending}
    (h : AloneIn w0 m c t pb po ty r val p0 μ0 cs k w s F) (hpb : w0.heap.size ≤ pb)
    (hs : PutStep w m c t pb po ty r val (Res.alone k p0 μ0).2 s F ((Res.alone k p0 μ0).1.putIn cs po val) (Res.alone k p0 μ0).1 time e w') :
    e = .returned (.bool (Res.alone (k + 1) p0 μ0).1.isRet) ∧ ∃ s' F', AloneIn w0 m c t pb po ty r val p0 μ0 cs (k + 1) w' s' F' := by
  obtain ⟨hput, htold, hF, hw⟩ := h
  obtain ⟨he, s', F', hp, ht, -, hF', hu⟩ := hs
  have hsz := hw.size
  rw [putIn_step] at hp
  refine ⟨he, s', F', hp, ?_, fun b hb => (hF' b hb).elim (hF b) fun h => by omega, hw.trans_new hu ?_⟩
  · rw [ht, List.length_append]
    have := tells_le (Res.alone k p0 μ0).1 (Res.alone k p0 μ0).2
    omega
  · intro b hb
    simp only [List.mem_cons] at hb
    rcases hb with e | e | e | e
    · exact .inr (by omega)
    · exact .inl (by simp [e])
    · exact .inl (by simp [e])
    · exact .inr (hF b e)
theorem call2_in (w0 : World) (kd x : Int) (m c t pb : Nat) (p0 : Res MemS Bool) (μ0 : MemS) (k : Nat) (time : Int) (w : World) (s : TrS) (F : List Nat) (hkd : kd.tmod 3 = 2) (h : AloneIn w0 m c t pb 0 4 (callR 2 x) Value.bool p0 μ0 #[.bool false] k w s F) (hk : k < 1000000) (hpb : w0.heap.size ≤ pb) :
    Calls Try.prog 19 #[.pointer (some ⟨t, 0, none⟩), .int .i64 time, .func (.func 36) #[.agg #[.int .u8 kd, .int .i64 x, .pointer (some ⟨pb, 0, none⟩)]] #[]] w
      fun e w' => e = .returned (.bool (Res.alone (k + 1) p0 μ0).1.isRet) ∧ ∃ s' F', AloneIn w0 m c t pb 0 4 (callR 2 x) Value.bool p0 μ0 #[.bool false] (k + 1) w' s' F' :=
  (call2_step kd x m c t pb 0 _ _ s F _ _ time w hkd h.put (by have := h.told; omega) fun hso => by rw [putIn_next _ _ _ _ (by rw [← h.put.over]; exact hso)]; rfl).mono fun _ _ hs => h.next hpb hs

set_option maxRecDepth 100000 in
theorem rcu_tried (n : Nat) (hn : n ≤ 1000) (m c : Nat) (e cnt : Int) (b : List Int) (hb : b.length = 16) (w : World) (hm : MemAt w m c (RM e b cnt)) :
    Calls Try.prog 39 #[.pointer (some ⟨m, 0, none⟩), .int .i64 n] w fun ed w' => ed = .returned (.int .i64 (triedR e b n).1) ∧ (∃ cnt', MemAt w' m c (RM (triedR e b n).2 b cnt')) ∧ Upd [m, c] w w' := by
  have HB := Lib.hid hb
  clear hb
  go_enter Try.func39, Try.ntmps39
  go_wp2_with fail
  go_loopw [5, 6] (fun g i wr => ∃ (k : Nat) (cnt' : Int), k ≤ n ∧ i = .int .i64 k ∧ g = .int .i64 (triedR e b k).1 ∧ MemAt wr m c (RM (triedR e b k).2 b cnt') ∧ Upd [m, c] w wr) (fun _ i _ => n - (intOf i).toNat)
  case atStart => exact ⟨0, cnt, Nat.zero_le _, rfl, rfl, hm, Upd.refl _ _⟩
  case round =>
    clear hm
    obtain ⟨k, cnt', hk, rfl, rfl, hm, hw⟩ := hrel
    by_cases hlt : k < n
    · have hle := tried_le e b k
      have htr : triedR e b (k + 1) = if allOk (triedR e b k).2 b = true then ((triedR e b k).1 + 1, wrap64 ((triedR e b k).2 + 1)) else triedR e b k := rfl
      generalize hq : triedR e b k = q at *
      obtain ⟨g0, e0⟩ := q
      simp only at hm htr hle
      have HTR := Lib.hid htr
      obtain ⟨cnt2, h18⟩ := adv18 e0 cnt' b HB.out
      have H18 := Lib.hid h18
      clear htr h18 hq
      go_wp2_with fail
      refine (t_new m c _ _ hm).mono ?_
      rintro e1 w2 ⟨rfl, ht, hb2⟩
      have hB2 := hb2.size
      have hu2 : Upd [m, c] w w2 := hw.trans (Upd.of_below hb2)
      have hwr := hw.size
      have hmlt := hm.1.lt
      have hclt := hm.2.1.lt
      generalize hwt : wr.heap.size = t at *
      have hb0 := (Blk.new w2 4 #[.bool false])
      have hA : AloneIn w m c t w2.heap.size 0 4 (callR 2 0) Value.bool (callR 2 0).next (RM e0 b cnt') #[.bool false] 0 (w2.alloc (.cells #[.bool false] 4)) _ _ :=
        AloneIn.first (ht.alloc _) hb0 (fun hin => by have := ht.lt _ hin; omega) (by simp) rfl (by simp; omega) (hu2.alloc _)
      have hpb : w.heap.size ≤ w2.heap.size := by omega
      clear ht hb0 hu2 hb2 hm hw hwt hB2 hmlt hclt
      go_wp2_with fail
      generalize w2.alloc (.cells #[.bool false] 4) = w3 at *
      generalize w2.heap.size = pb at *
      go_loopw [9] (fun i wi => ∃ (j : Nat) (s : TrS) (F : List Nat), j ≤ 18 ∧ i = .int .i64 j ∧ AloneIn w m c t pb 0 4 (callR 2 0) Value.bool (callR 2 0).next (RM e0 b cnt') #[.bool false] j wi s F) (fun i _ => 18 - (intOf i).toNat)
      case atStart => exact ⟨0, _, _, Nat.zero_le _, rfl, hA⟩
      case round =>
        clear hA
        obtain ⟨j, s, F, hj, rfl, hA⟩ := hrel
        by_cases hlt2 : j < 18
        · go_wp2_with fail
          refine (call2_in w 2 0 m c t pb _ _ j j _ _ _ (by decide) hA (by omega) hpb).mono ?_
          rintro e2 w4 ⟨rfl, s', F', hA⟩
          go_wp2
          go_roundw
          case rel => exact ⟨j + 1, s', F', by omega, by go_num, hA⟩
          case measure => simp [intOf]; omega
        · obtain rfl : j = 18 := by omega
          obtain ⟨hp, -, -, hw⟩ := hA
          have hr : (callR 2 0).next = advanceR.next := rfl
          rw [hr, H18.out] at hp
          have hx := hp.blk.at_ (i := 0) (v := .bool (allOk e0 b)) (by simp [Res.putIn])
          have hm := hp.tm.mem
          clear hp hr
          cases hok : allOk e0 b with
          | true =>
            rw [hok] at hx hm
            have htr := HTR.out
            rw [hok, if_pos rfl] at htr
            have HT2 := Lib.hid htr
            have HM := Lib.hid hm
            clear htr hok hm
            go_wp2
            go_roundw
            case rel => exact ⟨k + 1, cnt2, by omega, by go_num, by rw [HT2.out]; go_num, by rw [HT2.out]; exact HM.out, hw⟩
            case measure => simp [intOf]; omega
          | false =>
            rw [hok] at hx hm
            have htr := HTR.out
            rw [hok, if_neg (by decide)] at htr
            have HT2 := Lib.hid htr
            have HM := Lib.hid hm
            clear htr hok hm
            go_wp2
            go_roundw
            case rel => exact ⟨k + 1, cnt2, by omega, by go_num, by rw [HT2.out], by rw [HT2.out]; exact HM.out, hw⟩
            case measure => simp [intOf]; omega
    · obtain rfl : k = n := by omega
      go_wp2
      go_ret
      exact ⟨rfl, ⟨cnt', hm⟩, hw⟩
end Go.Proofs.Ytcphidmfdakbeaa
