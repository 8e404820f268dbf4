/- Layer 4's statements, walked: the tasks' steps, awake, RcuFrees, RcuNobody. -/
import Derived.Test.YtcphidmfdakbeaaRcu
namespace Go.Proofs.Ytcphidmfdakbeaa
open Go.RowKit

theorem call2_step (kd x : Int) (m c t pb po : Nat) (ty : TypeId) (μ : MemS) (s : TrS) (F : List Nat) (cs : Array Value) (cur : Res MemS Bool) (time : Int) (w : World) (hk : kd.tmod 3 = 2)
    (h : Put w m c t pb po ty (callR 2 x) Value.bool μ s F cs cur) (hl : s.told.length < 1000000) (hfalse : s.over = false → cs[po]? = some (.bool false)) :
    Calls Try.prog 19 #[.pointer (some ⟨t, 0, none⟩), .int .i64 time, .func (.func 36) #[.agg #[.int .u8 kd, .int .i64 x, .pointer (some ⟨pb, po, none⟩)]] #[]] w (PutStep w m c t pb po ty (callR 2 x) Value.bool μ s F cs cur time) := by
  refine put_step _ _ m c t pb po ty (callR 2 x) _ μ s F cs cur time w h (fun _ => by kernel_rfl) fun w1 h1 hb1 hso => ?_
  exact call_run2 kd x pb po ty cs m c t μ (s.begin time) F _ w1 h1 (h.begin_in time) (by omega) hso hk hb1 (hfalse hso) h.far
theorem call01_step (k : Nat) (hk01 : k = 0 ∨ k = 1) (kd x : Int) (a : Option Addr) (m c t : Nat) (μ : MemS) (s : TrS) (F : List Nat) (cur : Res MemS Bool) (time : Int) (w : World) (hk : kd.tmod 3 = k)
    (h : Bare w m c t (callR k x) μ s F cur) (hl : s.told.length < 1000000) :
    Calls Try.prog 19 #[.pointer (some ⟨t, 0, none⟩), .int .i64 time, .func (.func 36) #[.agg #[.int .u8 kd, .int .i64 x, .pointer a]] #[]] w (BareStep w m c t (callR k x) μ s F cur time) := by
  refine bare_step _ _ m c t (callR k x) μ s F cur time w h (fun _ => by kernel_rfl) fun w1 h1 _ hso => ?_
  exact call_run01 k hk01 kd x a m c t μ (s.begin time) F _ w1 h1 (begin_in s time) (by omega) hso hk
theorem call2_alone (w0 : World) (kd x : Int) (m c t pb : Nat) (p0 : Res MemS Bool) (μ0 : MemS) (told0 : List Int) (k : Nat) (time : Int) (w : World) (s : TrS) (F : List Nat) (hkd : kd.tmod 3 = 2) (h : AloneAt w0 m c t pb 0 4 (callR 2 x) Value.bool p0 μ0 told0 #[.bool false] k w s F) (hk : told0.length + k < 1000000) (hmc : ∀ b ∈ [pb, m, c], w0.heap.size ≤ b) :
    Calls Try.prog 19 #[.pointer (some ⟨t, 0, none⟩), .int .i64 time, .func (.func 36) #[.agg #[.int .u8 kd, .int .i64 x, .pointer (some ⟨pb, 0, none⟩)]] #[]] w
      fun e w' => e = .returned (.bool (Res.alone (k + 1) p0 μ0).1.isRet) ∧ ∃ s' F', AloneAt w0 m c t pb 0 4 (callR 2 x) Value.bool p0 μ0 told0 #[.bool false] (k + 1) w' s' F' :=
  (call2_step kd x m c t pb 0 _ _ s F _ _ time w hkd h.put (h.short hk) fun hso => by rw [putIn_next _ _ _ _ (by rw [← h.put.over]; exact hso)]; rfl).mono fun _ _ hs => h.next hmc hs

theorem alone04 : Res.alone 20 (callR 2 0).next ⟨List.replicate 30 0, 0⟩ = (.ret true, ⟨(List.replicate 30 0).set 3 1, 18⟩) := by kernel_rfl

set_option maxRecDepth 100000 in
theorem awake04 (w : World) : Calls Try.prog 34 #[] w fun e w' => e = .returned (.bool true) ∧ Below w.heap.size w w' := by
  go_enter Try.func34, Try.ntmps34
  go_wp2_with fail
  refine (cell_new 30 _).mono ?_
  rintro e w1 ⟨rfl, hm, hb, -⟩
  rw [show (capn 30).toNat = 30 from rfl] at hm
  have hB1 := hb.size
  generalize hx1 : w.heap.size + 1 = m at *
  obtain ⟨c, hc⟩ : ∃ c, c = w.heap.size := ⟨_, rfl⟩
  rw [← hc] at hm
  have hbm : ∀ b ∈ [m, c], w.heap.size ≤ b := by simp; omega
  clear hx1 hc
  go_wp2_with fail
  refine (t_new m c _ _ hm).mono ?_
  rintro e w2 ⟨rfl, ht, hb2⟩
  have hbt := below_then hb hb2 (Nat.le_refl _)
  have hB2 := hbt.size
  generalize w1.heap.size = t at *
  have hb0 := (Blk.new w2 4 #[.bool false])
  have hA : AloneAt w m c t w2.heap.size 0 4 (callR 2 0) Value.bool (callR 2 0).next ⟨List.replicate 30 0, 0⟩ [] #[.bool false] 0 (w2.alloc (.cells #[.bool false] 4)) _ _ :=
    AloneAt.first (ht.alloc _) hb0 (fun hin => by have := ht.lt _ hin; omega) (by simp) rfl (by simp; omega) (hbt.alloc hB2 _)
  have hmc : ∀ b ∈ [w2.heap.size, m, c], w.heap.size ≤ b := by
    intro b hb
    simp only [List.mem_cons] at hb
    rcases hb with e | hb
    · omega
    · exact hbm b (by simpa using hb)
  have H5 := Lib.hid alone04
  clear ht hb0 hbt hb2 hm hb
  go_wp2_with fail
  generalize w2.alloc (.cells #[.bool false] 4) = w3 at *
  generalize w2.heap.size = pb at *
  go_loopw [4] (fun i wr => ∃ (k : Nat) (s : TrS) (F : List Nat), k ≤ 20 ∧ i = .int .i64 k ∧ AloneAt w m c t pb 0 4 (callR 2 0) Value.bool (callR 2 0).next ⟨List.replicate 30 0, 0⟩ [] #[.bool false] k wr s F) (fun i _ => 20 - (intOf i).toNat)
  case atStart => exact ⟨0, _, _, Nat.zero_le _, rfl, hA⟩
  case round =>
    clear hA
    obtain ⟨k, s, F, hk, rfl, hA⟩ := hrel
    by_cases hlt : k < 20
    · go_wp2_with fail
      refine (call2_alone w 2 0 m c t pb _ _ _ k k _ _ _ (by decide) hA (by simp; omega) hmc).mono ?_
      rintro e w4 ⟨rfl, s', F', hA⟩
      go_wp2
      go_roundw
      case rel => exact ⟨k + 1, s', F', by omega, by go_num, hA⟩
      case measure => simp [intOf]; omega
    · obtain rfl : k = 20 := by omega
      obtain ⟨hp, -, -, hw⟩ := hA
      rw [H5.out] at hp
      have hm := hp.tm.mem
      have HP := Lib.hid hp
      clear hp
      go_wp2_with fail
      refine (cell_load m c _ 3 _ hm).mono ?_
      rw [show (⟨(List.replicate 30 0).set 3 1, 18⟩ : MemS).load 3 = (1, 0, ⟨(List.replicate 30 0).set 3 1, 19⟩) by kernel_rfl]
      rintro e w5 ⟨rfl, hm5, hu5⟩
      have hp := HP.out.mem hm5 hu5 (by simp)
      have hw5 := below_upd hw hu5 (Nat.le_refl _) (fun b hb => hmc b (by simp at hb; simp [hb]))
      have hx := hp.blk.at_ (i := 0) (v := .bool true) (by simp [Res.putIn])
      have hf := hp.blk.free 0
      clear hp hm hm5 hu5 hw
      go_wp2_with fail
      refine (rcu_free 0 2 _ (by decide) (by decide)).mono ?_
      rintro e w' ⟨rfl, rfl⟩
      rw [show decide ((0 : Int) + 2 ≤ 2) = true by decide]
      go_wp2_with fail
      refine (rcu_free 1 2 _ (by decide) (by decide)).mono ?_
      rintro e w' ⟨rfl, rfl⟩
      rw [show decide ((1 : Int) + 2 ≤ 2) = false by decide]
      go_wp2
      go_ret
      exact ⟨rfl, hw5⟩

set_option maxRecDepth 100000 in
set_option maxHeartbeats 2000000 in
theorem frees04 (tag ep : Int) (w : World) (h1 : (Lit.int .i64 tag).wf = true) (h2 : (Lit.int .i64 ep).wf = true) :
    Calls Try.prog 7 #[.int .i64 tag, .int .i64 ep] w fun e w' => e = .returned (.bool true) ∧ Below w.heap.size w w' := by
  have HA := Lib.hid awake04
  have HF := Lib.hid (fun w => rcu_free tag ep w h1 h2)
  have b1 := bounds_i64 h1
  have b2 := bounds_i64 h2
  clear h1 h2
  have hc : ¬ tag < ep ∨ (tag < 0 ∧ 0 ≤ ep ∧ tag ≠ -1) ∨ (tag = -1 ∧ 0 < ep) ∨ (tag = -1 ∧ ep = 0) ∨ (0 ≤ tag ∧ 0 ≤ ep ∧ tag < ep ∧ 2 ≤ ep - tag) ∨ (0 ≤ tag ∧ 0 ≤ ep ∧ tag < ep ∧ ¬ 2 ≤ ep - tag) ∨ (tag < 0 ∧ ep < 0 ∧ tag < ep ∧ 2 ≤ ep - tag) ∨ (tag < 0 ∧ ep < 0 ∧ tag < ep ∧ ¬ 2 ≤ ep - tag) := by omega
  rcases hc with h | ⟨h, h', h''⟩ | ⟨rfl, h⟩ | ⟨rfl, rfl⟩ | ⟨h, h', h'', h3⟩ | ⟨h, h', h'', h3⟩ | ⟨h, h', h'', h3⟩ | ⟨h, h', h'', h3⟩
  · have e : decide (tag + 2 ≤ ep) = false := by simp; omega
    have HE := Lib.hid e
    clear b1 b2 e
    go_enter Try.func7, Try.ntmps7
    go_wp2_with fail
    refine (HA.out _).mono ?_
    rintro e w1 ⟨rfl, hb1⟩
    go_wp2_with fail
    refine (HF.out _).mono ?_
    rw [HE.out]
    rintro e w' ⟨rfl, rfl⟩
    go_wp2
    go_ret
    exact ⟨rfl, hb1⟩
  · have e : decide (tag + 2 ≤ ep) = true := by simp; omega
    have HE := Lib.hid e
    have c1 : tag < ep := by omega
    have c2 : ¬ 0 ≤ tag := by omega
    have c3 : (tag == -1) = false := by simpa using h''
    clear b1 b2 e
    go_enter Try.func7, Try.ntmps7
    go_wp2_with fail
    refine (HA.out _).mono ?_
    rintro e w1 ⟨rfl, hb1⟩
    go_wp2_with fail
    refine (HF.out _).mono ?_
    rw [HE.out]
    rintro e w' ⟨rfl, rfl⟩
    go_wp2
    go_ret
    exact ⟨rfl, hb1⟩
  · have e : decide ((-1 : Int) + 2 ≤ ep) = true := by simp; omega
    have HE := Lib.hid e
    have c1 : (-1 : Int) < ep := by omega
    have c2 : 0 ≤ ep := by omega
    have c3 : (ep == 0) = false := by simp; omega
    clear b1 b2 e
    go_enter Try.func7, Try.ntmps7
    go_wp2_with fail
    refine (HA.out _).mono ?_
    rintro e w1 ⟨rfl, hb1⟩
    go_wp2_with fail
    refine (HF.out _).mono ?_
    rw [HE.out]
    rintro e w' ⟨rfl, rfl⟩
    go_wp2
    go_ret
    exact ⟨rfl, hb1⟩
  · have e : decide ((-1 : Int) + 2 ≤ 0) = false := by decide
    have HE := Lib.hid e
    clear b1 b2 e
    go_enter Try.func7, Try.ntmps7
    go_wp2_with fail
    refine (HA.out _).mono ?_
    rintro e w1 ⟨rfl, hb1⟩
    go_wp2_with fail
    refine (HF.out _).mono ?_
    rw [HE.out]
    rintro e w' ⟨rfl, rfl⟩
    go_wp2
    go_ret
    exact ⟨rfl, hb1⟩
  · have e : decide (tag + 2 ≤ ep) = true := by simp; omega
    have HE := Lib.hid e
    have c5 : wrap64 (ep - tag) = ep - tag := by unfold wrap64; omega
    have C5 := Lib.hid c5
    have c6 : 2 ≤ wrap64 (ep - tag) := by rw [c5]; exact h3
    have c9 : (tag == -1) = false := by simp; omega
    clear b1 b2 e c5 h3
    go_enter Try.func7, Try.ntmps7
    go_wp2_with fail
    refine (HA.out _).mono ?_
    rintro e w1 ⟨rfl, hb1⟩
    go_wp2_with fail
    refine (HF.out _).mono ?_
    rw [HE.out]
    rintro e w' ⟨rfl, rfl⟩
    go_wp2
    go_ret
    exact ⟨rfl, hb1⟩
  · have e : decide (tag + 2 ≤ ep) = false := by simp; omega
    have HE := Lib.hid e
    have c5 : wrap64 (ep - tag) = ep - tag := by unfold wrap64; omega
    have C5 := Lib.hid c5
    have c6 : ¬ 2 ≤ wrap64 (ep - tag) := by rw [c5]; exact h3
    have c9 : (tag == -1) = false := by simp; omega
    clear b1 b2 e c5 h3
    go_enter Try.func7, Try.ntmps7
    go_wp2_with fail
    refine (HA.out _).mono ?_
    rintro e w1 ⟨rfl, hb1⟩
    go_wp2_with fail
    refine (HF.out _).mono ?_
    rw [HE.out]
    rintro e w' ⟨rfl, rfl⟩
    go_wp2
    go_ret
    exact ⟨rfl, hb1⟩
  · have e : decide (tag + 2 ≤ ep) = true := by simp; omega
    have HE := Lib.hid e
    have c5 : wrap64 (ep - tag) = ep - tag := by unfold wrap64; omega
    have C5 := Lib.hid c5
    have c6 : 2 ≤ wrap64 (ep - tag) := by rw [c5]; exact h3
    have c7 : ¬ 0 ≤ tag := by omega
    have c8 : ¬ 0 ≤ ep := by omega
    have c9 : (ep == 0) = false := by simp; omega
    clear b1 b2 e c5 h3
    go_enter Try.func7, Try.ntmps7
    go_wp2_with fail
    refine (HA.out _).mono ?_
    rintro e w1 ⟨rfl, hb1⟩
    go_wp2_with fail
    refine (HF.out _).mono ?_
    rw [HE.out]
    rintro e w' ⟨rfl, rfl⟩
    go_wp2
    go_ret
    exact ⟨rfl, hb1⟩
  · have e : decide (tag + 2 ≤ ep) = false := by simp; omega
    have HE := Lib.hid e
    have c5 : wrap64 (ep - tag) = ep - tag := by unfold wrap64; omega
    have C5 := Lib.hid c5
    have c6 : ¬ 2 ≤ wrap64 (ep - tag) := by rw [c5]; exact h3
    have c7 : ¬ 0 ≤ tag := by omega
    have c8 : ¬ 0 ≤ ep := by omega
    have c9 : (ep == 0) = false := by simp; omega
    clear b1 b2 e c5 h3
    go_enter Try.func7, Try.ntmps7
    go_wp2_with fail
    refine (HA.out _).mono ?_
    rintro e w1 ⟨rfl, hb1⟩
    go_wp2_with fail
    refine (HF.out _).mono ?_
    rw [HE.out]
    rintro e w' ⟨rfl, rfl⟩
    go_wp2
    go_ret
    exact ⟨rfl, hb1⟩

set_option maxRecDepth 100000 in
theorem nobody04 (x : Int) (w : World) (_ : (Lit.int .i64 x).wf = true) :
    Calls Try.prog 8 #[.int .i64 x] w fun e w' => e = .returned (.bool true) ∧ Below w.heap.size w w' := by
  have HA := Lib.hid awake04
  by_cases hx : 0 ≤ x ∧ x ≤ 15
  · obtain ⟨hx0, hx15⟩ := hx
    go_enter Try.func8, Try.ntmps8
    go_wp2_with fail
    refine (HA.out _).mono ?_
    rintro e w1 ⟨rfl, hb1⟩
    go_wp2_with fail
    refine (HA.out _).mono ?_
    rintro e w2 ⟨rfl, hb2⟩
    go_wp2
    go_ret
    exact ⟨rfl, below_then hb1 hb2 (Nat.le_refl _)⟩
  · have hr0 : callR 0 x = .ret false := by
      unfold callR enterR
      rw [if_pos rfl, if_neg (by omega)]
      rfl
    have hr1 : callR 1 x = .ret false := by
      unfold callR leaveR
      rw [if_neg (by decide), if_pos rfl, if_neg (by omega)]
      rfl
    have HR0 := Lib.hid hr0
    have HR1 := Lib.hid hr1
    clear hr0 hr1
    have hcase : x < 0 ∨ (0 ≤ x ∧ 15 < x) := by omega
    have HN := Lib.hid hx
    clear hx
    rcases hcase with hneg | ⟨hpos, hbig⟩
    all_goals
      first | (have hn0 : ¬ 0 ≤ x := by omega) | (have hn0 : ¬ x ≤ 15 := by omega)
      go_enter Try.func8, Try.ntmps8
      go_wp2_with fail
      refine (HA.out _).mono ?_
      rintro e w0 ⟨rfl, hb0⟩
      go_wp2_with fail
      refine (cell_new 30 _).mono ?_
      rintro e w1 ⟨rfl, hm, hb1, -⟩
      have hB0 := hb0.size
      have hb := below_then hb0 hb1 (Nat.le_refl _)
      rw [show (capn 30).toNat = 30 from rfl] at hm
      generalize hx1 : w0.heap.size + 1 = m at *
      generalize hc : w0.heap.size = c at *
      have hmlt := hm.1.lt
      have hclt := hm.2.1.lt
      go_wp2_with fail
      refine (t_new m c _ _ hm).mono ?_
      rintro e w2 ⟨rfl, ht2, hb2⟩
      have hm2 := ht2.mem
      go_wp2_with fail
      refine (t_new m c _ _ hm2).mono ?_
      rintro e w3 ⟨rfl, ht3, hb3⟩
      have hbt := below_then (below_then hb hb2 (Nat.le_refl _)) hb3 (Nat.le_refl _)
      have ht2' : TM w3 m c w1.heap.size ⟨List.replicate 30 0, 0⟩ TrS.new [w1.heap.size] := ht2.upd (Upd.of_below hb3 (F := [])) (by simp) (by simp) (by simp)
      have hsz3 := hb2.size
      have htlt := ht2.lt w1.heap.size (by simp)
      have hw1 := hb.size
      clear ht2 hb hb0 hb1 hb2 hb3 hm hm2
      generalize h2 : w2.heap.size = t2 at *
      generalize h1 : w1.heap.size = t1 at *
      clear h1 h2
      go_wp2_with fail
      refine (bare_run _ _ m c t1 (callR 0 x) _ TrS.new [t1] (.ret false) 0 _ ht2' (by rw [HR0.out]; rfl) rfl (fun _ => by kernel_rfl) (fun w4 h4 _ => call_run01 0 (.inl rfl) 0 x none m c t1 _ (TrS.new.begin 0) [t1] 1 w4 h4 ⟨Nat.le_refl _, by simp [TrS.begin, TrS.new]⟩ (by omega) rfl (by decide))).mono ?_
      rintro e w4 ⟨rfl, s4, F4, ⟨htm4, -, -⟩, -, -, hF4, hu4⟩
      simp only [Res.step, Res.isRet] at htm4 ⊢
      have ht3' : TM w4 m c t2 ⟨List.replicate 30 0, 0⟩ TrS.new [t2] := ⟨htm4.mem, ht3.tr.upd hu4 (by simp; omega), ht3.hm, ht3.hc⟩
      have hw4 := below_upd hbt hu4 (Nat.le_refl _) (by simp; omega)
      clear htm4 hbt hu4 ht3 ht2'
      go_wp2_with fail
      refine (bare_run _ _ m c t2 (callR 1 x) _ TrS.new [t2] (.ret false) 0 _ ht3' (by rw [HR1.out]; rfl) rfl (fun _ => by kernel_rfl) (fun w5 h5 _ => call_run01 1 (.inr rfl) 1 x none m c t2 _ (TrS.new.begin 0) [t2] 1 w5 h5 ⟨Nat.le_refl _, by simp [TrS.begin, TrS.new]⟩ (by omega) rfl (by decide))).mono ?_
      rintro e w5 ⟨rfl, s5, F5, ⟨htm5, -, -⟩, -, -, hF5, hu5⟩
      simp only [Res.step, Res.isRet] at htm5 ⊢
      have hm5 := htm5.mem
      have hw5 := below_upd hw4 hu5 (Nat.le_refl _) (by simp; omega)
      clear htm5 hw4 hu5 ht3'
      go_wp2_with fail
      refine (cell_count m c _ _ hm5).mono ?_
      rintro e w' ⟨rfl, rfl⟩
      go_wp2
      go_ret
      exact ⟨rfl, hw5⟩
end Go.Proofs.Ytcphidmfdakbeaa
