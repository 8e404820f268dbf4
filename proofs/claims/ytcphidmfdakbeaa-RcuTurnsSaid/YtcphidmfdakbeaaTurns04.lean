/- RcuTurns, walked: each step does what the chapter says, and each Advance tells whether it went. -/
import Derived.Test.YtcphidmfdakbeaaRcuTurns
import Derived.Test.YtcphidmfdakbeaaRef04
import Derived.Test.YtcphidmfdakbeaaFlat
import Derived.Test.YtcphidmfdakbeaaLater
import Derived.Deep.RegionHeld3
import Derived.Maps.AppendAt
import Derived.StillTailTactics
namespace Go.Proofs.Ytcphidmfdakbeaa
open Go.RowKit
set_option linter.unusedSimpArgs false

/-- An array equals itself, if its elements do. -/
theorem run_equalIn_array_same {P : Program} {d : Nat} {t el : TypeId} {n : Nat} {xs : Array Value} (w : World) (ht : P.underlying t = some (.array n el)) (hi : ∃ i, P.info? el = some i)
    (h : ∀ j, j < n → ∃ x, (part el xs (j * P.cellsOf el)).run P w = .ok x w ∧ (Op.equalIn d el x x).run P w = .ok true w) :
    (Op.equalIn (d + 1) t (.agg xs) (.agg xs)).run P w = .ok true w := by
  obtain ⟨i, hi⟩ := hi
  simp only [Op.equalIn, Sem.run_bind, run_underlying ht, Result.andThen_ok, run_sizeOf w hi]
  simp only [Std.Legacy.Range.forIn_eq_forIn_range', Std.Legacy.Range.size, Nat.sub_zero, Nat.add_one_sub_one, Nat.div_one]
  have each : ∀ j ∈ List.range' 0 n, ∃ x, (part el xs (j * P.cellsOf el)).run P w = .ok x w ∧ (Op.equalIn d el x x).run P w = .ok true w := by
    intro j hj
    rw [List.mem_range'_1] at hj
    exact h j (by omega)
  generalize List.range' 0 n = is at each
  induction is with
  | nil => simp
  | cons j is ih =>
    obtain ⟨x, h1, h2⟩ := each j (by simp)
    have := ih (fun y hy => each y (by simp [hy]))
    simp only [List.forIn_cons, Sem.run_bind, h1, h2, Result.andThen_ok, Sem.run_pure, Bool.not_true, Bool.false_eq_true, if_false]
    exact this
theorem neq_board (e : Int) (b : List Int) (hb : b.length = 16) (w : World) : (binOp .neq 72 (.agg (nums .i64 (e :: b))) (.agg (nums .i64 (e :: b)))).run Try.prog w = .ok (.bool false) w := by
  have h16 : ∀ d, (Op.equalIn (d + 2) 70 (.agg (nums .i64 b)) (.agg (nums .i64 b))).run Try.prog w = .ok true w := by
    intro d
    refine run_equalIn_array_same w Try.underlying70 (Option.isSome_iff_exists.1 (by kernel_rfl : (Try.prog.info? 2).isSome = true)) fun j hj => ⟨.int .i64 (b.getD j 0), ?_, ?_⟩
    · rw [show Try.prog.cellsOf 2 = 1 by kernel_rfl, Nat.mul_one]
      exact run_part_plain w (by kernel_rfl : Try.prog.plainKey 2 = true) (nums_get .i64 b j (by omega))
    · rw [run_equalIn_int (h := Try.underlying2)]
      simp
  have e2 : (nums .i64 (e :: b)).extract 1 17 = nums .i64 b := by
    apply Array.ext'
    simp [nums, hb]
    rw [List.take_of_length_le (by simp [hb])]
  have e0 : (nums .i64 (e :: b))[0]? = some (.int .i64 e) := rfl
  simp [binOp, Op.equal, Op.maxDepth, go_sem, e0, e2, h16]

def ptrOf (t : Nat) : Value := .pointer (some ⟨t, 0, none⟩)
theorem info_trails : (Try.prog.info? 30).map (fun i => (i.zero, i.size, i.bytes)) = some (some (.pointer none), 1, 8) := by kernel_rfl
theorem under_trails : Try.prog.underlying 52 = some (.slice 30) := by kernel_rfl
theorem wrap_small (x : Int) (h1 : 0 ≤ x) (h2 : x ≤ 1000000) : wrap64 x = x := by unfold wrap64; omega

/-- A call, and where it is, as the chapter's cells. -/
def tcell (q : CallV × TS) : List Value := [.int .u8 q.1.kind, .int .i64 q.2.x, .int .i64 q.2.at_, .int .i64 q.2.saw, .bool q.2.over, .bool q.2.went]
theorem tcell_len (q : CallV × TS) : (tcell q).length = 6 := rfl
def tarr (l : List (CallV × TS)) : Array Value := (l.flatMap tcell).toArray
theorem tarr_get {l : List (CallV × TS)} {i : Nat} {q : CallV × TS} (h : l[i]? = some q) {j : Nat} (hj : j < 6) : (tarr l)[i * 6 + j]? = (tcell q)[j]? := by
  have := flat_get tcell_len l i q j h hj
  simpa [tarr] using this
theorem tarr_size (l : List (CallV × TS)) : (tarr l).size = l.length * 6 := by
  have := flat_len tcell_len l
  simpa [tarr] using this
theorem tarr_put {cs : Array Value} {l : List (CallV × TS)} {i : Nat} {q : CallV × TS} (hi : i < l.length) (hs : cs.size = l.length * 6) (h1 : ∀ j, j < 6 → cs[i * 6 + j]? = (tcell q)[j]?) (h2 : ∀ k, k < i * 6 ∨ i * 6 + 6 ≤ k → cs[k]? = (tarr l)[k]?) : cs = tarr (l.set i q) := by
  apply Array.ext'
  exact flat_put tcell_len cs.toList l i q (by simpa using hs) hi (by simpa using h1) (fun k hk => by have := h2 k hk; simpa [tarr] using this)
theorem tarr_step {l : List (CallV × TS)} {i : Nat} {q : CallV × TS} (h : l[i]? = some q) (t : TS) (hx : t.x = q.2.x) : tset (tarr l) (i * 6) t = tarr (l.set i (q.1, t)) := by
  have hi := (List.getElem?_eq_some_iff.1 h).1
  have hsz := tarr_size l
  have hb : i * 6 + 5 < (tarr l).size := by omega
  refine tarr_put hi (by simp [tset, hsz]) (fun j hj => ?_) (fun k hk => ?_)
  · have h0 := tarr_get h (j := 0) (by omega)
    have h1 := tarr_get h (j := 1) (by omega)
    rcases (show j = 0 ∨ j = 1 ∨ j = 2 ∨ j = 3 ∨ j = 4 ∨ j = 5 by omega) with rfl | rfl | rfl | rfl | rfl | rfl <;> unfold tset
    · repeat rw [Array.getElem?_setIfInBounds_ne (by omega)]
      exact h0
    · repeat rw [Array.getElem?_setIfInBounds_ne (by omega)]
      rw [h1]
      simp [tcell, hx]
    · repeat rw [Array.getElem?_setIfInBounds_ne (by omega)]
      rw [Array.getElem?_setIfInBounds_self_of_lt (by omega)]
      rfl
    · repeat rw [Array.getElem?_setIfInBounds_ne (by omega)]
      rw [Array.getElem?_setIfInBounds_self_of_lt (by simp; omega)]
      rfl
    · rw [Array.getElem?_setIfInBounds_ne (by omega), Array.getElem?_setIfInBounds_self_of_lt (by simp; omega)]
      rfl
    · rw [Array.getElem?_setIfInBounds_self_of_lt (by simp; omega)]
      rfl
  · unfold tset
    repeat rw [Array.getElem?_setIfInBounds_ne (by omega)]
def q0 : CallV × TS := (⟨0, 0⟩, ⟨0, 0, 0, 0, false, false⟩)
/-- A call at its beginning. -/
def qOf (c : CallV) : CallV × TS := (c, ⟨(c.kind.tmod 3).toNat, (c.reader.tmod 16).toNat, 0, 0, false, false⟩)
theorem made_tasks (N : Nat) : madeCells #[.int .u8 0, .int .i64 0, .int .i64 0, .int .i64 0, .bool false, .bool false] (N * 6) = tarr (List.replicate N q0) :=
  made_flat tcell_len _ q0 rfl N
theorem info_task04 : (Try.prog.info? 77).map (fun i => (i.zero, i.size, i.bytes)) = some (some (.agg #[.int .u8 0, .int .i64 0, .int .i64 0, .int .i64 0, .bool false, .bool false]), 6, 40) := by kernel_rfl
theorem under_tasks04 : Try.prog.underlying 73 = some (.slice 77) := by kernel_rfl
theorem make_tasks04 (N : Nat) (hN : N ≤ 16) (w : World) : (Instr.makeSlice 73 (.int .i64 (N : Int)) (.int .i64 (N : Int))).run Try.prog w = .ok (.slice (some ⟨w.heap.size, 0, none⟩) N N) (w.alloc (.cells (tarr (List.replicate N q0)) 77)) := by
  obtain ⟨i0, hi, hz0, hz1, hz2⟩ := info_parts info_task04
  have h := run_make (P := Try.prog) w 73 77 i0 _ under_tasks04 hi hz0 .i64 .i64 N N (by omega) (Int.le_refl _) (by rw [hz2]; omega) (by omega)
  rw [hz1, Int.toNat_natCast, show (Value.agg #[.int .u8 0, .int .i64 0, .int .i64 0, .int .i64 0, .bool false, .bool false]).cells = #[.int .u8 0, .int .i64 0, .int .i64 0, .int .i64 0, .bool false, .bool false] by rfl, made_tasks] at h
  exact h

theorem ts_start (t : TS) (h : t.at_ = 0) (ho : t.over = false) (hk : t.kind ≤ 2) : t.place = (callR t.kind t.x).next := by
  unfold TS.place
  rw [if_neg (by simp [ho])]
  rcases (show t.kind = 0 ∨ t.kind = 1 ∨ t.kind = 2 by omega) with h' | h' | h'
  · rw [h', if_pos rfl, if_pos h]
  · rw [h', if_neg (by decide), if_pos rfl]
  · rw [h', if_neg (by decide), if_neg (by decide), if_pos h]
    rfl
theorem qOf_ok (c : CallV) (hc : c.Ok) : (qOf c).2.Ok ∧ c.kind.tmod 3 = ((qOf c).2.kind : Int) ∧ c.reader.tmod 16 = ((qOf c).2.x : Int) := by
  obtain ⟨h1, h2, h3, h4⟩ := hc
  simp only [qOf]
  rw [Int.tmod_eq_emod_of_nonneg h1, Int.tmod_eq_emod_of_nonneg h3]
  refine ⟨⟨by simp only; omega, by simp only; omega, fun _ => ⟨by simp, fun _ => by simp⟩, fun _ => ⟨by simp, fun _ => rfl⟩, fun _ => ⟨by simp, fun _ => by simp⟩, fun _ => rfl⟩, by omega, by omega⟩
theorem made_false (n i : Nat) (h : i < n) : (madeCells #[.bool false] n)[i]? = some (.bool false) := by simp [madeCells, h, Nat.mod_one]
theorem blk_set6 {w : World} {b off : Nat} {ty : TypeId} {cs : Array Value} (h : Blk w b ty cs) (v0 v1 v2 v3 v4 v5 : Value) :
    Blk ((((((w.setCell ⟨b, off, none⟩ v0).setCell ⟨b, off + 1, none⟩ v1).setCell ⟨b, off + 2, none⟩ v2).setCell ⟨b, off + 3, none⟩ v3).setCell ⟨b, off + 4, none⟩ v4).setCell ⟨b, off + 5, none⟩ v5) b ty
      ((((((cs.setIfInBounds off v0).setIfInBounds (off + 1) v1).setIfInBounds (off + 2) v2).setIfInBounds (off + 3) v3).setIfInBounds (off + 4) v4).setIfInBounds (off + 5) v5) :=
  (((((h.put off v0).put (off + 1) v1).put (off + 2) v2).put (off + 3) v3).put (off + 4) v4).put (off + 5) v5
theorem upd_set6 (w : World) (b off : Nat) (v0 v1 v2 v3 v4 v5 : Value) :
    Upd [b] w ((((((w.setCell ⟨b, off, none⟩ v0).setCell ⟨b, off + 1, none⟩ v1).setCell ⟨b, off + 2, none⟩ v2).setCell ⟨b, off + 3, none⟩ v3).setCell ⟨b, off + 4, none⟩ v4).setCell ⟨b, off + 5, none⟩ v5) :=
  ((((((Upd.refl _ _).put (.inl (by simp)) _).put (.inl (by simp)) _).put (.inl (by simp)) _).put (.inl (by simp)) _).put (.inl (by simp)) _).put (.inl (by simp)) _
theorem tarr_first {qs : List (CallV × TS)} {k n : Nat} (hk : qs.length = k) (hn : k < n) (c : CallV) :
    ((((((tarr (qs ++ List.replicate (n - k) q0)).setIfInBounds (k * 6) (.int .u8 c.kind)).setIfInBounds (k * 6 + 1) (.int .i64 (qOf c).2.x)).setIfInBounds (k * 6 + 2) (.int .i64 0)).setIfInBounds (k * 6 + 3) (.int .i64 0)).setIfInBounds (k * 6 + 4) (.bool false)).setIfInBounds (k * 6 + 5) (.bool false) = tarr ((qs ++ [qOf c]) ++ List.replicate (n - (k + 1)) q0) := by
  have hl : (qs ++ List.replicate (n - k) q0).length = n := by simp; omega
  have hsz := tarr_size (qs ++ List.replicate (n - k) q0)
  rw [hl] at hsz
  have e : (qs ++ List.replicate (n - k) q0).set k (qOf c) = (qs ++ [qOf c]) ++ List.replicate (n - (k + 1)) q0 := by
    rw [List.set_append_right _ _ (by omega), hk, Nat.sub_self, show n - k = (n - (k + 1)) + 1 by omega, List.replicate_succ, List.set_cons_zero, List.append_assoc]
    rfl
  rw [← e]
  refine tarr_put (by rw [hl]; exact hn) (by simp [hsz, hl]) (fun j hj => ?_) (fun j hj => ?_)
  · rcases (show j = 0 ∨ j = 1 ∨ j = 2 ∨ j = 3 ∨ j = 4 ∨ j = 5 by omega) with rfl | rfl | rfl | rfl | rfl | rfl
    · repeat rw [Array.getElem?_setIfInBounds_ne (by omega)]
      rw [Nat.add_zero, Array.getElem?_setIfInBounds_self_of_lt (by omega)]
      rfl
    · repeat rw [Array.getElem?_setIfInBounds_ne (by omega)]
      rw [Array.getElem?_setIfInBounds_self_of_lt (by simp; omega)]
      rfl
    · repeat rw [Array.getElem?_setIfInBounds_ne (by omega)]
      rw [Array.getElem?_setIfInBounds_self_of_lt (by simp; omega)]
      rfl
    · repeat rw [Array.getElem?_setIfInBounds_ne (by omega)]
      rw [Array.getElem?_setIfInBounds_self_of_lt (by simp; omega)]
      rfl
    · repeat rw [Array.getElem?_setIfInBounds_ne (by omega)]
      rw [Array.getElem?_setIfInBounds_self_of_lt (by simp; omega)]
      rfl
    · rw [Array.getElem?_setIfInBounds_self_of_lt (by simp; omega)]
      rfl
  · repeat rw [Array.getElem?_setIfInBounds_ne (by omega)]
theorem set_same_list {α : Type} (l : List α) (i : Nat) (x : α) (h : l[i]? = some x) : l.set i x = l := by
  apply List.ext_getElem?
  intro j
  by_cases hj : i = j
  · subst hj
    rw [List.getElem?_set_self (List.getElem?_eq_some_iff.1 h).1, h]
  · rw [List.getElem?_set_ne hj]
def CInv (zs : List CallV) (qs : List (CallV × TS)) : Prop := qs.map (·.1) = zs ∧ ∀ q ∈ qs, q.2.kind = (q.1.kind.tmod 3).toNat

set_option maxRecDepth 100000 in
set_option maxHeartbeats 4000000 in
theorem turns04 (a : Option Addr) (len cap : Nat) (zs : List CallV) (ta : Option Addr) (tlen tcap : Nat) (tz : List Int) (w : World) (ha : ArgOf CallV.cells 2 CallV.Ok w a len cap zs) (ht : ArgInts .u8 w ta tlen tcap tz) :
    Calls Try.prog 9 #[.slice a len cap, .slice ta tlen tcap] w fun e w' => e = .returned (.bool true) ∧ Below w.heap.size w w' := by
  have HA := Lib.hid awake04
  have hcm := ht.hm
  have hcl := ht.le
  have hcm2 := ha.hm
  have hcl2 := ha.le
  unfold maxLen at hcm hcm2
  by_cases hout : len = 0 ∨ 8 < len ∨ 300 < tlen
  · have HH : Hid (ArgOf CallV.cells 2 CallV.Ok w a len cap zs ∧ ArgInts .u8 w ta tlen tcap tz) := ⟨ha, ht⟩
    clear ha ht
    rcases Nat.eq_zero_or_pos len with h0 | h0
    · subst h0
      clear hout
      go_enter Try.func9, Try.ntmps9
      go_wp2_with fail
      refine (HA.out _).mono ?_
      rintro e w1 ⟨rfl, hb1⟩
      go_wp2_with fail
      refine (HA.out _).mono ?_
      rintro e w2 ⟨rfl, hb2⟩
      go_wp2
      go_ret
      exact ⟨rfl, below_then hb1 hb2 (Nat.le_refl _)⟩
    · have hne : ((len : Int) == 0) = false := beq_eq_false_iff_ne.2 (by omega)
      rcases Nat.lt_or_ge 8 len with h8 | h8
      · clear hout
        go_enter Try.func9, Try.ntmps9
        go_wp2_with fail
        refine (HA.out _).mono ?_
        rintro e w1 ⟨rfl, hb1⟩
        go_wp2_with fail
        refine (HA.out _).mono ?_
        rintro e w2 ⟨rfl, hb2⟩
        go_wp2
        go_ret
        exact ⟨rfl, below_then hb1 hb2 (Nat.le_refl _)⟩
      · have h300 : 300 < tlen := by omega
        clear hout
        go_enter Try.func9, Try.ntmps9
        go_wp2_with fail
        refine (HA.out _).mono ?_
        rintro e w1 ⟨rfl, hb1⟩
        go_wp2_with fail
        refine (HA.out _).mono ?_
        rintro e w2 ⟨rfl, hb2⟩
        go_wp2
        go_ret
        exact ⟨rfl, below_then hb1 hb2 (Nat.le_refl _)⟩
  · have h0 : 0 < len := by omega
    have h8 : len ≤ 8 := by omega
    have h300 : tlen ≤ 300 := by omega
    have hne : ((len : Int) == 0) = false := beq_eq_false_iff_ne.2 (by omega)
    clear hout
    obtain ⟨i0, hi, hz0, hz1, hz2⟩ := info_parts info_trails
    have hmk := run_make_row' (P := Try.prog) 74 4 (.bool false) 1 Try.underlying74 (by kernel_rfl) rfl .i64 .i64 len (by omega) (by omega)
    have hmt := make_tasks04 len (by omega)
    go_enter Try.func9, Try.ntmps9
    go_wp2_with fail
    refine (HA.out _).mono ?_
    rintro e w0 ⟨rfl, hb0⟩
    go_wp2_with fail
    refine (cell_new 30 _).mono ?_
    rintro e w1 ⟨rfl, hm, hb1, -⟩
    rw [show (⟨List.replicate (capn 30).toNat 0, 0⟩ : MemS) = RM 0 (List.replicate 16 0) 0 from rfl] at hm
    have hB0 := hb0.size
    have hb := below_then hb0 hb1 (Nat.le_refl _)
    generalize hx1 : w0.heap.size + 1 = m at *
    generalize hc : w0.heap.size = c at *
    have hbm : ∀ b ∈ [m, c], w.heap.size ≤ b := by simp; omega
    clear hx1 hc hb0 hb1
    have hB1 := hb.size
    go_upto_region 8 with fail
    have hBd := ((Blk.new w1 72 (nums .i64 (0 :: List.replicate 16 0))).alloc (.cells (tarr (List.replicate len q0)) 77)).alloc (.cells (madeCells #[.bool false] len) 4)
    have hT := (Blk.new (w1.alloc (.cells (nums .i64 (0 :: List.replicate 16 0)) 72)) 77 (tarr (List.replicate len q0))).alloc (.cells (madeCells #[.bool false] len) 4)
    have hP := Blk.new ((w1.alloc (.cells (nums .i64 (0 :: List.replicate 16 0)) 72)).alloc (.cells (tarr (List.replicate len q0)) 77)) 4 (madeCells #[.bool false] len)
    simp only [World.size_alloc] at hT hP
    have hm2 := ((hm.alloc (.cells (nums .i64 (0 :: List.replicate 16 0)) 72)).alloc (.cells (tarr (List.replicate len q0)) 77)).alloc (.cells (madeCells #[.bool false] len) 4)
    have hb2 : Below w.heap.size w (((w1.alloc (.cells (nums .i64 (0 :: List.replicate 16 0)) 72)).alloc (.cells (tarr (List.replicate len q0)) 77)).alloc (.cells (madeCells #[.bool false] len) 4)) :=
      ((hb.alloc hB1 _).alloc (by simp; omega) _).alloc (by simp; omega) _
    have hmlt := hm.1.lt
    have hclt := hm.2.1.lt
    rw [show (#[.int .i64 0, .int .i64 0, .int .i64 0, .int .i64 0, .int .i64 0, .int .i64 0, .int .i64 0, .int .i64 0, .int .i64 0, .int .i64 0, .int .i64 0, .int .i64 0, .int .i64 0, .int .i64 0, .int .i64 0, .int .i64 0, .int .i64 0] : Array Value) = nums .i64 (0 :: List.replicate 16 0) from rfl]
    generalize (((w1.alloc (.cells (nums .i64 (0 :: List.replicate 16 0)) 72)).alloc (.cells (tarr (List.replicate len q0)) 77)).alloc (.cells (madeCells #[.bool false] len) 4)) = w2 at *
    have hpb := hP.lt
    have htb := hT.lt
    have hbb := hBd.lt
    have hU : CThs w.heap.size w2 m c (w1.heap.size + 1 + 1) (blockOf' none ++ [w1.heap.size + 1, w1.heap.size]) len [] [] 0 (List.replicate 16 0) := by
      refine ⟨0, GThs.begin_ (Ths.none hm2 hP ?_ ?_ ?_) (by rw [size_madeCells]), by simp⟩
      · simp; omega
      · intro x hx
        simp [blockOf'] at hx
        rcases hx with e | e <;> subst e <;> refine ⟨by omega, ?_⟩ <;> simp <;> omega
      · intro x hx
        simp only [List.mem_cons] at hx
        rcases hx with e | hx
        · omega
        · exact hbm x (by simpa using hx)
    generalize h2 : w1.heap.size + 1 + 1 = pb at *
    generalize h1 : w1.heap.size + 1 = tb at *
    generalize w1.heap.size = bb at *
    have hge : ∀ x ∈ [pb, tb, bb], w.heap.size ≤ x := by simp; omega
    have hlt3 : bb < tb ∧ tb < pb := by omega
    obtain ⟨S, hS⟩ : ∃ S, S = w2.heap.size := ⟨_, rfl⟩
    rw [← hS] at hpb htb hbb
    have hSw := hb2.size
    rw [← hS] at hSw
    have HS := Lib.hid hS
    clear h1 h2 hm hb hm2 hmlt hclt hS
    go_wp2_with fail
    go_loopw [7, 10] (fun v i wr => ∃ (k : Nat) (A : Option Addr) (cap' : Nat) (ts : List Nat) (qs : List (CallV × TS)), k ≤ len ∧ i = .int .i64 k ∧ v = .slice A k cap' ∧ wr.ownsRow S 30 1 (.slice A k cap') k (ts.map ptrOf) ∧ ts.length = k ∧ qs = (zs.take k).map qOf ∧
      CThs w.heap.size wr m c pb (blockOf' A ++ [tb, bb]) len ts (qs.map (·.2)) 0 (List.replicate 16 0) ∧ Blk wr tb 77 (tarr (qs ++ List.replicate (len - k) q0)) ∧ Blk wr bb 72 (nums .i64 (0 :: List.replicate 16 0)) ∧ Blk wr pb 4 (madeCells #[.bool false] len) ∧ S ≤ wr.heap.size ∧ Below w.heap.size w wr) (fun _ i _ => len - (intOf i).toNat)
    case atStart => exact ⟨0, none, 0, [], [], Nat.zero_le _, rfl, rfl, World.ownsRow_nil _ _ _ _, rfl, rfl, hU, hT, hBd, hP, Nat.le_of_eq HS.out, hb2⟩
    case round =>
      clear hU hT hBd hP hb2 hmk hmt
      obtain ⟨k, A, cap', ts, qs, hk, rfl, rfl, hown, hl, hqs, hU, hT, hBd, hP, hSr, hw⟩ := hrel
      by_cases hlt : k < len
      · have HQ := Lib.hid hqs
        clear hqs
        obtain ⟨cnt, hG, -⟩ := hU
        have hmm := hG.mem
        go_wp2_with fail
        refine (t_new m c _ _ hmm).mono ?_
        rintro e w3 ⟨rfl, htm, hb3⟩
        obtain ⟨ab, ao, cv, rfl, hab, hcv, hcok, hac⟩ := (ha.below hw (Nat.le_refl _)).at_ hlt
        obtain ⟨hqok, hkd, hrd⟩ := qOf_ok cv hcok
        have hzl := ha.hl
        have hG3 := hG.push (qOf cv).2 (fun i cs hi2 _ hcs => by rw [(hcs.inj hP).2]; exact made_false len i hi2) hb3 htm (Nat.le_refl _) (by omega) hw.size (ts_start _ rfl rfl hqok.kind) (by rw [ts_start _ rfl rfl hqok.kind, ← ts_start _ rfl rfl hqok.kind, ts_ret _ hqok]; rfl) ⟨hqok, by simp [TrS.new]⟩
        have hU3 : CThs w.heap.size w3 m c pb (blockOf' A ++ [tb, bb]) len (ts ++ [wr.heap.size]) (qs.map (·.2) ++ [(qOf cv).2]) 0 (List.replicate 16 0) := ⟨cnt, hG3, by simp⟩
        have hown3 : w3.ownsRow S 30 1 (.slice A k cap') k (ts.map ptrOf) := ownsRow_upd hown (Upd.of_below hb3 (F := [])) (by simp)
        have hw3 := below_then hw hb3 (Nat.le_refl _)
        have hB3 := hw3.size
        have hS3 := Nat.le_trans hSr hb3.size
        have hT3 := hT.below hb3 hT.lt
        have hBd3 := hBd.below hb3 hBd.lt
        have hP3 := hP.below hb3 hP.lt
        clear hU3 hmm htm hb3 hG hown hw hT hBd hP hSr hac
        generalize wr.heap.size = t at *
        have HU := Lib.hid hG3
        clear hG3
        go_wp2_with (at_builtin; refine wpList_append_own_at (P := Try.prog) _ rfl (.tmp 45) (.tmp 48) 52 rfl S 30 i0 (.pointer none) 1 8 under_trails hi hz0 hz1 hz2 rfl (by decide) _ _ _ rfl (hown3.alloc _) ⟨w3.heap.size, 0, none⟩ 1 1 [ptrOf t] rfl rfl ?c1 ?c2 ?c3 ?c4 ?c5 ?_)
        case c1 => exact cell_one_new _ _ _
        case c2 => intro u hu; simp at hu; subst hu; rfl
        case c3 => unfold maxLen; omega
        case c4 => omega
        case c5 => simp; omega
        intro v' w4 hown' hgrow _ hat'
        obtain ⟨g, cap2, rfl⟩ := own_some hown'
        have hU4 := HU.out.grew hgrow (by simpa using hat') hown' rfl
        have hne : ∀ x, x < S → some x ≠ (Value.slice A k cap').ownBlock := by
          intro x hx e
          have := (hown3.lt _ e.symm).1
          omega
        have hT4 := (hT3.alloc (.cells #[ptrOf t] 30)).grown hgrow (hne _ htb)
        have hBd4 := (hBd3.alloc (.cells #[ptrOf t] 30)).grown hgrow (hne _ hbb)
        have hP4 := (hP3.alloc (.cells #[ptrOf t] 30)).grown hgrow (hne _ hpb)
        have hw4 : Below w.heap.size w w4 := (hw3.alloc hB3 _).grown hgrow (by simp; omega) (fun g hg => by have := (hown3.lt _ hg).1; omega)
        have hS4 : S ≤ w4.heap.size := by have := hgrow.size; simp at this; omega
        rw [show ts.map ptrOf ++ [ptrOf t] = (ts ++ [t]).map ptrOf by simp] at hown'
        clear HU hgrow hat' hown3 hw3 hT3 hBd3 hP3 hne
        obtain ⟨ab', ao', cv', hae, hab', hcv', -, hac'⟩ := (ha.below hw4 (Nat.le_refl _)).at_ hlt
        obtain ⟨rfl, rfl⟩ : ab' = ab ∧ ao' = ao := by simpa using hae.symm
        obtain rfl : cv' = cv := by rw [hcv] at hcv'; exact (Option.some.inj hcv').symm
        have d0 := hac' 0 _ rfl
        have d1 := hac' 1 _ rfl
        simp only [Nat.add_zero] at d0
        go_upto_region 12 with fail
        have hki : (k : Int) < len := by omega
        have hki0 : (0 : Int) ≤ k := by omega
        go_still_tail 16, (by kernel_rfl)
        change wpList _ _ _ _ _ w4.drew
        clear d0 d1
        have hql : qs.length = k := by rw [HQ.out]; simp; omega
        have hqg : (qs ++ List.replicate (len - k) q0)[k]? = some q0 := by
          rw [List.getElem?_append_right (by omega), List.getElem?_replicate, if_pos (by omega)]
        have e0 := hT4.drew.at_ ((tarr_get hqg (j := 0) (by omega)).trans rfl)
        have e1 := hT4.drew.at_ ((tarr_get hqg (j := 1) (by omega)).trans rfl)
        have e2 := hT4.drew.at_ ((tarr_get hqg (j := 2) (by omega)).trans rfl)
        have e3 := hT4.drew.at_ ((tarr_get hqg (j := 3) (by omega)).trans rfl)
        have e4 := hT4.drew.at_ ((tarr_get hqg (j := 4) (by omega)).trans rfl)
        have e5 := hT4.drew.at_ ((tarr_get hqg (j := 5) (by omega)).trans rfl)
        simp only [Nat.add_zero] at e0
        have x0 := hT4.drew.free (k * 6)
        have x1 := hT4.drew.free (k * 6 + 1)
        have x2 := hT4.drew.free (k * 6 + 2)
        have x3 := hT4.drew.free (k * 6 + 3)
        have x4 := hT4.drew.free (k * 6 + 4)
        have x5 := hT4.drew.free (k * 6 + 5)
        have HU := Lib.hid (hU4.upd (Upd.drew (Upd.refl [] w4)) (by simp))
        have HWX := Lib.hid (wrap_small ((qOf cv').2.x : Int) (by omega) (by have := hqok.x; omega))
        have HTd := Lib.hid hT4.drew
        have HBd := Lib.hid hBd4.drew
        have HPd := Lib.hid hP4.drew
        have HW := Lib.hid (show Below w.heap.size w w4.drew from ⟨hw4.os, hw4.tape, hw4.output, hw4.size, hw4.block⟩)
        have HO := Lib.hid (show w4.drew.ownsRow S 30 1 (.slice (some ⟨g, 0, none⟩) (k + 1) cap2) (k + 1) ((ts ++ [t]).map ptrOf) from hown')
        have HS4 := Lib.hid (show S ≤ w4.drew.heap.size from hS4)
        have hgs : S ≤ g := (hown'.lt _ rfl).1
        have HQL := Lib.hid hql
        clear hU4 hT4 hBd4 hP4 hw4 hown' hac' hqg hql
        generalize w4.drew = w5 at *
        clear hS4
        go_wp2_with fail
        rw [HWX.out]
        go_roundw
        case rel =>
          have hu6 := upd_set6 w5 tb (k * 6) (.int .u8 cv'.kind) (.int .i64 (qOf cv').2.x) (.int .i64 0) (.int .i64 0) (.bool false) (.bool false)
          have hb6 := blk_set6 (off := k * 6) HTd.out (.int .u8 cv'.kind) (.int .i64 (qOf cv').2.x) (.int .i64 0) (.int .i64 0) (.bool false) (.bool false)
          rw [tarr_first HQL.out hlt] at hb6
          refine ⟨k + 1, some ⟨g, 0, none⟩, cap2, ts ++ [t], qs ++ [qOf cv'], by omega, by go_num, rfl, ownsRow_upd HO.out hu6 (by simp [blockOf]; omega), by simp [hl], ?_, ⟨cnt, ?_, by simp⟩, hb6, HBd.out.upd hu6 (by simp; omega), HPd.out.upd hu6 (by simp; omega), ?_, HW.out.trans (hu6.below (Nat.le_trans ?_ HW.out.size) ?_)⟩
          · rw [List.take_add_one, List.map_append, ← HQ.out, hcv]
            rfl
          · rw [List.map_append]
            exact HU.out.upd hu6 (by simp)
          · exact Nat.le_trans HS4.out hu6.size
          · exact Nat.le_refl _
          · intro x hx
            exact hge x (by simp at hx; simp [hx])
        case measure => simp [intOf]; omega
      · obtain rfl : k = len := by omega
        obtain ⟨hrow', -⟩ := Rows'.ofOwn hown
        obtain ⟨g, hA, hrow⟩ : ∃ g, A = some ⟨g, 0, none⟩ ∧ Row wr 30 1 g k cap' (ts.map ptrOf) := by
          rcases hrow' with ⟨_, h, _⟩ | ⟨g, cap', h, hr⟩
          · omega
          · injection h with h1 h2 h3
            subst h3
            exact ⟨g, h1, hr⟩
        subst hA
        rw [Nat.sub_self, List.replicate_zero, List.append_nil] at hT
        rw [List.take_of_length_le (by have := ha.hl; omega)] at hqs
        have hgb : g ≠ tb ∧ g ≠ bb := by have := (hown.lt g rfl).1; omega
        have hqk : qs.length = k := by
          obtain ⟨_, hG, -⟩ := hU
          have := hG.len
          simpa [hl] using this.symm
        have hci : CInv zs qs := by
          subst hqs
          refine ⟨by rw [List.map_map]; exact List.map_id _, fun q hq => ?_⟩
          simp only [List.mem_map] at hq
          obtain ⟨c, -, rfl⟩ := hq
          rfl
        clear hrow' hown hlt hSr hqs hP
        have HAR := Lib.hid ha
        have HTR := Lib.hid ht
        clear ha ht
        go_wp2_with fail
        go_loopw [11] (fun i wr => ∃ (q : Nat) (qs : List (CallV × TS)) (ee : Int) (bd : List Int), q ≤ tlen ∧ i = .int .i64 q ∧ Row wr 30 1 g k cap' (ts.map ptrOf) ∧ CThs w.heap.size wr m c pb [g, tb, bb] k ts (qs.map (·.2)) ee bd ∧ CInv zs qs ∧ qs.length = k ∧
          Blk wr tb 77 (tarr qs) ∧ Blk wr bb 72 (nums .i64 (ee :: bd)) ∧ bd.length = 16 ∧ Below w.heap.size w wr) (fun i _ => tlen - (intOf i).toNat)
        case atStart => exact ⟨0, qs, 0, _, Nat.zero_le _, rfl, hrow, hU, hci, hqk, hT, hBd, by simp, hw⟩
        case round =>
          clear hrow hU hw hci hT hBd
          obtain ⟨q, qs, ee, bd, hq, rfl, hrow, hU, hci, hql, hT, hBd, hbd, hw⟩ := hrel
          by_cases hlt : q < tlen
          · obtain ⟨zb, zo, rfl, -, hzc⟩ := (HTR.out.below hw (Nat.le_refl _)).at_ hlt
            obtain ⟨zn, hzn, hz255⟩ : ∃ zn : Nat, tz.getD q 0 = zn ∧ zn ≤ 255 := by
              have hl := HTR.out.hl
              have := bounds_u8 (HTR.out.wf (tz.getD q 0) (by rw [List.getD_eq_getElem?_getD, List.getElem?_eq_getElem (by omega)]; simp))
              exact ⟨(tz.getD q 0).toNat, by omega, by omega⟩
            rw [hzn] at hzc
            obtain ⟨p, hp⟩ : ∃ p, zn % k = p := ⟨_, rfl⟩
            have hpk : p < k := by rw [← hp]; exact Nat.mod_lt _ (by omega)
            have HIX := Lib.hid (show (wrap64 (zn : Int)).tmod (k : Int) = (p : Nat) by rw [wrap_small _ (by omega) (by omega), Int.tmod_eq_emod_of_nonneg (by omega), ← hp]; rfl)
            clear hzn hp hz255
            obtain ⟨ab, ao, cv, hae, hab, hcv, hcok, hac⟩ := (HAR.out.below hw (Nat.le_refl _)).at_ hpk
            have htl : ts.length = k := by
              obtain ⟨_, hG, -⟩ := hU
              have := hG.len
              simpa [hql] using this
            obtain ⟨t, ht⟩ : ∃ t, ts[p]? = some t := ⟨_, List.getElem?_eq_getElem (by omega)⟩
            obtain ⟨⟨uc, u⟩, hu⟩ : ∃ u, qs[p]? = some u := ⟨_, List.getElem?_eq_getElem (by omega)⟩
            have hu1 : uc = cv := by
              have e : (qs.map (·.1))[p]? = zs[p]? := by rw [hci.1]
              rw [List.getElem?_map, hu, hcv] at e
              exact Option.some.inj e
            subst hu1
            have hkd : uc.kind.tmod 3 = (u.kind : Int) := by
              rw [hci.2 _ (List.mem_of_getElem? hu)]
              exact (qOf_ok uc hcok).2.1
            have huc : (qs.map (·.2))[p]? = some u := by rw [List.getElem?_map, hu]; rfl
            have hcell := hrow.cell (j := p) (u := ptrOf t) (by rw [List.getElem?_map, ht]; rfl)
            have d0 := hac 0 _ rfl
            simp only [Nat.add_zero] at d0
            have hx1 := hT.at_ ((tarr_get hu (j := 1) (by omega)).trans rfl)
            have hne : (k : Int) ≠ 0 := by omega
            have hpi : (p : Int) < k := by omega
            have hpi0 : (0 : Int) ≤ p := by omega
            subst hae
            have HT := Lib.hid hT
            have HB := Lib.hid hBd
            clear hT hBd hac
            go_upto_region 17 with fail
            rw [HIX.out]
            clear hzc
            go_still_tail 20, (by kernel_rfl)
            change wpList _ _ _ _ _ wr.drew
            have hU1 := hU.upd (Upd.drew (Upd.refl [] wr)) (by simp)
            have hw1 : Below w.heap.size w wr.drew := ⟨hw.os, hw.tape, hw.output, hw.size, hw.block⟩
            have hrow1 := hrow.drew
            have hT1 := HT.out.drew
            have hB1 := HB.out.drew
            clear hcell d0 hx1 hrow hU hw HT HB
            generalize wr.drew = w5 at *
            have HT := Lib.hid hT1
            have HB := Lib.hid hB1
            clear hT1 hB1
            go_wp2_with fail
            have huok := (hU1.went huc).2
            refine (hU1.step ht huc hw1.size q uc.kind hkd).mono ?_
            rintro e w6 ⟨rfl, hU6, hO6, hb6⟩
            have hw6 := hw1.trans hb6
            have hrow6 : Row w6 30 1 g k cap' (ts.map ptrOf) := hrow1.elim fun cur h => ⟨cur, (hO6 g (by simp)).trans h.1, h.2⟩
            have hT6 : Blk w6 tb 77 (tarr qs) := (hO6 tb (by simp)).trans HT.out
            have hB6 : Blk w6 bb 72 (nums .i64 (ee :: bd)) := (hO6 bb (by simp)).trans HB.out
            have h0 : (tarr qs)[p * 6]? = some (.int .u8 uc.kind) := tarr_get hu (j := 0) (by omega)
            have h1 : (tarr qs)[p * 6 + 1]? = some (.int .i64 u.x) := tarr_get hu (j := 1) (by omega)
            have h2 : (tarr qs)[p * 6 + 2]? = some (.int .i64 u.at_) := tarr_get hu (j := 2) (by omega)
            have h3 : (tarr qs)[p * 6 + 3]? = some (.int .i64 u.saw) := tarr_get hu (j := 3) (by omega)
            have h4 : (tarr qs)[p * 6 + 4]? = some (.bool u.over) := tarr_get hu (j := 4) (by omega)
            have h5 : (tarr qs)[p * 6 + 5]? = some (.bool u.went) := tarr_get hu (j := 5) (by omega)
            have HS6 := Lib.hid (ref04_step tb (p * 6) bb (tarr qs) uc.kind u ee bd w6 hT6 h0 h1 h2 h3 h4 h5 hB6 hbd huok hkd)
            clear h0 h1 h2 h3 h4 h5 hU1 hw1 hrow1 HT HB hb6 hO6
            have HU6 := Lib.hid hU6
            have HT6 := Lib.hid hT6
            have HB6 := Lib.hid hB6
            clear hU6 hT6 hB6
            go_wp2_with fail
            refine HS6.out.mono ?_
            rintro e w7 ⟨rfl, hT7, hB7, hu7⟩
            go_upto_region 19 with fail
            have hsame := ts_same u ee bd
            generalize u.step ee bd = st at *
            obtain ⟨u2, e2, b2⟩ := st
            simp only at hT7 hB7 hsame ⊢
            have hqi : p < qs.length := by omega
            rw [tarr_step hu u2 hsame.2] at hT7
            have hU7 := HU6.out.upd hu7 (by simp)
            simp only at hU7
            rw [show (qs.map (·.2)).set p u2 = (qs.set p (uc, u2)).map (·.2) by rw [List.map_set]] at hU7
            have hw7 := hw6.trans (hu7.below hw6.size (by intro x hx; simp at hx; rcases hx with rfl | rfl <;> exact hge _ (by simp)))
            have hrow7 := hrow6.upd hu7 (by simp; exact hgb)
            have hci7 : CInv zs (qs.set p (uc, u2)) := by
              refine ⟨?_, fun y hy => ?_⟩
              · rw [List.map_set]
                refine (set_same_list _ _ _ ?_).trans hci.1
                rw [List.getElem?_map, hu]
                rfl
              · rcases List.mem_or_eq_of_mem_set hy with hy | rfl
                · exact hci.2 y hy
                · exact hsame.1.trans (hci.2 _ (List.mem_of_getElem? hu))
            have hu2 : (qs.set p (uc, u2))[p]? = some (uc, u2) := List.getElem?_set_self hqi
            have hp4 := hT7.at_ ((tarr_get hu2 (j := 4) (by omega)).trans rfl)
            have hp5 := hT7.at_ ((tarr_get hu2 (j := 5) (by omega)).trans rfl)
            obtain ⟨hwc, huk⟩ := hU7.went (u := u2) (i := p) (by rw [List.getElem?_map, hu2]; rfl)
            obtain ⟨cnt, hG7, hbd2⟩ := hU7
            have hm7 := hG7.mem
            have hrg : w7.rangeAt bb 0 (nums .i64 (e2 :: b2)).toList := by
              have h := World.rangeAt_of_block hB7 0 17
              rwa [show (nums .i64 (e2 :: b2)).extract 0 (0 + 17) = nums .i64 (e2 :: b2) by apply Array.ext'; simp [nums, hbd2]; exact List.take_of_length_le (by simp [hbd2])] at h
            have HNB := Lib.hid (fun x => neq_board e2 b2 hbd2 x)
            have hsz : (nums .i64 (e2 :: b2)).size = 17 := by rw [nums_size]; simp [hbd2]
            have HI := Lib.hid (show (Try.prog.info? 72).map (·.size) = some (nums .i64 (e2 :: b2)).size by rw [hsz]; kernel_rfl)
            clear hsz
            have L1 : ∀ x : Later w7, (Instr.loadAt 72 (.pointer (some ⟨bb, 0, none⟩))).run Try.prog x.1 = .ok (.agg (nums .i64 (e2 :: b2))) x.1 := fun x => by
              have h := run_loadAt_mid (P := Try.prog) x.1 bb 0 72 (nums .i64 (e2 :: b2)).toList _ (fun j v hj => Later.cell (hrg j v hj) x) Try.underlying72 rfl (by rw [HI.out]; simp)
              rwa [Array.toArray_toList] at h
            have hnb := HNB.out
            have M4 := fun x : Later w7 => Later.cell hp4 x
            have M5 := fun x : Later w7 => Later.cell hp5 x
            have MW := fun x : Later w7 => Later.cell hwc x
            clear hrg
            cases hov : u2.over with
            | false =>
              rw [hov] at M4
              clear hov
              refine wp_region_later (by kernel_rfl) (by kernel_rfl) ?_
              repeat (go_big_quiet_step ((go_at_call 38; exact Calls.later (rcu_board m c e2 cnt b2 hbd2 _ (hm7.upd (Later.upd' _) (by simp) (by simp))))))
              go_big_quiet_want
              refine ⟨_, quiet_load rfl rfl L1, ?_⟩
              go_simp
              go_big_quiet_on
              repeat (go_big_quiet_step ((go_at_call 38; exact Calls.later (rcu_board m c e2 cnt b2 hbd2 _ (hm7.upd (Later.upd' _) (by simp) (by simp))))))
              refine wpQuiet_nil ?_
              intro _ hw'
              obtain ⟨⟨w8, hv⟩, hw''⟩ := hw'
              subst hw''
              have hB8 := hB7.upd hv (by simp)
              have hT8 := hT7.upd hv (by simp)
              have hrow8 := hrow7.upd hv (by simp)
              have hw8 := hw7.trans (hv.below hw7.size (by simp))
              have hG8 := hG7.upd hv (by simp)
              have HBB := Lib.hid hbd2
              clear hB7 hT7 hrow7 hw7 hG7 hm7 hv hbd2 HU6 HT6 HB6 L1 M4 M5 MW hnb hwc hp4 hp5
              go_wp2
              go_roundw
              case rel => exact ⟨q + 1, qs.set p (uc, u2), e2, b2, by omega, by go_num, hrow8, ⟨cnt, hG8, HBB.out⟩, hci7, by simp [hql], hT8, hB8, HBB.out, hw8⟩
              case measure => simp [intOf]; omega
            | true =>
              rw [hov] at M4
              clear hov
              cases hwt : u2.went with
              | false =>
                rw [hwt] at M5 MW
                clear hwt
                refine wp_region_later (by kernel_rfl) (by kernel_rfl) ?_
                repeat (go_big_quiet_step ((go_at_call 38; exact Calls.later (rcu_board m c e2 cnt b2 hbd2 _ (hm7.upd (Later.upd' _) (by simp) (by simp))))))
                go_big_quiet_want
                refine ⟨_, quiet_load rfl rfl L1, ?_⟩
                go_simp
                go_big_quiet_on
                repeat (go_big_quiet_step ((go_at_call 38; exact Calls.later (rcu_board m c e2 cnt b2 hbd2 _ (hm7.upd (Later.upd' _) (by simp) (by simp))))))
                refine wpQuiet_nil ?_
                intro _ hw'
                obtain ⟨⟨w8, hv⟩, hw''⟩ := hw'
                subst hw''
                have hB8 := hB7.upd hv (by simp)
                have hT8 := hT7.upd hv (by simp)
                have hrow8 := hrow7.upd hv (by simp)
                have hw8 := hw7.trans (hv.below hw7.size (by simp))
                have hG8 := hG7.upd hv (by simp)
                have HBB := Lib.hid hbd2
                clear hB7 hT7 hrow7 hw7 hG7 hm7 hv hbd2 HU6 HT6 HB6 L1 M4 M5 MW hnb hwc hp4 hp5
                go_wp2
                go_roundw
                case rel => exact ⟨q + 1, qs.set p (uc, u2), e2, b2, by omega, by go_num, hrow8, ⟨cnt, hG8, HBB.out⟩, hci7, by simp [hql], hT8, hB8, HBB.out, hw8⟩
                case measure => simp [intOf]; omega
              | true =>
                rw [hwt] at M5 MW
                clear hwt
                refine wp_region_later (by kernel_rfl) (by kernel_rfl) ?_
                repeat (go_big_quiet_step ((go_at_call 38; exact Calls.later (rcu_board m c e2 cnt b2 hbd2 _ (hm7.upd (Later.upd' _) (by simp) (by simp))))))
                go_big_quiet_want
                refine ⟨_, quiet_load rfl rfl L1, ?_⟩
                go_simp
                go_big_quiet_on
                repeat (go_big_quiet_step ((go_at_call 38; exact Calls.later (rcu_board m c e2 cnt b2 hbd2 _ (hm7.upd (Later.upd' _) (by simp) (by simp))))))
                refine wpQuiet_nil ?_
                intro _ hw'
                obtain ⟨⟨w8, hv⟩, hw''⟩ := hw'
                subst hw''
                have hB8 := hB7.upd hv (by simp)
                have hT8 := hT7.upd hv (by simp)
                have hrow8 := hrow7.upd hv (by simp)
                have hw8 := hw7.trans (hv.below hw7.size (by simp))
                have hG8 := hG7.upd hv (by simp)
                have HBB := Lib.hid hbd2
                clear hB7 hT7 hrow7 hw7 hG7 hm7 hv hbd2 HU6 HT6 HB6 L1 M4 M5 MW hnb hwc hp4 hp5
                go_wp2
                go_roundw
                case rel => exact ⟨q + 1, qs.set p (uc, u2), e2, b2, by omega, by go_num, hrow8, ⟨cnt, hG8, HBB.out⟩, hci7, by simp [hql], hT8, hB8, HBB.out, hw8⟩
                case measure => simp [intOf]; omega
          · obtain rfl : q = tlen := by omega
            go_wp2
            go_ret
            exact ⟨rfl, hw⟩
end Go.Proofs.Ytcphidmfdakbeaa
