/- samararef03's Thread: access, Over, Step, each called alone. -/
import Derived.Test.YtcphidmfdakbeaaThread
import Derived.Test.YtcphidmfdakbeaaRef01
import Derived.Test.YtcphidmfdakbeaaOwn
import Derived.Deep.RegionHeld3
import Derived.Deep.AppendLies
import Derived.Deep.CutBlock
namespace Go.Proofs.Ytcphidmfdakbeaa
open Go.RowKit
set_option linter.unusedSimpArgs false
set_option linter.unusedVariables false

set_option maxRecDepth 100000 in
theorem ref03_access (wb off : Nat) (o : OpV) (sum : Int) (w : World) (hc : w.cell? ⟨wb, off + 2, none⟩ = some (.int .i64 sum)) :
    Calls Try.prog 53 #[.pointer (some ⟨wb, off, none⟩), .agg #[.int .u8 o.kind, .int .i64 o.i, .int .i64 o.v, .int .i64 o.old, .bool o.use]] w fun e w' =>
      e = .returned (.agg #[.int .u8 o.kind, .int .i64 o.i, .int .i64 (o.val sum), .int .i64 o.old]) ∧ Below w.heap.size w w' := by
  have hlt := World.block_lt_of_cell? w _ hc
  simp only at hlt
  have hB : ∀ a b : Obj, Below w.heap.size w ((w.alloc a).alloc b) := fun a b => ((Below.refl _ _).alloc (Nat.le_refl _) _).alloc (by simp) _
  cases hu : o.use with
  | true =>
    have HV := Lib.hid (show o.val sum = wrap64 (o.v + sum) by unfold OpV.val; rw [if_pos hu])
    clear hu
    go_enter Try.func53, Try.ntmps53
    go_wp2
    refine bodyPost_ret (v := .agg #[.int .u8 o.kind, .int .i64 o.i, .int .i64 (wrap64 (IntKind.u64.wrap (IntKind.u64.wrap o.v + IntKind.u64.wrap sum))), .int .i64 o.old]) (by simp [results, Try.results53, go_sem]) rfl ⟨?_, hB _ _⟩
    rw [HV.out, u64_sum]
  | false =>
    have HV := Lib.hid (show o.val sum = o.v by unfold OpV.val; rw [if_neg (by simp [hu])])
    clear hu
    go_enter Try.func53, Try.ntmps53
    go_wp2
    refine bodyPost_ret (v := .agg #[.int .u8 o.kind, .int .i64 o.i, .int .i64 o.v, .int .i64 o.old]) (by simp [results, Try.results53, go_sem]) rfl ⟨?_, hB _ _⟩
    rw [HV.out]

theorem left_nat (zs : List OpV) (k : Nat) : k + (zs.drop k).length = max k zs.length := by simp; omega

set_option maxRecDepth 100000 in
theorem ref03_over (wb off at_ : Nat) (a : Option Addr) (len cap : Nat) (zs : List OpV) (w : World) (hc : w.cell? ⟨wb, off, none⟩ = some (.int .i64 at_)) (ha : ArgOf OpV.cells 5 OpV.Ok w a len cap zs) (hat : at_ ≤ len) :
    Calls Try.prog 31 #[.pointer (some ⟨wb, off, none⟩), .slice a len cap] w fun e w' => e = .returned (.bool (skip (zs.drop at_)).isEmpty) ∧ w = w' := by
  have hcm := ha.hm
  have hcl := ha.le
  have hzl := ha.hl
  unfold maxLen at hcm
  have HA := Lib.hid ha
  clear ha
  go_enter Try.func31, Try.ntmps31
  go_wp2_with fail
  go_loop [5] (fun v => ∃ k : Nat, k ≤ len ∧ v = .int .i64 k ∧ skip (zs.drop at_) = skip (zs.drop k)) (fun v => len - (intOf v).toNat)
  case atStart => exact ⟨at_, hat, rfl, rfl⟩
  case round =>
    obtain ⟨k, hk, rfl, hsk⟩ := hrel
    have HS := Lib.hid hsk
    clear hsk
    by_cases hlt : k < len
    · obtain ⟨ab, ao, o, rfl, -, hzo, hok, hac⟩ := HA.out.at_ hlt
      have d0 := hac 0 _ rfl
      simp only [Nat.add_zero] at d0
      have hki : (k : Int) < len := by omega
      have HD := Lib.hid (show zs.drop k = o :: zs.drop (k + 1) by rw [List.drop_eq_getElem_cons (by omega)]; rw [List.getElem?_eq_getElem (by omega)] at hzo; injection hzo with hzo; rw [hzo])
      clear hac hzo hok
      cases hm : o.isMark with
      | true =>
        have hk5 : o.k = 5 := by simpa [OpV.isMark] using hm
        have g5 : (o.kind.tmod 6 != 5) = false := by rw [bne, show (o.kind.tmod 6 == 5) = true from beq_iff_eq.2 hk5]; rfl
        have HR := Lib.hid (show skip (zs.drop at_) = skip (zs.drop (k + 1)) by rw [HS.out, HD.out]; simp only [skip, hm, cond_true])
        clear hk5 hm
        go_wp2
        go_round
        case rel => exact ⟨k + 1, by omega, by go_num, HR.out⟩
        case measure => simp [intOf]; omega
      | false =>
        have hk5 : o.k ≠ 5 := by intro e; simp [OpV.isMark, e] at hm
        have g5 : (o.kind.tmod 6 != 5) = true := by rw [bne, show (o.kind.tmod 6 == 5) = false from beq_eq_false_iff_ne.2 hk5]; rfl
        have HR := Lib.hid (show (skip (zs.drop at_)).isEmpty = false by rw [HS.out, HD.out]; simp only [skip, hm, cond_false]; rfl)
        clear hk5 hm
        go_wp2
        go_ret
        exact ⟨by rw [HR.out]; rfl, rfl⟩
    · obtain rfl : k = len := by omega
      have HR := Lib.hid (show (skip (zs.drop at_)).isEmpty = true by rw [HS.out, List.drop_of_length_le (by omega)]; rfl)
      go_wp2
      go_ret
      exact ⟨by rw [HR.out]; rfl, rfl⟩
/-! ### Step -/
structure R3 where
  at_ : Nat
  told : Nat
  sum : Int
  marks : List (Int × Int)
/-- What a step does: the next access, and the marks right behind it. -/
def R3.step (l : List OpV) (time : Int) (u : R3) (μ : MemS) : R3 × MemS :=
  match skip (l.drop u.at_) with
  | [] => (⟨l.length, u.told, u.sum, u.marks⟩, μ)
  | o :: rest =>
    if (o.acc u.sum μ).2.1 = true then (⟨l.length - (skip rest).length, u.told + 1, wrap64 (u.sum + o.got (o.acc u.sum μ).1), u.marks ++ (kindsOf rest).map fun k => (k, time)⟩, (o.acc u.sum μ).2.2)
    else (⟨l.length - (rest.length + 1), u.told, u.sum, u.marks⟩, (o.acc u.sum μ).2.2)

def put4 (cs : Array Value) (off : Nat) (a b c d : Value) : Array Value := (((cs.setIfInBounds off a).setIfInBounds (off + 1) b).setIfInBounds (off + 2) c).setIfInBounds (off + 3) d
section
variable (cs : Array Value) (off : Nat) (a b c d x : Value)
theorem put4_size : (put4 cs off a b c d).size = cs.size := by simp [put4]
theorem put4_get (j : Nat) : (put4 cs off a b c d)[j]? = if j < cs.size then (if j = off + 3 then some d else if j = off + 2 then some c else if j = off + 1 then some b else if j = off then some a else cs[j]?) else none := by
  simp only [put4, Array.getElem?_setIfInBounds, Array.size_setIfInBounds]
  by_cases h : j < cs.size
  · rw [if_pos h]
    repeat' split
    all_goals first | rfl | omega
  · rw [if_neg h]
    repeat' split
    all_goals first | rfl | omega | (rw [Array.getElem?_eq_none (by omega)])
theorem put4_0 : (put4 cs off a b c d).setIfInBounds off x = put4 cs off x b c d := by
  apply Array.ext_getElem?
  intro j
  rw [Array.getElem?_setIfInBounds, put4_get, put4_get, put4_size]
  repeat' split
  all_goals first | rfl | omega
theorem put4_1 : (put4 cs off a b c d).setIfInBounds (off + 1) x = put4 cs off a x c d := by
  apply Array.ext_getElem?
  intro j
  rw [Array.getElem?_setIfInBounds, put4_get, put4_get, put4_size]
  repeat' split
  all_goals first | rfl | omega
theorem put4_2 : (put4 cs off a b c d).setIfInBounds (off + 2) x = put4 cs off a b x d := by
  apply Array.ext_getElem?
  intro j
  rw [Array.getElem?_setIfInBounds, put4_get, put4_get, put4_size]
  repeat' split
  all_goals first | rfl | omega
theorem put4_3 : (put4 cs off a b c d).setIfInBounds (off + 3) x = put4 cs off a b c x := by
  apply Array.ext_getElem?
  intro j
  rw [Array.getElem?_setIfInBounds, put4_get, put4_get, put4_size]
  repeat' split
  all_goals first | rfl | omega
end

/-- A thread of the chapter's, at the offset off of the block wb, in the midst of a step that began in w0; the memory in r and g. -/
structure R3W (w0 : World) (A0 : Option Addr) (w : World) (wb off : Nat) (cs : Array Value) (r g : Nat) (u : R3) (A : Option Addr) (cap : Nat) (μ : MemS) : Prop where
  sz : off + 3 < cs.size
  blk : Blk w wb 57 (put4 cs off (.int .i64 u.at_) (.int .i64 u.told) (.int .i64 u.sum) (.slice A u.marks.length cap))
  own : w.ownsRow 0 118 2 (.slice A u.marks.length cap) u.marks.length (markCells u.marks)
  ref : RefAt w r g μ
  gl : g < w0.heap.size
  gwb : wb ≠ g
  rwb : wb ≠ r
  rA : r ∉ blockOf A ∧ g ∉ blockOf A
  sub : ∀ x ∈ blockOf A, x ∈ blockOf A0 ∨ w0.heap.size ≤ x
  upd : Upd (wb :: r :: g :: blockOf A0) w0 w
section
variable {w0 w w' : World} {A0 A : Option Addr} {wb off r g cap : Nat} {cs : Array Value} {u : R3} {μ μ' : MemS}
theorem R3W.wA (h : R3W w0 A0 w wb off cs r g u A cap μ) : wb ∉ blockOf A := blk_notin h.own h.blk (by decide)
theorem R3W.alloc (h : R3W w0 A0 w wb off cs r g u A cap μ) (o : Obj) : R3W w0 A0 (w.alloc o) wb off cs r g u A cap μ :=
  ⟨h.sz, h.blk.alloc o, h.own.alloc o, h.ref.alloc o, h.gl, h.gwb, h.rwb, h.rA, h.sub, h.upd.alloc o⟩
theorem R3W.drew (h : R3W w0 A0 w wb off cs r g u A cap μ) : R3W w0 A0 w.drew wb off cs r g u A cap μ :=
  ⟨h.sz, h.blk.drew, h.own, h.ref.drewN 1, h.gl, h.gwb, h.rwb, h.rA, h.sub, h.upd.drew⟩
theorem R3W.below (h : R3W w0 A0 w wb off cs r g u A cap μ) (hb : Below w.heap.size w w') : R3W w0 A0 w' wb off cs r g u A cap μ := by
  have hu : Upd [] w w' := Upd.of_below hb
  exact ⟨h.sz, h.blk.upd hu (by simp), ownsRow_upd h.own hu (by simp), h.ref.upd hu (by simp) (by simp), h.gl, h.gwb, h.rwb, h.rA, h.sub, h.upd.trans (hu.mono (by simp))⟩
theorem R3W.put (h : R3W w0 A0 w wb off cs r g u A cap μ) (k : Nat) (v : Value) (u' : R3) (hm : u'.marks = u.marks)
    (hc : (put4 cs off (.int .i64 u.at_) (.int .i64 u.told) (.int .i64 u.sum) (.slice A u.marks.length cap)).setIfInBounds k v = put4 cs off (.int .i64 u'.at_) (.int .i64 u'.told) (.int .i64 u'.sum) (.slice A u'.marks.length cap)) :
    R3W w0 A0 (w.setCell ⟨wb, k, none⟩ v) wb off cs r g u' A cap μ := by
  have hu : Upd [wb] w (w.setCell ⟨wb, k, none⟩ v) := (Upd.refl _ _).put (.inl (by simp)) _
  refine ⟨h.sz, hc ▸ h.blk.put k v, ?_, h.ref.upd hu (by simp [h.rwb.symm]) (by simp [h.gwb.symm]), h.gl, h.gwb, h.rwb, h.rA, h.sub, h.upd.trans (hu.mono (by simp))⟩
  rw [hm]
  exact ownsRow_upd h.own hu (fun b hb => by simp; rintro rfl; exact h.wA hb)
theorem R3W.played (h : R3W w0 A0 w wb off cs r g u A cap μ) (hr : RefAt w' r g μ') (hu : Upd [r, g] w w') : R3W w0 A0 w' wb off cs r g u A cap μ' :=
  ⟨h.sz, h.blk.upd hu (by simp [h.gwb, h.rwb]), ownsRow_upd h.own hu (fun b hb => by simp; exact ⟨by rintro rfl; exact h.rA.1 hb, by rintro rfl; exact h.rA.2 hb⟩), hr, h.gl, h.gwb, h.rwb, h.rA, h.sub, h.upd.trans (hu.mono (by simp))⟩
theorem R3W.at0 (h : R3W w0 A0 w wb off cs r g u A cap μ) : w.cell? ⟨wb, off, none⟩ = some (.int .i64 u.at_) := h.blk.at_ (by rw [put4_get, if_pos (by have := h.sz; omega), if_neg (by omega), if_neg (by omega), if_neg (by omega), if_pos rfl])
theorem R3W.at1 (h : R3W w0 A0 w wb off cs r g u A cap μ) : w.cell? ⟨wb, off + 1, none⟩ = some (.int .i64 u.told) := h.blk.at_ (by rw [put4_get, if_pos (by have := h.sz; omega), if_neg (by omega), if_neg (by omega), if_pos rfl])
theorem R3W.at2 (h : R3W w0 A0 w wb off cs r g u A cap μ) : w.cell? ⟨wb, off + 2, none⟩ = some (.int .i64 u.sum) := h.blk.at_ (by rw [put4_get, if_pos (by have := h.sz; omega), if_neg (by omega), if_pos rfl])
theorem R3W.at3 (h : R3W w0 A0 w wb off cs r g u A cap μ) : w.cell? ⟨wb, off + 3, none⟩ = some (.slice A u.marks.length cap) := h.blk.at_ (by rw [put4_get, if_pos (by have := h.sz; omega), if_pos rfl])
theorem R3W.free (h : R3W w0 A0 w wb off cs r g u A cap μ) (k : Nat) : w.frozen? ⟨wb, k, none⟩ = false := h.blk.free k
theorem R3W.arg (h : R3W w0 A0 w wb off cs r g u A cap μ) {a : Option Addr} {len cap' : Nat} {zs : List OpV} (ha : ArgOf OpV.cells 5 OpV.Ok w0 a len cap' zs) (hfar : zs ≠ [] → ∀ b ∈ blockOf a, b ∉ wb :: r :: g :: blockOf A0) : ArgOf OpV.cells 5 OpV.Ok w a len cap' zs :=
  ha.upd h.upd hfar
end
theorem R3W.marked {w0 w w4 : World} {A0 A : Option Addr} {wb off r g cap g' cap' : Nat} {cs : Array Value} {u : R3} {μ : MemS} (h : R3W w0 A0 w wb off cs r g u A cap μ) (o : Obj) (v : Int × Int)
    (hown : w4.ownsRow 0 118 2 (.slice (some ⟨g', 0, none⟩) (u.marks.length + 1) cap') (u.marks.length + 1) (markCells u.marks ++ [.int .i64 v.1, .int .i64 v.2]))
    (hg : (w.alloc o).grownBy w4 (Value.slice A u.marks.length cap).ownBlock)
    (hat : (Value.slice (some ⟨g', 0, none⟩) (u.marks.length + 1) cap').ownBlock = (Value.slice A u.marks.length cap).ownBlock ∨ (Value.slice (some ⟨g', 0, none⟩) (u.marks.length + 1) cap').ownBlock = some (w.heap.size + 1)) :
    R3W w0 A0 (w4.setCell ⟨wb, off + 3, none⟩ (.slice (some ⟨g', 0, none⟩) (u.marks.length + 1) cap')) wb off cs r g ⟨u.at_, u.told, u.sum, u.marks ++ [v]⟩ (some ⟨g', 0, none⟩) cap' μ := by
  have hu1 : Upd (blockOf A) w w4 := ((Upd.refl _ _).alloc o).grown hg (fun b hb => by
    cases A with
    | none => simp [Value.ownBlock] at hb
    | some a => simp [Value.ownBlock] at hb; exact .inl (by simp [blockOf, hb]))
  have hgA : g' ∈ blockOf A ∨ g' = w.heap.size + 1 := by
    rcases hat with e | e
    · left
      cases A with
      | none => simp [Value.ownBlock] at e
      | some a => simp [Value.ownBlock] at e; simp [blockOf, e]
    · right
      simpa [Value.ownBlock] using e
  have hwA := h.wA
  have hrA := h.rA
  have hwl := h.blk.lt
  have hrl : r < w.heap.size := by obtain ⟨_, _, hb, _⟩ := h.ref; exact hb.lt
  have hgl : g < w.heap.size := Nat.lt_of_lt_of_le h.gl h.upd.size
  have hne : g' ≠ wb ∧ g' ≠ r ∧ g' ≠ g := by
    rcases hgA with e | e
    · exact ⟨by rintro rfl; exact hwA e, by rintro rfl; exact hrA.1 e, by rintro rfl; exact hrA.2 e⟩
    · omega
  have hu2 : Upd [wb] w4 (w4.setCell ⟨wb, off + 3, none⟩ (.slice (some ⟨g', 0, none⟩) (u.marks.length + 1) cap')) := (Upd.refl _ _).put (.inl (by simp)) _
  have hb4 := (h.blk.upd hu1 hwA).put (off + 3) (.slice (some ⟨g', 0, none⟩) (u.marks.length + 1) cap')
  rw [put4_3] at hb4
  refine ⟨h.sz, by simpa using hb4, ?_, (h.ref.upd hu1 hrA.1 hrA.2).upd hu2 (by simp [h.rwb.symm]) (by simp [h.gwb.symm]), h.gl, h.gwb, h.rwb, by simp [blockOf]; exact ⟨hne.2.1.symm, hne.2.2.symm⟩, fun x hx => ?_, ?_⟩
  · have := ownsRow_upd hown hu2 (by simp [blockOf, hne.1])
    simpa [markCells] using this
  · simp [blockOf] at hx
    subst hx
    rcases hgA with e | e
    · exact h.sub _ e
    · have := h.upd.size
      exact .inr (by omega)
  · refine h.upd.trans_new ((hu1.mono (G := wb :: blockOf A) (by intro b hb; simp [hb])).trans (hu2.mono (by simp))) fun b hb => ?_
    simp only [List.mem_cons] at hb
    rcases hb with e | e
    · exact .inl (by simp [e])
    · rcases h.sub b e with h' | h'
      · exact .inl (by simp [h'])
      · exact .inr h'

theorem info_mark3 : (Try.prog.info? 118).map (fun i => (i.zero, i.size, i.bytes)) = some (some (.agg #[.int .i64 0, .int .i64 0]), 2, 16) := by kernel_rfl
theorem under_marks3 : Try.prog.underlying 55 = some (.slice 118) := by kernel_rfl
/-- Behind the access. -/
def Mid3 (w0 : World) (A0 : Option Addr) (wb off : Nat) (cs : Array Value) (r g k : Nat) (u : R3) (o : OpV) (A : Option Addr) (cap : Nat) (μ : MemS) (wc : World) : Prop :=
  (o.acc u.sum μ).2.1 = true ∧ R3W w0 A0 wc wb off cs r g ⟨k, u.told, wrap64 (u.sum + o.got (o.acc u.sum μ).1), u.marks⟩ A cap (o.acc u.sum μ).2.2
/-- What a step leaves. -/
def R3Post (w0 : World) (A0 : Option Addr) (wb off : Nat) (cs : Array Value) (r g : Nat) (zs : List OpV) (time : Int) (u : R3) (μ : MemS) (e : Ending) (w' : World) : Prop :=
  e = .returned (.tuple #[]) ∧ ∃ A' cap', R3W w0 A0 w' wb off cs r g (u.step zs time μ).1 A' cap' (u.step zs time μ).2
theorem drop_head {zs : List OpV} {k : Nat} {o : OpV} (h : zs[k]? = some o) : zs.drop k = o :: zs.drop (k + 1) := by
  obtain ⟨hk, rfl⟩ := List.getElem?_eq_some_iff.1 h
  exact List.drop_eq_getElem_cons hk
theorem play_acc (o : OpV) (sum : Int) (μ : MemS) (h : o.k = 0 ∨ o.k = 1 ∨ o.k = 2 ∨ o.k = 3) : (o.acc sum μ).2.1 = true ∧ ∃ e, μ.play ⟨o.k, o.i, o.val sum, o.old⟩ = (o.got (o.acc sum μ).1, e, (o.acc sum μ).2.2) := by
  rcases h with h | h | h | h
  · have e1 : o.acc sum = dLoad o.i := by unfold OpV.acc; rw [if_pos h]
    refine ⟨by rw [e1]; rfl, (μ.load o.i).2.1, ?_⟩
    rw [e1, h]
    unfold OpV.got
    rw [if_pos h]
    rfl
  · have e1 : o.acc sum = dStore o.i (o.val sum) := by unfold OpV.acc; rw [if_neg (by omega), if_pos h]
    refine ⟨by rw [e1]; rfl, (μ.store o.i (o.val sum)).1, ?_⟩
    rw [e1, h]
    unfold OpV.got
    rw [if_neg (by omega), if_pos h]
    rfl
  · have e1 : o.acc sum = dAdd o.i (o.val sum) := by unfold OpV.acc; rw [if_neg (by omega), if_neg (by omega), if_pos h]
    refine ⟨by rw [e1]; rfl, (μ.add o.i (o.val sum)).2.1, ?_⟩
    rw [e1, h]
    unfold OpV.got
    rw [if_neg (by omega), if_neg (by omega), if_pos h]
    rfl
  · have e1 : o.acc sum = dSwap o.i o.old (o.val sum) := by unfold OpV.acc; rw [if_neg (by omega), if_neg (by omega), if_neg (by omega), if_pos h]
    refine ⟨by rw [e1]; rfl, (μ.swap o.i o.old (o.val sum)).2.1, ?_⟩
    rw [e1, h]
    unfold OpV.got
    rw [if_neg (by omega), if_neg (by omega), if_neg (by omega), if_pos h]
    show (bitOf _, _, _) = _
    simp only [dSwap, bitOf]
    cases (μ.swap o.i o.old (o.val sum)).1 <;> rfl
theorem play_load (μ : MemS) (i : Int) : μ.play ⟨0, i, 0, 0⟩ = μ.load i := rfl
set_option maxRecDepth 100000 in
set_option maxHeartbeats 2000000 in
theorem ref03_step (wb off : Nat) (cs : Array Value) (u : R3) (A : Option Addr) (mcap : Nat) (r g : Nat) (μ : MemS) (a : Option Addr) (len cap : Nat) (zs : List OpV) (time : Int) (w : World)
    (h : R3W w A w wb off cs r g u A mcap μ) (ha : ArgOf OpV.cells 5 OpV.Ok w a len cap zs) (hat : u.at_ ≤ len) (hl : len ≤ 1000) (htold : u.told ≤ 1000000) (hmk : u.marks.length ≤ 1000000) (hfar : zs ≠ [] → ∀ b ∈ blockOf a, b ∉ wb :: r :: g :: blockOf A) :
    Calls Try.prog 30 #[.pointer (some ⟨wb, off, none⟩), .pointer (some ⟨r, 0, none⟩), .slice a len cap, .int .i64 time] w (R3Post w A wb off cs r g zs time u μ) := by
  have hzl := ha.hl
  have HA := Lib.hid ha
  clear ha
  go_enter Try.func30, Try.ntmps30
  go_wp2_with fail
  go_loopg [] (len - u.at_) (fun n wr => ∃ k : Nat, n = len - k ∧ u.at_ ≤ k ∧ k ≤ len ∧ skip (zs.drop u.at_) = skip (zs.drop k) ∧ R3W w A wr wb off cs r g ⟨k, u.told, u.sum, u.marks⟩ A mcap μ)
  case atStart => exact ⟨u.at_, rfl, Nat.le_refl _, hat, rfl, h⟩
  case round =>
    clear h
    obtain ⟨k, rfl, hk0, hk, hsk, hW⟩ := hrel
    have HS := Lib.hid hsk
    clear hsk
    have w_at := hW.at0
    have w_fr := hW.free off
    by_cases hlt : k < len
    · obtain ⟨ab, ao, o, rfl, -, hzo, hok, hac⟩ := (hW.arg HA.out hfar).at_ hlt
      have d0 := hac 0 _ rfl
      simp only [Nat.add_zero] at d0
      have hki : (k : Int) < len := by omega
      have HD := Lib.hid (drop_head hzo)
      cases hm : o.isMark with
      | true =>
        have hk5 : o.k = 5 := by simpa [OpV.isMark] using hm
        have g5 : (o.kind.tmod 6 == 5) = true := beq_iff_eq.2 hk5
        have HR := Lib.hid (show skip (zs.drop u.at_) = skip (zs.drop (k + 1)) by rw [HS.out, HD.out]; simp only [skip, hm, cond_true])
        have HW := Lib.hid (hW.put off (.int .i64 ((k + 1 : Nat) : Int)) ⟨k + 1, u.told, u.sum, u.marks⟩ rfl (put4_0 _ _ _ _ _ _ _))
        clear hk5 hm hac hzo hok hW
        go_wp2
        go_roundg (len - (k + 1))
        case rel => exact ⟨k + 1, rfl, by omega, by omega, HR.out, HW.out⟩
        case measure => omega
      | false =>
        have hk5 : o.k ≠ 5 := by intro e; simp [OpV.isMark, e] at hm
        have g5 : (o.kind.tmod 6 == 5) = false := beq_eq_false_iff_ne.2 hk5
        have gkl : ((k : Int) == len) = false := beq_eq_false_iff_ne.2 (by omega)
        have HR := Lib.hid (show skip (zs.drop u.at_) = o :: zs.drop (k + 1) by rw [HS.out, HD.out]; simp only [skip, hm, cond_false])
        have d1 := hac 1 _ rfl
        have d2 := hac 2 _ rfl
        have d3 := hac 3 _ rfl
        have d4 := hac 4 _ rfl
        have HW := Lib.hid hW
        clear hm hac hW
        go_upto_region 4 with fail
        have hW2 := HW.out.alloc (.cells #[.int .u8 o.kind, .int .i64 o.i, .int .i64 o.v, .int .i64 o.old, .bool o.use] 27)
        have hO := Blk.new wr 27 #[.int .u8 o.kind, .int .i64 o.i, .int .i64 o.v, .int .i64 o.old, .bool o.use]
        have hrob : r ≠ wr.heap.size ∧ g ≠ wr.heap.size := by
          obtain ⟨_, _, hb, _⟩ := HW.out.ref
          have h1 := hb.lt
          have h2 := HW.out.gl
          have h3 := HW.out.upd.size
          exact ⟨by omega, by omega⟩
        clear w_at w_fr d0 d1 d2 d3 d4 HW
        generalize wr.alloc (.cells #[.int .u8 o.kind, .int .i64 o.i, .int .i64 o.v, .int .i64 o.old, .bool o.use] 27) = w2 at *
        generalize wr.heap.size = ob at *
        have o0 := hO.at_ (i := 0) rfl
        have o1 := hO.at_ (i := 1) rfl
        have o2 := hO.at_ (i := 2) rfl
        have o3 := hO.at_ (i := 3) rfl
        have o4 := hO.at_ (i := 4) rfl
        simp only [List.getElem_toArray, List.getElem_cons_succ, List.getElem_cons_zero] at o0 o1 o2 o3 o4
        go_upto_if 57 with fail
        go_cut [] (fun wc => Mid3 w A wb off cs r g k u o A mcap μ wc)
        case first =>
          have hkk := o.k_cases hok
          by_cases h4 : o.k = 4
          · have g4 : (o.kind.tmod 6 == 4) = true := beq_iff_eq.2 h4
            have hac : o.acc u.sum = dWait o.i o.old := by unfold OpV.acc; rw [if_neg (by omega), if_neg (by omega), if_neg (by omega), if_neg (by omega)]
            have hgo : ∀ v, o.got v = o.old := fun v => by unfold OpV.got; rw [if_neg (by omega), if_neg (by omega), if_neg (by omega), if_neg (by omega)]
            obtain ⟨v, ee, μ1, hq⟩ : ∃ v ee μ1, μ.load o.i = (v, ee, μ1) := ⟨_, _, _, rfl⟩
            have hav : o.acc u.sum μ = (v, (ee == 0) && (v == o.old), μ1) := by rw [hac]; unfold dWait; rw [hq]
            have HQ := Lib.hid hq
            have HGO := Lib.hid hgo
            have HAV := Lib.hid hav
            have HW2 := Lib.hid hW2
            clear hq hgo hav hac h4 hkk hW2 hzo hok
            go_wp2_with fail
            refine (ref_do r g μ ⟨0, o.i, 0, 0⟩ ⟨Int.le_refl 0, by show (0 : Int) ≤ 255; decide⟩ _ HW2.out.ref).mono ?_
            rw [play_load, HQ.out]
            rintro e w3 ⟨rfl, hr3, hu3⟩
            have hW3 := HW2.out.played hr3 hu3
            have o3' := (hO.upd hu3 (by simp; exact ⟨hrob.1.symm, hrob.2.symm⟩)).at_ (i := 3) rfl
            simp only [List.getElem_toArray, List.getElem_cons_succ, List.getElem_cons_zero] at o3'
            have w_2 := hW3.at2
            have w_f2 := hW3.free (off + 2)
            have HW3 := Lib.hid hW3
            clear hr3 hu3 hW3 o0 o1 o2 o3 o4 HW2 hO
            by_cases he : ee = 0
            · have g6 : (ee != 0) = false := by rw [he]; rfl
              by_cases hv : v = o.old
              · subst hv
                have g7 : (o.old != o.old) = false := by simp
                have HE := Lib.hid he
                have HW4 := Lib.hid (HW3.out.put (off + 2) (.int .i64 (wrap64 (u.sum + o.old))) ⟨k, u.told, wrap64 (u.sum + o.old), u.marks⟩ rfl (put4_2 _ _ _ _ _ _ _))
                clear he
                go_wp2
                go_meet
                unfold Mid3
                rw [HAV.out, HGO.out, HE.out]
                rw [u64_sum]
                exact ⟨by simp, HW4.out⟩
              · have g7 : (v != o.old) = true := bne_iff_ne.2 hv
                have HV := Lib.hid hv
                have HE := Lib.hid he
                clear he hv
                go_wp2
                go_end0
                refine ⟨rfl, A, mcap, ?_⟩
                unfold R3.step
                rw [HR.out]
                simp only
                rw [HAV.out, if_neg (by simp [HV.out])]
                rw [show zs.length - ((zs.drop (k + 1)).length + 1) = k by simp; omega]
                exact HW3.out
            · have g6 : (ee != 0) = true := bne_iff_ne.2 he
              have HE := Lib.hid he
              clear he
              go_wp2
              go_end0
              refine ⟨rfl, A, mcap, ?_⟩
              unfold R3.step
              rw [HR.out]
              simp only
              rw [HAV.out, if_neg (by simp [HE.out])]
              rw [show zs.length - ((zs.drop (k + 1)).length + 1) = k by simp; omega]
              exact HW3.out
          · have g4 : (o.kind.tmod 6 == 4) = false := beq_eq_false_iff_ne.2 h4
            obtain ⟨he1, ee, hpl⟩ := play_acc o u.sum μ (by omega)
            have hk03 : 0 ≤ o.k ∧ o.k ≤ 255 := by omega
            have HPL := Lib.hid hpl
            have HE1 := Lib.hid he1
            have HW2 := Lib.hid hW2
            have HA2 := Lib.hid (ref03_access wb off o u.sum w2 hW2.at2)
            have HO := Lib.hid hO
            clear hpl he1 h4 hkk hW2 hzo hok hk5 hO
            go_wp2_with fail
            refine HA2.out.mono ?_
            rintro e w3 ⟨rfl, hb3⟩
            have hW3 := HW2.out.below hb3
            have hO3 := HO.out.below hb3 HO.out.lt
            have o0' := hO3.at_ (i := 0) rfl
            have hobl := hO3.lt
            simp only [List.getElem_toArray, List.getElem_cons_succ, List.getElem_cons_zero] at o0'
            clear o0 o1 o2 o3 o4 HA2 HW2 HO hO3 hb3
            go_upto_region 10 with fail
            have hW4 := hW3.alloc (.cells #[.int .u8 (o.kind.tmod 6), .int .i64 o.i, .int .i64 (o.val u.sum), .int .i64 o.old] 115)
            have hO4 := Blk.new w3 115 #[.int .u8 (o.kind.tmod 6), .int .i64 o.i, .int .i64 (o.val u.sum), .int .i64 o.old]
            generalize w3.alloc (.cells #[.int .u8 (o.kind.tmod 6), .int .i64 o.i, .int .i64 (o.val u.sum), .int .i64 o.old] 115) = w4 at *
            generalize w3.heap.size = ab2 at *
            have p0 := hO4.at_ (i := 0) rfl
            have p1 := hO4.at_ (i := 1) rfl
            have p2 := hO4.at_ (i := 2) rfl
            have p3 := hO4.at_ (i := 3) rfl
            simp only [List.getElem_toArray, List.getElem_cons_succ, List.getElem_cons_zero] at p0 p1 p2 p3
            have HD4 := Lib.hid (ref_do r g μ ⟨o.k, o.i, o.val u.sum, o.old⟩ ⟨hk03.1, hk03.2⟩ w4 hW4.ref)
            have HW4 := Lib.hid hW4
            clear hW3 hW4 hO4 o0'
            go_wp2_with fail
            refine HD4.out.mono ?_
            rw [HPL.out]
            rintro e w5 ⟨rfl, hr5, hu5⟩
            have hW5 := HW4.out.played hr5 hu5
            have w_2 := hW5.at2
            have w_f2 := hW5.free (off + 2)
            have HW5 := Lib.hid (hW5.put (off + 2) (.int .i64 (wrap64 (u.sum + o.got (o.acc u.sum μ).1))) ⟨k, u.told, wrap64 (u.sum + o.got (o.acc u.sum μ).1), u.marks⟩ rfl (put4_2 _ _ _ _ _ _ _))
            clear HD4 HW4 hW5 hr5 hu5 p0 p1 p2 p3
            go_wp2
            go_meet
            unfold Mid3
            rw [u64_sum]
            exact ⟨HE1.out, HW5.out⟩
        case rest =>
          rename_i hcut
          obtain ⟨he1, hW⟩ := hcut
          have HE1 := Lib.hid he1
          have hSM := Lib.hid (rfl : wrap64 (u.sum + o.got (o.acc u.sum μ).1) = wrap64 (u.sum + o.got (o.acc u.sum μ).1))
          obtain ⟨sm, hsm⟩ : ∃ sm, wrap64 (u.sum + o.got (o.acc u.sum μ).1) = sm := ⟨_, rfl⟩
          obtain ⟨μ2, hμ2⟩ : ∃ μ2, (o.acc u.sum μ).2.2 = μ2 := ⟨_, rfl⟩
          rw [hsm, hμ2] at hW
          have HSM := Lib.hid hsm
          have HM2 := Lib.hid hμ2
          have w_0 := hW.at0
          have w_1 := hW.at1
          have w_f0 := hW.free off
          have w_f1 := hW.free (off + 1)
          have e1 := hW.put off (.int .i64 ((k + 1 : Nat) : Int)) ⟨k + 1, u.told, sm, u.marks⟩ rfl (put4_0 _ _ _ _ _ _ _)
          have e2 := e1.put (off + 1) (.int .i64 ((u.told + 1 : Nat) : Int)) ⟨k + 1, u.told + 1, sm, u.marks⟩ rfl (put4_1 _ _ _ _ _ _ _)
          have HW2 := Lib.hid e2
          clear he1 hSM hsm hμ2 hW e1 e2 o0 o1 o2 o3 o4 hO hW2 hrob g5 gkl hki
          simp only at w_0 w_1
          go_wp2_with fail
          go_loopg [] (len - (k + 1)) (fun n wr => ∃ (q : Nat) (ks : List Int) (A' : Option Addr) (cap' : Nat), n = len - q ∧ k + 1 ≤ q ∧ q ≤ len ∧ kindsOf (zs.drop (k + 1)) = ks ++ kindsOf (zs.drop q) ∧ skip (zs.drop (k + 1)) = skip (zs.drop q) ∧ ks.length + (k + 1) = q ∧ R3W w A wr wb off cs r g ⟨q, u.told + 1, sm, u.marks ++ ks.map fun k => (k, time)⟩ A' cap' μ2)
          case atStart => exact ⟨k + 1, [], A, mcap, rfl, Nat.le_refl _, by omega, rfl, rfl, by simp, by simpa using HW2.out⟩
          case round =>
            clear HW2 w_0 w_1 w_f0 w_f1
            obtain ⟨q, ks, A', cap', rfl, hq0, hq, hks, hskq, hkl, hW⟩ := hrel
            have HKS := Lib.hid hks
            have HSQ := Lib.hid hskq
            have HKL := Lib.hid hkl
            clear hks hskq
            have w_at := hW.at0
            have w_fr := hW.free off
            by_cases hltq : q < len
            · obtain ⟨ab2, ao2, o2, hab, habl, hzo2, hok2, hac2⟩ := (hW.arg HA.out hfar).at_ hltq
              have habw : ab < w.heap.size := by
                obtain ⟨_, _, _, h1, h2, -⟩ := HA.out.at_ hltq
                injection h1 with h1
                injection h1 with h1
                rw [h1]
                exact h2
              injection hab with hab
              injection hab with hab1 hab2
              subst hab1 hab2
              have d0 := hac2 0 _ rfl
              have d1 := hac2 1 _ rfl
              simp only [Nat.add_zero] at d0
              have hqi : (q : Int) < len := by omega
              have hqi0 : (0 : Int) ≤ q := by omega
              have HDQ := Lib.hid (drop_head hzo2)
              cases hm2 : o2.isMark with
              | true =>
                have hk5 : o2.k = 5 := by simpa [OpV.isMark] using hm2
                have g5 : (o2.kind.tmod 6 == 5) = true := beq_iff_eq.2 hk5
                have HRQ := Lib.hid (show skip (zs.drop (k + 1)) = skip (zs.drop (q + 1)) ∧ kindsOf (zs.drop (k + 1)) = (ks ++ [o2.i]) ++ kindsOf (zs.drop (q + 1)) by
                  rw [HSQ.out, HKS.out, HDQ.out]; simp only [skip, kindsOf, hm2, cond_true, List.append_assoc, List.singleton_append]; exact ⟨trivial, trivial⟩)
                have hfr2 := hfar (by intro e; rw [e] at hzo2; cases hzo2) ab (by simp [blockOf])
                obtain ⟨i0, hi, hz0, hz1, hz2⟩ := info_parts info_mark3
                have hown := hW.own
                have hml : (u.marks ++ ks.map fun k => (k, time)).length ≤ 1001000 := by simp; omega
                have w3 := hW.at3
                have w3f := hW.free (off + 3)
                have hwl := hW.blk.lt
                have hwA := hW.wA
                have haA : ab ∉ blockOf A' := fun hin => by
                  rcases hW.sub ab hin with h | h
                  · exact hfr2 (by simp [h])
                  · omega
                have HW := Lib.hid hW
                simp only at w_at w3 hown hml
                clear hk5 hm2 hac2 hzo2 hok2 hkl hW
                generalize hM : (u.marks ++ ks.map fun k => (k, time)) = M at *
                have HM := Lib.hid hM
                clear hM
                have ag : (Value.slice A' M.length cap').ownBlock ≠ some wb := by
                  intro e
                  cases A' with
                  | none => simp [Value.ownBlock] at e
                  | some a => simp [Value.ownBlock] at e; exact hwA (by simp [blockOf, e])
                have aa : (Value.slice A' M.length cap').ownBlock ≠ some ab := by
                  intro e
                  cases A' with
                  | none => simp [Value.ownBlock] at e
                  | some a => simp [Value.ownBlock] at e; exact haA (by simp [blockOf, e])
                have hf8 : ((wr.alloc (.cells #[.int .i64 o2.i, .int .i64 time] 118)).drew).frozen? ⟨wb, off + 3, none⟩ = false := (HW.out.alloc _).free _
                have hc8 : ((wr.alloc (.cells #[.int .i64 o2.i, .int .i64 time] 118)).drew).cell? ⟨wb, off + 3, none⟩ = some (.slice A' M.length cap') := by have := (HW.out.alloc (.cells #[.int .i64 o2.i, .int .i64 time] 118)).at3; simpa using this
                go_upto_region 15 with fail
                go_region_law
                  ((refine step_append_lies _ (by rfl) _ _ _ (by rfl) 0 118 i0 _ 2 16 under_marks3 hi hz0 hz1 hz2 rfl (by omega) (.slice A' M.length cap') M.length (markCells M) (by rfl) ((hown.alloc _).drew)
                      ⟨wr.heap.size, 0, none⟩ 1 1 [.int .i64 o2.i, .int .i64 time] (by rfl) (by rfl) (World.news_of_block (cs := #[.int .i64 o2.i, .int .i64 time]) (t := 118) (fr := (0, 0)) (heap_alloc_new wr _)) (by simp [Value.oneCell'])
                      (by omega) (by unfold maxLen; omega) (by omega) (by simp) (wr.heap.size + 1) (by simp) ?_; intro g' cap2 w4 hown' hgrow hat2 hlt2; have f8 : w4.frozen? ⟨wb, off + 3, none⟩ = false := (hgrow.frozen_far ⟨wb, off + 3, none⟩ (by simp; omega) (Ne.symm ag)).trans hf8; have c8 : w4.cell? ⟨wb, off + 3, none⟩ = some (.slice A' M.length cap') := (hgrow.cell_far ⟨wb, off + 3, none⟩ (by simp; omega) (Ne.symm ag)).trans hc8))
                all_goals
                  have hW5 := R3W.marked HW.out.drew (.cells #[.int .i64 o2.i, .int .i64 time] 118) (o2.i, time) hown' hgrow (by
                    rcases hat2 with h | h
                    · left; rw [h]; rfl
                    · right; simp [Value.ownBlock, h])
                  simp only at hW5
                  have w_at5 := hW5.at0
                  have w_f5 := hW5.free off
                  simp only at w_at5
                  generalize w4.setCell ⟨wb, off + 3, none⟩ (.slice (some ⟨g', 0, none⟩) (M.length + 1) cap2) = w5 at *
                  have HW6 := Lib.hid (hW5.put off (.int .i64 ((q + 1 : Nat) : Int)) ⟨q + 1, u.told + 1, sm, M ++ [(o2.i, time)]⟩ rfl (put4_0 _ _ _ _ _ _ _))
                  clear hW5 hown' hgrow hat2 hlt2 f8 c8 hf8 hc8 hown w3 w3f w_at w_fr d0 d1 ag aa HW
                  go_wp2
                  go_roundg (len - (q + 1))
                  case rel => exact ⟨q + 1, ks ++ [o2.i], _, _, rfl, by omega, by omega, HRQ.out.2, HRQ.out.1, by have := HKL.out; simp; omega, by rw [List.map_append, ← List.append_assoc, HM.out]; exact HW6.out⟩
                  case measure => omega
              | false =>
                have hk5' : o2.k ≠ 5 := by intro e; simp [OpV.isMark, e] at hm2
                have g5 : (o2.kind.tmod 6 == 5) = false := beq_eq_false_iff_ne.2 hk5'
                have HRQ := Lib.hid (show skip (zs.drop (k + 1)) = zs.drop q ∧ kindsOf (zs.drop (k + 1)) = ks by
                  rw [HSQ.out, HKS.out, HDQ.out]; simp only [skip, kindsOf, hm2, cond_false, List.append_nil]; exact ⟨trivial, trivial⟩)
                have HW := Lib.hid hW
                clear hk5' hm2 hac2 hzo2 hok2 hW
                go_wp2
                go_end0
                refine ⟨rfl, A', cap', ?_⟩
                unfold R3.step
                rw [HR.out]
                simp only
                rw [if_pos HE1.out, HRQ.out.1, HRQ.out.2, HSM.out, HM2.out]
                rw [show zs.length - (zs.drop q).length = q by simp; omega]
                exact HW.out
            · obtain rfl : q = len := by omega
              have HRQ := Lib.hid (show skip (zs.drop (k + 1)) = [] ∧ kindsOf (zs.drop (k + 1)) = ks by
                rw [HSQ.out, HKS.out, List.drop_of_length_le (by omega)]; simp [skip, kindsOf])
              have HW := Lib.hid hW
              clear hW
              go_wp2
              go_end0
              refine ⟨rfl, A', cap', ?_⟩
              unfold R3.step
              rw [HR.out]
              simp only
              rw [if_pos HE1.out, HRQ.out.1, HRQ.out.2, HSM.out, HM2.out]
              rw [show zs.length - ([] : List OpV).length = q by simp; omega]
              exact HW.out
    · obtain rfl : k = len := by omega
      have HR := Lib.hid (show skip (zs.drop u.at_) = [] by rw [HS.out, List.drop_of_length_le (by omega)]; rfl)
      have hkk : ((k : Int) == k) = true := beq_iff_eq.2 rfl
      have HW := Lib.hid hW
      clear hW
      go_wp2
      go_end0
      refine ⟨rfl, A, mcap, ?_⟩
      unfold R3.step
      rw [HR.out]
      rw [hzl]
      exact HW.out
end Go.Proofs.Ytcphidmfdakbeaa
