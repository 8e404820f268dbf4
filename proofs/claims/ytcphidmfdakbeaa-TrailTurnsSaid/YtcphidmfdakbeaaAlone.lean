/- TrailAlone, walked: alone a program does an access a step, and is over with the last one. -/
import Derived.Test.YtcphidmfdakbeaaLaw03
namespace Go.Proofs.Ytcphidmfdakbeaa
open Go.RowKit
set_option linter.unusedSimpArgs false
set_option linter.unusedVariables false

/-- A memory and a trail on it, whose task is r; b: has it been stepped? -/
structure BareB {α : Type} (w : World) (m c t : Nat) (r : Res MemS α) (μ : MemS) (s : TrS) (F : List Nat) (cur : Res MemS α) (b : Bool) : Prop where
  tm : TM w m c t μ s F
  at_ : r.follow s.told = some cur
  over : s.over = (b && cur.isRet)
  dry : s.dry = true
def BareStepB {α : Type} (w : World) (m c t : Nat) (r : Res MemS α) (μ : MemS) (s : TrS) (F : List Nat) (cur : Res MemS α) (time : Int) (e : Ending) (w' : World) : Prop :=
  e = .returned (.bool (cur.step μ).1.isRet) ∧ ∃ s' F', BareB w' m c t r (cur.step μ).2.1 s' F' (cur.step μ).1 true ∧
    s'.told = s.told ++ cur.tells μ ∧ s'.marks = s.marks ++ (cur.step μ).2.2.map (fun k => (k, time)) ∧ (∀ b ∈ F', b ∈ F ∨ w.heap.size ≤ b) ∧ Upd (m :: c :: F) w w'
theorem bare_stepB {α : Type} (f : FuncId) (x : Value) (m c t : Nat) (r : Res MemS α) (μ : MemS) (s : TrS) (F : List Nat) (cur : Res MemS α) (b : Bool) (time : Int) (w : World)
    (h : BareB w m c t r μ s F cur b)
    (hcall : ∀ w, (callFunc f #[x, .pointer (some ⟨t, 0, none⟩)]).run Try.prog w = .ok (.enter f #[x, .pointer (some ⟨t, 0, none⟩)]) w)
    (HT : ∀ w1, TM w1 m c t μ (s.begin time) F → Upd [t] w w1 → s.over = false → Calls Try.prog f #[x, .pointer (some ⟨t, 0, none⟩)] w1 (TaskPost (BareQ w1 m c μ (s.begin time) F r) m c t)) :
    Calls Try.prog 19 #[.pointer (some ⟨t, 0, none⟩), .int .i64 time, .func (.func f) #[x] #[]] w (BareStepB w m c t r μ s F cur time) := by
  obtain ⟨h, hat, hov, hdry⟩ := h
  cases hso : s.over with
  | true =>
    rw [hso] at hov
    obtain ⟨hbg, hir⟩ : b = true ∧ cur.isRet = true := by
      have := hov.symm
      rwa [Bool.and_eq_true] at this
    refine (t_step_over _ m c t μ s F time w h hso).mono ?_
    rintro e w' ⟨rfl, rfl⟩
    cases cur with
    | acc d k => simp [Res.isRet] at hir
    | mark kd k => simp [Res.isRet] at hir
    | ret a => exact ⟨rfl, s, F, ⟨h, hat, by rw [hso]; rfl, hdry⟩, by simp [Res.tells], by simp [Res.step], fun b hb => .inl hb, Upd.refl _ _⟩
  | false =>
    have htF := h.mem_t
    refine (t_step f x (fun μ2 s2 F2 w2 => ∃ w1, Upd [t] w w1 ∧ BareQ w1 m c μ (s.begin time) F r μ2 s2 F2 w2) m c t μ s F time w h hso hcall (Lib.hid fun w1 h1 hu1 => ?_)).mono ?_
    · exact (HT w1 h1 hu1 hso).mono fun e w2 hq => TaskPost.mono hq fun μ2 s2 F2 w3 hq => ⟨w1, hu1, hq⟩
    · rintro e w' ⟨μ2, s2, F2, w2, ⟨w1, hu1, v, hsim, hF2, hu2⟩, rfl, h2, hu3⟩
      have hst := Sim.step hat hsim
      have hF2' : ∀ b ∈ F2, b ∈ F ∨ w.heap.size ≤ b := fun b hb => (hF2 b hb).imp id fun h => Nat.le_trans hu1.size h
      have hupd : Upd (m :: c :: F) w w' := by
        have k1 : Upd (m :: c :: F) w w1 := hu1.mono (by simp [htF])
        have k4 : Upd (m :: c :: F) w2 w' := hu3.mono (by simp [htF])
        exact (k1.trans hu2).trans k4
      have hmem : μ2 = (cur.step μ).2.1 := hst.mem
      have hdr : s2.dry = !(cur.step μ).1.isRet := hst.dry
      refine ⟨by rw [hdr, Bool.not_not], s2.finish, F2, ⟨by rw [← hmem]; exact h2, ?_, ?_, rfl⟩, hst.told, hst.marks, hF2', hupd⟩
      · have := hst.place
        rw [show s2.finish.told = s.told ++ cur.tells μ from hst.told]
        exact this
      · show (!s2.dry) = _
        rw [hdr, Bool.not_not, Bool.true_and]

/-! ### Programs without waits -/
theorem acc_ends (o : OpV) (hok : o.Ok) (h4 : o.k ≠ 4) (h5 : o.isMark = false) (sum : Int) (μ : MemS) : (o.acc sum μ).2.1 = true ∧ ((o.acc sum μ).2.2.count = μ.count ∨ (o.acc sum μ).2.2.count = wrap64 (μ.count + 1)) := by
  have hk := o.k_cases hok
  have h5' : o.k ≠ 5 := by intro e; simp [OpV.isMark, e] at h5
  unfold OpV.acc
  rcases hk with hk | hk | hk | hk | hk | hk
  · rw [if_pos hk]
    refine ⟨rfl, ?_⟩
    simp only [dLoad, MemS.load]
    split
    · exact .inr rfl
    · exact .inl rfl
  · rw [if_neg (by omega), if_pos hk]
    refine ⟨rfl, ?_⟩
    simp only [dStore, MemS.store]
    split
    · exact .inr rfl
    · exact .inl rfl
  · rw [if_neg (by omega), if_neg (by omega), if_pos hk]
    refine ⟨rfl, ?_⟩
    simp only [dAdd, MemS.add]
    split
    · exact .inr rfl
    · exact .inl rfl
  · rw [if_neg (by omega), if_neg (by omega), if_neg (by omega), if_pos hk]
    refine ⟨rfl, ?_⟩
    simp only [dSwap, MemS.swap]
    split
    · split
      · exact .inr rfl
      · exact .inr rfl
    · exact .inl rfl
  · exact absurd hk h4
  · exact absurd hk h5'
theorem kinds_len (l : List OpV) : (kindsOf l).length + (skip l).length = l.length := by
  induction l with
  | nil => rfl
  | cons o l ih =>
    cases hm : o.isMark with
    | true => simp only [kindsOf, skip, hm, cond_true, List.length_cons]; omega
    | false => simp [kindsOf, skip, hm]

/-- A place of a program without waits. -/
structure PlaceA (l : List OpV) (sum : Int) : Prop where
  ok : ∀ o ∈ l, o.Ok ∧ o.k ≠ 4
  sk : skip l = l
  sum : wrap64 sum = sum
theorem PlaceA.next {l : List OpV} {sum : Int} (hok : ∀ o ∈ l, o.Ok ∧ o.k ≠ 4) (hs : wrap64 sum = sum) : (progR l sum).next = progR (skip l) sum ∧ (progR l sum).kinds = kindsOf l ∧ PlaceA (skip l) sum := by
  obtain ⟨h1, h2⟩ := prog_next l sum (fun o ho => (hok o ho).1) hs
  refine ⟨h1, h2, ⟨fun o ho => ?_, skip_skip l, hs⟩⟩
  have : ∀ l' : List OpV, o ∈ skip l' → o ∈ l' := by
    intro l'
    induction l' with
    | nil => simp [skip]
    | cons x l' ih =>
      cases hm : x.isMark with
      | true => simp only [skip, hm, cond_true]; intro h; exact List.mem_cons_of_mem _ (ih h)
      | false => simp only [skip, hm, cond_false]; exact id
  exact hok o (this l ho)
theorem PlaceA.step {l : List OpV} {sum : Int} (h : PlaceA l sum) (hne : l ≠ []) (μ : MemS) : ∃ l' sum' μ', (progR l sum).step μ = (progR l' sum', μ', kindsOf l.tail) ∧ ((progR l sum).tells μ).length = 1 ∧ PlaceA l' sum' ∧ accesses l' + 1 = accesses l ∧ l'.length < l.length ∧ (μ'.count = μ.count ∨ μ'.count = wrap64 (μ.count + 1)) := by
  obtain ⟨hok, hsk, hs⟩ := h
  cases l with
  | nil => exact absurd rfl hne
  | cons o l =>
    have hm := skip_head hsk
    obtain ⟨he, hc⟩ := acc_ends o (hok o (by simp)).1 (hok o (by simp)).2 hm sum μ
    rw [prog_acc o l sum (hok o (by simp)).1 hm]
    obtain ⟨n1, n2, n3⟩ := PlaceA.next (l := l) (sum := wrap64 (sum + o.got (o.acc sum μ).1)) (fun o ho => hok o (by simp [ho])) (wrap_wrap _)
    refine ⟨_, _, (o.acc sum μ).2.2, ?_, ?_, n3, by rw [accesses_skip, accesses_cons o l hm], ?_, hc⟩
    · simp only [Res.step, he, if_true, n1, n2, List.tail_cons]
    · simp [Res.tells, he]
    · have := kinds_len l
      simp only [List.length_cons]
      omega
theorem PlaceA.ret {l : List OpV} {sum : Int} (h : PlaceA l sum) : (progR l sum).isRet = l.isEmpty := prog_ret l sum (fun o ho => (h.ok o ho).1) h.sk
theorem PlaceA.none {l : List OpV} {sum : Int} (h : PlaceA l sum) : l = [] ↔ accesses l = 0 := by
  have := skip_nil_iff l
  rw [h.sk] at this
  exact this

/-! ### few -/
/-- A slice's header, as an element. -/
structure HdrV where
  a : Option Addr
  n : Nat
  cap : Nat
def HdrV.cells (h : HdrV) : List Value := [.slice h.a h.n h.cap]
def fewB (hs : List HdrV) (n : Int) : Bool := (hs.take 10).all (fun h => decide (h.n ≤ 25)) && decide ((hs.length : Int) ≤ n)
set_option maxRecDepth 100000 in
theorem few03 (a : Option Addr) (len cap : Nat) (hs : List HdrV) (n : Int) (w : World) (ha : ArgOf HdrV.cells 1 (fun h => h.n ≤ maxLen) w a len cap hs) :
    Calls Try.prog 16 #[.slice a len cap, .int .i64 n] w fun e w' => e = .returned (.bool (fewB hs n)) ∧ w = w' := by
  have hcm := ha.hm
  have hcl := ha.le
  have hzl := ha.hl
  unfold maxLen at hcm
  go_enter Try.func16, Try.ntmps16
  go_wp2_with fail
  have HA := Lib.hid ha
  clear ha
  go_loop [5] (fun i => ∃ k : Nat, k ≤ len ∧ k ≤ 10 ∧ i = .int .i64 k ∧ (hs.take k).all (fun h => decide (h.n ≤ 25)) = true) (fun i => len - (intOf i).toNat)
  case atStart => exact ⟨0, Nat.zero_le _, by decide, rfl, rfl⟩
  case round =>
    obtain ⟨k, hk, hk10, rfl, hall⟩ := hrel
    have HALL := Lib.hid hall
    clear hall
    by_cases hlt : k < len ∧ k < 10
    · obtain ⟨hlt, hlt10⟩ := hlt
      obtain ⟨ab, ao, h, rfl, -, hh, hok, hac⟩ := HA.out.at_ hlt
      have d0 := hac 0 _ rfl
      simp only [Nat.add_zero, Nat.mul_one] at d0
      have htk : hs.take (k + 1) = hs.take k ++ [h] := by rw [List.take_add_one, hh]; rfl
      have HTK := Lib.hid htk
      have HH := Lib.hid hh
      have hki : (k : Int) < len := by omega
      have hki10 : (k : Int) < 10 := by omega
      clear hac htk hh
      unfold maxLen at hok
      by_cases h25 : h.n ≤ 25
      · have hn1 : ¬ ((h.n : Int) > 25) := by omega
        go_wp2
        go_round
        case rel => exact ⟨k + 1, by omega, by omega, by go_num, by rw [HTK.out, List.all_append, HALL.out]; simpa using h25⟩
        case measure => simp [intOf]; omega
      · have hn1 : (h.n : Int) > 25 := by omega
        have hfin : fewB hs n = false := by
          unfold fewB
          have : (hs.take 10).all (fun h => decide (h.n ≤ 25)) = false := by
            rw [List.all_eq_false]
            refine ⟨h, ?_, by simpa using h25⟩
            rw [List.mem_iff_getElem?]
            exact ⟨k, by rw [List.getElem?_take, if_pos hlt10]; exact HH.out⟩
          rw [this]
          rfl
        have HF := Lib.hid hfin
        clear hfin
        go_wp2
        go_ret
        exact ⟨congrArg (fun b => Ending.returned (.bool b)) HF.out.symm, rfl⟩
    · have hfin : fewB hs n = decide ((len : Int) ≤ n) := by
        unfold fewB
        have : (hs.take 10).all (fun h => decide (h.n ≤ 25)) = true := by
          have e := HALL.out
          have hk' : hs.take k = hs.take 10 := by
            by_cases h10 : k = 10
            · rw [h10]
            · have : k = len := by omega
              rw [List.take_of_length_le (by omega), List.take_of_length_le (by omega)]
          rw [hk'] at e
          exact e
        rw [this, hzl, Bool.true_and]
      have HF := Lib.hid hfin
      clear hfin
      by_cases hkl : k < len
      · have hki : (k : Int) < len := by omega
        have hki10 : ¬ ((k : Int) < 10) := by omega
        clear hlt
        go_wp2
        go_ret
        exact ⟨congrArg (fun b => Ending.returned (.bool b)) HF.out.symm, rfl⟩
      · have hki : ¬ ((k : Int) < len) := by omega
        clear hlt
        go_wp2
        go_ret
        exact ⟨congrArg (fun b => Ending.returned (.bool b)) HF.out.symm, rfl⟩

theorem few_one (a : Option Addr) (len cap : Nat) : fewB [⟨a, len, cap⟩] 1 = decide (len ≤ 25) := by simp [fewB]
theorem few_arg {w : World} {b : Nat} {ty : TypeId} (a : Option Addr) (len cap : Nat) (h : Blk w b ty #[.slice a len cap]) (hl : len ≤ maxLen) : ArgOf HdrV.cells 1 (fun h => h.n ≤ maxLen) w (some ⟨b, 0, none⟩) 1 1 [⟨a, len, cap⟩] :=
  ArgOf.ofBlk (zs := [(⟨a, len, cap⟩ : HdrV)]) (cap := 1) (fun _ => rfl) h (fun i _ => by rw [← Array.getElem?_toList]; rfl) (Nat.le_refl _) (by unfold maxLen; decide) (by simpa using hl)

/-- The trail alone, behind i - 1 steps. -/
structure AState (w0 w : World) (a : Option Addr) (len cap m c t pb : Nat) (zs : List OpV) (N i : Nat) (μ : MemS) (s : TrS) (F : List Nat) (l : List OpV) (sum : Int) (b : Bool) : Prop where
  bare : BareB w m c t (progR zs 0) μ s F (progR l sum) b
  pl : PlaceA l sum
  acc : accesses l = N - (i - 1)
  short : l.length ≤ 25
  told : s.told.length = i - 1
  few : s.marks.length ≤ 25 * i
  cnt : 0 ≤ μ.count ∧ μ.count ≤ i
  blk : Blk w pb 34 #[.slice a len cap, .pointer none]
  far : pb ∉ m :: c :: F
  new : ∀ x ∈ m :: c :: F, w0.heap.size ≤ x
  low : Below w0.heap.size w0 w
theorem AState.tick {w0 w w' : World} {a : Option Addr} {len cap m c t pb : Nat} {zs : List OpV} {N i : Nat} {μ : MemS} {s : TrS} {F : List Nat} {l : List OpV} {sum : Int} {b : Bool} {time : Int} {e : Ending} (h : AState w0 w a len cap m c t pb zs N i μ s F l sum b) (hi : 1 ≤ i) (hi2 : i ≤ 1000)
    (hs : BareStepB w m c t (progR zs 0) μ s F (progR l sum) time e w') :
    ∃ μ' s' F' l' sum', e = .returned (.bool l'.isEmpty) ∧ s'.over = l'.isEmpty ∧ s'.dry = true ∧ μ'.count ≤ μ.count + 1 ∧
      ((l ≠ [] ∧ accesses l' + 1 = accesses l ∧ AState w0 w' a len cap m c t pb zs N (i + 1) μ' s' F' l' sum' true) ∨ (l = [] ∧ l' = [] ∧ s'.told.length = i - 1 ∧ TM w' m c t μ' s' F' ∧ (∀ x ∈ m :: c :: F', w0.heap.size ≤ x) ∧ Below w0.heap.size w0 w' ∧ 0 ≤ μ'.count ∧ Blk w' pb 34 #[.slice a len cap, .pointer none])) := by
  obtain ⟨hb, hpl, hacc, hlen, htold, hfew, hcnt, hblk, hfar, hnew, hlow⟩ := h
  obtain ⟨he, s', F', hb', ht, hm', hF', hu⟩ := hs
  have hnew' : ∀ x ∈ m :: c :: F', w0.heap.size ≤ x := by
    intro x hx
    simp only [List.mem_cons] at hx
    rcases hx with rfl | rfl | hx
    · exact hnew _ (by simp)
    · exact hnew _ (by simp)
    · rcases hF' x hx with h | h
      · exact hnew x (by simp [h])
      · exact Nat.le_trans hlow.size h
  have hfar' : pb ∉ m :: c :: F' := by
    intro hin
    simp only [List.mem_cons, not_or] at hin hfar
    rcases hin with e | e | e
    · exact hfar.1 e
    · exact hfar.2.1 e
    · rcases hF' _ e with h | h
      · exact hfar.2.2 h
      · have := hblk.lt; omega
  have hlow' := hlow.trans (hu.below hlow.size hnew)
  have hblk' := hblk.upd hu hfar
  by_cases hne : l = []
  · subst hne
    have hst : (progR [] sum).step μ = (.ret sum, μ, []) := rfl
    have htl : (progR [] sum).tells μ = [] := rfl
    rw [hst] at he hb'
    rw [htl, List.append_nil] at ht
    exact ⟨μ, s', F', [], sum, he, by rw [hb'.over]; rfl, hb'.dry, by omega, .inr ⟨rfl, rfl, by rw [ht]; exact htold, hb'.tm, hnew', hlow', hcnt.1, hblk'⟩⟩
  · obtain ⟨l', sum', μ', hst, htl, hpl', hac', hll, hc⟩ := hpl.step hne μ
    rw [hst] at he hb' hm'
    have hcm : 0 ≤ μ'.count ∧ μ'.count ≤ μ.count + 1 := by
      rcases hc with e | e
      · omega
      · rw [e]; unfold wrap64; omega
    have hkl : (kindsOf l.tail).length ≤ 25 := by
      have := kinds_len l.tail
      have : l.tail.length ≤ l.length := by simp
      omega
    refine ⟨μ', s', F', l', sum', by rw [he, hpl'.ret], by rw [hb'.over, hpl'.ret, Bool.true_and], hb'.dry, hcm.2, .inl ⟨hne, hac', ⟨hb', hpl', by omega, by omega, by rw [ht, List.length_append, htl]; omega, ?_, ⟨hcm.1, by omega⟩, hblk', hfar', hnew', hlow'⟩⟩⟩
    rw [hm', List.length_append, List.length_map]
    simp only
    omega
theorem AState.go {w0 w : World} {a : Option Addr} {len cap m c t pb : Nat} {zs : List OpV} {N i : Nat} {μ : MemS} {s : TrS} {F : List Nat} {l : List OpV} {sum : Int} {b : Bool} (time : Int) (h : AState w0 w a len cap m c t pb zs N i μ s F l sum b) (hi2 : i ≤ 1000) (ha : ArgOf OpV.cells 5 OpV.Ok w0 a len cap zs) (hl : len ≤ 25) :
    Calls Try.prog 19 #[.pointer (some ⟨t, 0, none⟩), .int .i64 time, .func (.func 20) #[.agg #[.slice a len cap, .pointer none]] #[]] w (BareStepB w m c t (progR zs 0) μ s F (progR l sum) time) := by
  have hfar : zs ≠ [] → ∀ x ∈ blockOf a, x ∉ m :: c :: F := by
    intro hz x hx hin
    have h1 := h.new x hin
    rcases ha.reads with h0 | ⟨ab, ao, rfl, hlt, -⟩
    · exact hz h0
    · simp [blockOf] at hx
      omega
  exact bare_stepB _ _ m c t _ μ s F _ b time w h.bare (fun _ => by kernel_rfl) fun w1 h1 hu1 hso =>
    prog_run a len cap zs none _ m c t μ (s.begin time) F (s.told.length + 1) w1 h1 (begin_in s time) (by have := h.told; omega) hso rfl (by have := h.few; show s.marks.length ≤ _; omega)
      ((ha.below h.low (Nat.le_refl _)).upd hu1 fun hz x hx hin => hfar hz x hx (by simp at hin; subst hin; simp [h1.tF])) (by omega) hfar (Lib.hid fun _ _ _ _ _ hat hs _ => hat.ends_bare hs) (Lib.hid fun _ _ _ _ _ hat hs _ => hat.ends_bare hs) (fun _ hq => by cases hq)

set_option maxRecDepth 100000 in
set_option maxHeartbeats 2000000 in
theorem alone03 (a : Option Addr) (len cap : Nat) (zs : List OpV) (w : World) (ha : ArgOf OpV.cells 5 OpV.Ok w a len cap zs) :
    Calls Try.prog 3 #[.slice a len cap] w fun e w' => e = .returned (.bool true) ∧ Below w.heap.size w w' := by
  have HA := Lib.hid awake03
  have hcm := ha.hm
  have hcl := ha.le
  have hzl := ha.hl
  have hlm : len ≤ maxLen := Nat.le_trans hcl hcm
  have hfew := few_one a len cap
  have HFA := Lib.hid (fun (w : World) (b : Nat) (ty : TypeId) (h : Blk w b ty #[.slice a len cap]) => few_arg a len cap h hlm)
  clear hlm
  unfold maxLen at hcm
  by_cases h25 : len ≤ 25
  · rw [decide_eq_true h25] at hfew
    have HFEW := Lib.hid hfew
    have HAR := Lib.hid ha
    clear hfew ha
    go_enter Try.func3, Try.ntmps3
    go_wp2_with fail
    refine (HA.out _).mono ?_
    rintro e w0 ⟨rfl, hb0⟩
    have hbl := Blk.new w0 22 #[.slice a len cap]
    have HF := Lib.hid (few03 _ 1 1 [⟨a, len, cap⟩] 1 _ (HFA.out _ _ _ hbl))
    clear hbl
    go_wp2_with fail
    refine HF.out.mono ?_
    rw [HFEW.out]
    rintro e w1 ⟨rfl, rfl⟩
    clear HF HFA HFEW
    have hB0 := hb0.size
    have hb1 := hb0.alloc hB0 (.cells #[.slice a len cap] 22)
    generalize w0.alloc (.cells #[.slice a len cap] 22) = w1 at *
    clear hb0 hB0
    go_wp2_with fail
    go_loop [3, 4] (fun n i => ∃ k : Nat, k ≤ len ∧ i = .int .i64 k ∧ n = .int .i64 (accesses (zs.take k)) ∧ ∀ o ∈ zs.take k, o.k ≠ 4) (fun _ i => len - (intOf i).toNat)
    case atStart => exact ⟨0, Nat.zero_le _, rfl, rfl, by simp⟩
    case round =>
      obtain ⟨k, hk, rfl, rfl, hno⟩ := hrel
      have HNO := Lib.hid hno
      clear hno
      by_cases hlt : k < len
      · obtain ⟨ab, ao, o, rfl, -, hzo, hok, hac⟩ := (HAR.out.below hb1 (Nat.le_refl _)).at_ hlt
        have d0 := hac 0 _ rfl
        simp only [Nat.add_zero] at d0
        have hkl : (zs.take (k + 1)) = zs.take k ++ [o] := by rw [List.take_add_one, hzo]; rfl
        have hal : (accesses (zs.take k)) ≤ k := Nat.le_trans (List.length_filter_le _ _) (List.length_take_le _ _)
        have HKL := Lib.hid hkl
        have hkk := o.k_cases hok
        have hki : (k : Int) < len := by omega
        clear hac hkl hzo hok
        by_cases h4 : o.k = 4
        · have g4 : (o.kind.tmod 6 == 4) = true := beq_iff_eq.2 h4
          clear h4 hkk
          go_wp2
          go_ret
          exact ⟨rfl, hb1⟩
        · have g4 : (o.kind.tmod 6 == 4) = false := beq_eq_false_iff_ne.2 h4
          cases hm : o.isMark with
          | true =>
            have hk5 : o.k = 5 := by simpa [OpV.isMark] using hm
            have g5 : (o.kind.tmod 6 == 5) = true := beq_iff_eq.2 hk5
            have g5' : (o.kind.tmod 6 != 5) = false := by rw [bne, g5]; rfl
            have HR := Lib.hid (show accesses (zs.take (k + 1)) = accesses (zs.take k) by rw [HKL.out]; simp [accesses, hm])
            have H4 := Lib.hid h4
            clear hk5 h4 hkk hm
            go_wp2
            go_round
            case rel => exact ⟨k + 1, by omega, by go_num, by rw [HR.out], fun x hx => by
              rw [HKL.out, List.mem_append] at hx
              rcases hx with hx | hx
              · exact HNO.out x hx
              · simp at hx; subst hx; exact H4.out⟩
            case measure => simp [intOf]; omega
          | false =>
            have hk5 : o.k ≠ 5 := by intro e; simp [OpV.isMark, e] at hm
            have g5 : (o.kind.tmod 6 == 5) = false := beq_eq_false_iff_ne.2 hk5
            have g5' : (o.kind.tmod 6 != 5) = true := by rw [bne, g5]; rfl
            have HR := Lib.hid (show accesses (zs.take (k + 1)) = accesses (zs.take k) + 1 by rw [HKL.out]; simp [accesses, hm])
            have H4 := Lib.hid h4
            clear hk5 h4 hkk hm
            go_wp2
            go_round
            case rel => exact ⟨k + 1, by omega, by go_num, by rw [HR.out]; go_num, fun x hx => by
              rw [HKL.out, List.mem_append] at hx
              rcases hx with hx | hx
              · exact HNO.out x hx
              · simp at hx; subst hx; exact H4.out⟩
            case measure => simp [intOf]; omega
      · obtain rfl : k = len := by omega
        rw [List.take_of_length_le (by omega)] at HNO ⊢
        have hok : ∀ o ∈ zs, o.Ok ∧ o.k ≠ 4 := fun o ho => ⟨HAR.out.good o ho, HNO.out o ho⟩
        have hN25 : accesses zs ≤ 25 := Nat.le_trans (List.length_filter_le _ _) (by omega)
        obtain ⟨n1, -, n3⟩ := PlaceA.next (l := zs) (sum := 0) hok (by unfold wrap64; omega)
        have hskl : (skip zs).length ≤ 25 := by have := kinds_len zs; omega
        have hacs := accesses_skip zs
        generalize hN : accesses zs = N at *
        have HN := Lib.hid hN
        clear hN HNO hlt
        go_wp2_with fail
        refine (cell_new 9 _).mono ?_
        rintro e w2 ⟨rfl, hm, hb2, -⟩
        rw [show (⟨List.replicate (capn 9).toNat 0, 0⟩ : MemS) = ⟨List.replicate 9 0, 0⟩ from rfl] at hm
        have hB1 := hb1.size
        have hmc : w.heap.size ≤ w1.heap.size + 1 ∧ w.heap.size ≤ w1.heap.size := by omega
        generalize hx1 : w1.heap.size + 1 = m at *
        have hb12 := hb1.trans (hb2.mono hB1)
        generalize w1.heap.size = c at *
        clear hx1 hb1 hb2 hB1
        go_wp2_with fail
        refine (t_new m c _ _ hm).mono ?_
        rintro e w3 ⟨rfl, ht, hb3⟩
        have hb13 := below_then hb12 hb3 (Nat.le_refl _)
        have hB2 := hb12.size
        have hB3 := hb13.size
        go_upto_region 14 with fail
        have hA : AState w (w3.alloc (.cells #[.slice a k cap, .pointer none] 34)) a k cap m c w2.heap.size w3.heap.size zs N 1 ⟨List.replicate 9 0, 0⟩ TrS.new [w2.heap.size] (skip zs) 0 false := by
          refine ⟨⟨ht.alloc _, by rw [← n1]; exact follow_nil _, rfl, rfl⟩, n3, by rw [hacs]; omega, hskl, rfl, by simp [TrS.new], by simp, Blk.new _ _ _, fun hin => ?_, ?_, hb13.alloc hB3 _⟩
          · have := ht.lt _ hin; omega
          · simp; omega
        generalize w3.alloc (.cells #[.slice a k cap, .pointer none] 34) = w4 at *
        generalize w3.heap.size = pb at *
        generalize w2.heap.size = t at *
        have HOK := Lib.hid hok
        clear hm hb12 ht hb3 hb13 hB2 hB3 n1 n3 hskl hacs hok
        go_wp2_with fail
        go_loopw [8] (fun v wr => ∃ (i : Nat) (μ : MemS) (s : TrS) (F : List Nat) (l : List OpV) (sum : Int) (b : Bool), 1 ≤ i ∧ (i ≤ N ∨ i = 1) ∧ v = .int .i64 i ∧ AState w wr a k cap m c t pb zs N i μ s F l sum b) (fun v _ => N - (intOf v).toNat)
        case atStart => exact ⟨1, _, _, _, _, _, _, Nat.le_refl _, .inr rfl, rfl, hA⟩
        case round =>
          clear hA
          obtain ⟨i, μ, s, F, l, sum, b, hi1, hiN, rfl, hA⟩ := hrel
          have hi25 : i ≤ 25 := by omega
          have HS := Lib.hid (hA.go (i : Int) (by omega) HAR.out (by omega))
          have p0 := hA.blk.at_ (i := 0) rfl
          have p1 := hA.blk.at_ (i := 1) rfl
          simp only [List.getElem_toArray, List.getElem_cons_succ, List.getElem_cons_zero] at p0 p1
          by_cases hlt : i < N
          · have HAS := Lib.hid hA
            have hii : (i : Int) < N := by omega
            clear hA
            go_wp2_with fail
            refine HS.out.mono ?_
            intro e w5 hs
            obtain ⟨μ5, s5, F5, l5, sum5, rfl, hov, hdr, -, hor⟩ := HAS.out.tick hi1 (by omega) hs
            clear hs HS p0 p1
            have hl2 : 2 ≤ accesses l := by rw [HAS.out.acc]; omega
            rcases hor with ⟨hne, hac, hA5⟩ | ⟨h0, -⟩
            · have hl5 : l5.isEmpty = false := by
                cases hq : l5 with
                | nil => rw [hq] at hac; simp [accesses] at hac hl2; omega
                | cons x y => rfl
              rw [hl5] at hov ⊢
              have HA5 := Lib.hid hA5
              have HOV := Lib.hid hov
              have HDR := Lib.hid hdr
              have HTL := Lib.hid hA5.told
              clear hA5 hov hdr hac hne hl5 hl2 HAS
              go_wp2_with fail
              refine (t_steps m c t _ _ _ _ HA5.out.bare.tm).mono ?_
              rw [HTL.out, Nat.add_sub_cancel]
              rintro e w6 ⟨rfl, rfl⟩
              go_wp2_with fail
              refine (t_over m c t _ _ _ _ HA5.out.bare.tm).mono ?_
              rw [HOV.out]
              rintro e w6 ⟨rfl, rfl⟩
              go_wp2_with fail
              refine (t_dry m c t _ _ _ _ HA5.out.bare.tm).mono ?_
              rw [HOV.out, HDR.out]
              rintro e w6 ⟨rfl, rfl⟩
              go_wp2
              go_roundw
              case rel => exact ⟨i + 1, μ5, s5, F5, l5, sum5, true, by omega, .inl (by omega), by go_num, HA5.out⟩
              case measure => simp [intOf]; omega
            · subst h0
              simp [accesses] at hl2
          · have hii : ¬ ((i : Int) < N) := by omega
            have HS2 := Lib.hid (hA.go (N : Int) (by omega) HAR.out (by omega))
            have HAS := Lib.hid hA
            clear hA HS
            go_wp2_with fail
            refine (cell_count m c _ _ HAS.out.bare.tm.mem).mono ?_
            rintro e w5 ⟨rfl, rfl⟩
            go_wp2_with fail
            refine HS2.out.mono ?_
            intro e w5 hs
            obtain ⟨μ5, s5, F5, l5, sum5, rfl, hov, hdr, hcnt, hor⟩ := HAS.out.tick hi1 (by omega) hs
            clear hs HS2 p0 p1
            have key : l5 = [] ∧ s5.told.length = N ∧ TM w5 m c t μ5 s5 F5 ∧ (∀ x ∈ m :: c :: F5, w.heap.size ≤ x) ∧ Below w.heap.size w w5 ∧ 0 ≤ μ5.count ∧ Blk w5 pb 34 #[.slice a k cap, .pointer none] := by
              have hacc := HAS.out.acc
              rcases hor with ⟨hne, hac, hA5⟩ | ⟨h0, h1, h2, h3, h4, h5, h6, h7⟩
              · have : 1 ≤ N := by
                  rcases Nat.eq_zero_or_pos N with h0 | h0
                  · rw [h0] at hacc
                    exact absurd (HAS.out.pl.none.2 (by rw [hacc]; omega)) hne
                  · exact h0
                refine ⟨hA5.pl.none.2 (by omega), by rw [hA5.told]; omega, hA5.bare.tm, hA5.new, hA5.low, hA5.cnt.1, hA5.blk⟩
              · have : N = 0 := by
                  have := HAS.out.pl.none.1 h0
                  omega
                exact ⟨h1, by rw [h2]; omega, h3, h4, h5, h6, h7⟩
            obtain ⟨rfl, htl, htm5, hnew5, hlow5, hc0, hbl5⟩ := key
            have hμc := HAS.out.cnt
            have p0 := hbl5.at_ (i := 0) rfl
            have p1 := hbl5.at_ (i := 1) rfl
            simp only [List.getElem_toArray, List.getElem_cons_succ, List.getElem_cons_zero] at p0 p1
            simp only [List.isEmpty_nil] at hov ⊢
            have HTL := Lib.hid htl
            have HOV := Lib.hid hov
            have HTM := Lib.hid htm5
            have HLOW := Lib.hid hlow5
            clear hor hdr htl hov htm5 hnew5 hlow5 hbl5 HAS
            go_wp2_with fail
            refine (t_steps m c t _ _ _ _ HTM.out).mono ?_
            rw [HTL.out]
            rintro e w6 ⟨rfl, rfl⟩
            go_wp2_with fail
            refine (t_over m c t _ _ _ _ HTM.out).mono ?_
            rw [HOV.out]
            rintro e w6 ⟨rfl, rfl⟩
            go_wp2_with fail
            refine (t_step_over _ m c t _ _ _ _ _ HTM.out HOV.out).mono ?_
            rintro e w6 ⟨rfl, rfl⟩
            go_wp2_with fail
            refine (t_steps m c t _ _ _ _ HTM.out).mono ?_
            rw [HTL.out]
            rintro e w6 ⟨rfl, rfl⟩
            go_wp2_with fail
            refine (cell_count m c _ _ HTM.out.mem).mono ?_
            rintro e w6 ⟨rfl, rfl⟩
            have hle : μ5.count ≤ μ.count + 1 := hcnt
            go_wp2
            go_ret
            exact ⟨rfl, HLOW.out⟩
  · rw [decide_eq_false h25] at hfew
    have HFEW := Lib.hid hfew
    clear hfew ha
    go_enter Try.func3, Try.ntmps3
    go_wp2_with fail
    refine (HA.out _).mono ?_
    rintro e w0 ⟨rfl, hb0⟩
    have hbl := Blk.new w0 22 #[.slice a len cap]
    have HF := Lib.hid (few03 _ 1 1 [⟨a, len, cap⟩] 1 _ (HFA.out _ _ _ hbl))
    clear hbl
    go_wp2_with fail
    refine HF.out.mono ?_
    rw [HFEW.out]
    rintro e w1 ⟨rfl, rfl⟩
    clear HF HFA HFEW
    have hB0 := hb0.size
    go_wp2_with fail
    refine (HA.out _).mono ?_
    rintro e w2 ⟨rfl, hb2⟩
    go_wp2
    go_ret
    exact ⟨rfl, below_then (hb0.alloc hB0 _) hb2 (Nat.le_refl _)⟩

/-- An op, as it comes in. -/
theorem op03_open {H : Type} {enc : TypeId × Value → H} {w : World} (n : Nat) (vs : List Value) (hl : vs.length = 5)
    (h0 : ∃ v y, vs[0]? = some v ∧ DataW.trod enc Try.prog w 0 (fun _ => true) true n 5 [v] = some y) (h1 : ∃ v y, vs[1]? = some v ∧ DataW.trod enc Try.prog w 0 (fun _ => true) true n 3 [v] = some y)
    (h2 : ∃ v y, vs[2]? = some v ∧ DataW.trod enc Try.prog w 0 (fun _ => true) true n 2 [v] = some y) (h3 : ∃ v y, vs[3]? = some v ∧ DataW.trod enc Try.prog w 0 (fun _ => true) true n 2 [v] = some y)
    (h4 : ∃ v y, vs[4]? = some v ∧ DataW.trod enc Try.prog w 0 (fun _ => true) true n 4 [v] = some y) :
    ∃ x : OpV, x.Ok ∧ x.cells = vs := by
  obtain ⟨v0, y0, e0, t0⟩ := h0
  obtain ⟨v1, y1, e1, t1⟩ := h1
  obtain ⟨v2, y2, e2, t2⟩ := h2
  obtain ⟨v3, y3, e3, t3⟩ := h3
  obtain ⟨v4, y4, e4, t4⟩ := h4
  obtain ⟨a0, c0, -, w0⟩ := DataW.trod_int Try.underlying5 t0
  obtain ⟨a1, c1, -, w1⟩ := DataW.trod_int Try.underlying3 t1
  obtain ⟨a2, c2, -, w2⟩ := DataW.trod_int Try.underlying2 t2
  obtain ⟨a3, c3, -, w3⟩ := DataW.trod_int Try.underlying2 t3
  obtain ⟨a4, c4, -⟩ := DataW.trod_bool Try.underlying4 t4
  simp only [List.cons.injEq, and_true] at c0 c1 c2 c3 c4
  subst c0 c1 c2 c3 c4
  match vs, hl with
  | [x0, x1, x2, x3, x4], _ =>
    simp at e0 e1 e2 e3 e4
    subst e0 e1 e2 e3 e4
    have b0 := bounds_u8 w0
    exact ⟨⟨a0, a1, a2, a3, a4⟩, ⟨b0.1, b0.2⟩, rfl⟩
end Go.Proofs.Ytcphidmfdakbeaa
