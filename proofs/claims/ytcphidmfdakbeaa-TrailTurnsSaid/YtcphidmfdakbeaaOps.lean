/- Programs of accesses, as tasks; samaralaw03's Program.Run, walked. -/
import Derived.Test.YtcphidmfdakbeaaMark
import Derived.Test.YtcphidmfdakbeaaArgs
import Derived.Deep.CutBlock
namespace Go.Proofs.Ytcphidmfdakbeaa
open Go.RowKit

structure OpV where
  kind : Int
  i : Int
  v : Int
  old : Int
  use : Bool
def OpV.cells (o : OpV) : List Value := [.int .u8 o.kind, .int .i64 o.i, .int .i64 o.v, .int .i64 o.old, .bool o.use]
def OpV.Ok (o : OpV) : Prop := 0 ≤ o.kind ∧ o.kind ≤ 255
def OpV.k (o : OpV) : Int := o.kind.tmod 6
def OpV.val (o : OpV) (sum : Int) : Int := if o.use = true then wrap64 (o.v + sum) else o.v

def opR (o : OpV) (sum : Int) : Res MemS Int :=
  if o.k = 0 then loadR o.i
  else if o.k = 1 then (storeR o.i (o.val sum)).bind fun _ => .ret 0
  else if o.k = 2 then addR o.i (o.val sum)
  else if o.k = 3 then (swapR o.i o.old (o.val sum)).bind fun b => .ret (bif b then 1 else 0)
  else if o.k = 4 then (waitR o.i o.old).bind fun _ => .ret o.old
  else (markR o.i).bind fun _ => .ret 0
def progR : List OpV → Int → Res MemS Int
  | [], sum => .ret sum
  | o :: l, sum => (opR o sum).bind fun got => progR l (wrap64 (sum + got))

theorem bind_assoc {σ α β γ : Type} (r : Res σ α) (f : α → Res σ β) (g : β → Res σ γ) : (r.bind f).bind g = r.bind fun a => (f a).bind g := by
  induction r with
  | ret a => rfl
  | acc d k ih => simp only [Res.bind]; congr 1; funext v; exact ih v
  | mark kind k ih => simp only [Res.bind]; rw [ih]
theorem bind_ret {σ α : Type} (r : Res σ α) : r.bind Res.ret = r := by
  induction r with
  | ret a => rfl
  | acc d k ih => simp only [Res.bind]; congr 1; funext v; exact ih v
  | mark kind k ih => simp only [Res.bind]; rw [ih]
theorem prog_append (l l' : List OpV) : ∀ sum, progR (l ++ l') sum = (progR l sum).bind (progR l') := by
  induction l with
  | nil => intro sum; rfl
  | cons o l ih =>
    intro sum
    simp only [List.cons_append, progR, bind_assoc]
    congr 1
    funext got
    exact ih _
theorem prog_snoc (l : List OpV) (o : OpV) (sum : Int) : progR (l ++ [o]) sum = (progR l sum).bind fun s => (opR o s).bind fun got => .ret (wrap64 (s + got)) := by
  rw [prog_append]
  rfl

/-- A dry trail's end, wherever the task is. -/
theorem Sim.stop {σ α : Type} (r : Res σ α) (v : α) (μ : σ) (s : TrS) (hd : s.dry = true) : Sim (r.run μ s) (v, μ, s) := by
  obtain ⟨e1, b, e2⟩ := run_dry r μ s hd
  refine ⟨e1.symm, .inr ⟨by rw [e2]; exact hd, s.fresh, by rw [e2]⟩⟩
theorem Sim.eq {σ α : Type} {q o : α × σ × TrS} (h : Sim q o) (hd : o.2.2.dry = false) : q = o := by
  obtain ⟨hm, ht⟩ := h
  obtain ⟨q1, q2, q3⟩ := q
  obtain ⟨o1, o2, o3⟩ := o
  simp only at hm ht hd
  rcases ht with ⟨_, rfl, rfl⟩ | ⟨h1, b, rfl⟩
  · rw [hm]
  · simp only at hd
    rw [h1] at hd
    cases hd

theorem acc_marks {σ : Type} (s : TrS) (d : σ → Int × Bool × σ) (μ : σ) : (s.acc d μ).2.2.marks = s.marks := by
  unfold TrS.acc
  split
  · rfl
  · split
    · rfl
    · split
      · rfl
      · split <;> rfl
theorem mark_marks (s : TrS) (k : Int) : (s.mark k).marks.length ≤ s.marks.length + 1 := by
  unfold TrS.mark
  split <;> simp
theorem op_marks (o : OpV) (sum : Int) (μ : MemS) (s : TrS) : ((opR o sum).run μ s).2.2.marks.length ≤ s.marks.length + 1 := by
  have h : ∀ (d : MemS → Int × Bool × MemS), (s.acc d μ).2.2.marks.length ≤ s.marks.length + 1 := fun d => by rw [acc_marks]; omega
  unfold opR
  split
  · exact h _
  · split
    · exact h _
    · split
      · exact h _
      · split
        · exact h _
        · split
          · exact h _
          · exact mark_marks s _
theorem Sim.marks_eq {σ α : Type} {q o : α × σ × TrS} (h : Sim q o) : o.2.2.marks = q.2.2.marks := by
  rcases h.tr with ⟨_, h, _⟩ | ⟨h1, b, h⟩ <;> rw [h]
/-- Where an argument's cells are none of the task's own. -/
theorem ArgOf.upd {E : Type} {cells : E → List Value} {z : Nat} {ok : E → Prop} {w w' : World} {a : Option Addr} {len cap : Nat} {zs : List E} {G : List Nat} (h : ArgOf cells z ok w a len cap zs) (hu : Upd G w w') (hG : zs ≠ [] → ∀ b, b ∈ blockOf a → b ∉ G) : ArgOf cells z ok w' a len cap zs := by
  refine ⟨h.hl, h.le, h.hm, h.good, ?_⟩
  by_cases hz : zs = []
  · exact .inl hz
  · rcases h.reads with h0 | ⟨b, off, ha, hlt, hc⟩
    · exact .inl h0
    · exact .inr ⟨b, off, ha, Nat.lt_of_lt_of_le hlt hu.size, fun i x hx j u hu' => (hu.cell (p := ⟨b, off + i * z + j, none⟩) hlt (hG hz b (by rw [ha]; simp [blockOf]))).trans (hc i x hx j u hu')⟩

theorem OpV.k_cases (o : OpV) (h : o.Ok) : o.k = 0 ∨ o.k = 1 ∨ o.k = 2 ∨ o.k = 3 ∨ o.k = 4 ∨ o.k = 5 := by
  obtain ⟨h1, h2⟩ := h
  unfold OpV.k
  rw [Int.tmod_eq_emod_of_nonneg h1]
  omega
/-- Behind an op. -/
def OpEnd (w : World) (m c t : Nat) (F : List Nat) (n : Nat) (o : OpV) (g : Int) (μ2 : MemS) (s2 : TrS) (b : Nat) (cs : Array Value) (v : Value) (wc : World) : Prop :=
  ∃ (got : Int) (μ3 : MemS) (s3 : TrS) (F3 : List Nat), v = .int .i64 got ∧ At w wc m c t μ3 s3 F F3 n ∧ Sim ((opR o g).run μ2 s2) (got, μ3, s3) ∧ Blk wc b 34 cs ∧ b ∉ m :: c :: F3
theorem At.keeps {α : Type} {w0 w w' : World} {m c t : Nat} {μ : MemS} {s : TrS} {F0 F : List Nat} {n : Nat} {r : Res MemS α} {val : α → Value} {e : Ending} (a : At w0 w m c t μ s F0 F n) (h : Does w m c t μ s F r val e w') :
    ∃ v μ' s' F', e = .returned (val v) ∧ Sim (r.run μ s) (v, μ', s') ∧ At w0 w' m c t μ' s' F0 F' n ∧ (∀ b ty cs, Blk w b ty cs → b ∉ m :: c :: F → Blk w' b ty cs ∧ b ∉ m :: c :: F') := by
  have h' := h
  obtain ⟨v, μ', s', he, hs, F', ht, hF, hu⟩ := h'
  obtain ⟨v2, μ2, s2, F2, he2, hs2, hat⟩ := a.does (val := val) ⟨v, μ', s', he, hs, F', ht, hF, hu⟩
  refine ⟨v, μ', s', F', he, hs, ⟨ht, fun b hb => ?_, hat.upd, hs.in_ (run_in r μ s a.inn), hs.over_eq.trans ((run_over r μ s).trans a.over)⟩, fun b ty cs hb hbF => ⟨hb.upd hu hbF, fun hin => ?_⟩⟩
  · rcases hF b hb with h | h
    · exact a.sub b h
    · exact .inr (Nat.le_trans a.upd.size h)
  · simp only [List.mem_cons, not_or] at hin hbF
    rcases hin with e | e | e
    · exact hbF.1 e
    · exact hbF.2.1 e
    · rcases hF b e with h | h
      · exact hbF.2.2 h
      · have := hb.lt
        omega
set_option maxRecDepth 100000 in
set_option maxHeartbeats 2000000 in
theorem prog_run (a : Option Addr) (len cap : Nat) (zs : List OpV) (p : Option Addr) (Q : MemS → TrS → List Nat → World → Prop) (m c t : Nat) (μ : MemS) (s : TrS) (F : List Nat) (n : Nat) (w : World) (h : TM w m c t μ s F) (hi : s.In n) (hn : n ≤ 1000000) (hov : s.over = false) (hdr : s.dry = false) (hmk : s.marks.length ≤ 500000)
    (ha : ArgOf OpV.cells 5 OpV.Ok w a len cap zs) (hl : len ≤ 400000) (hfar : zs ≠ [] → ∀ b, b ∈ blockOf a → b ∉ m :: c :: F)
    (HD : Hid (∀ (v : Int) (μ2 : MemS) (s2 : TrS) (F2 : List Nat) (w2 : World), At w w2 m c t μ2 s2 F F2 n → Sim ((progR zs 0).run μ s) (v, μ2, s2) → s2.dry = true → TaskPost Q m c t (.returned (.tuple #[])) w2))
    (HP : Hid (∀ (v : Int) (μ2 : MemS) (s2 : TrS) (F2 : List Nat) (w2 : World), At w w2 m c t μ2 s2 F F2 n → Sim ((progR zs 0).run μ s) (v, μ2, s2) → s2.dry = false → TaskPost Q m c t (.returned (.tuple #[])) (match p with | some q => w2.setCell q (.int .i64 v) | none => w2)))
    (hp : ∀ q, p = some q → q.spot = none ∧ q.block ∉ m :: c :: F ∧ (∃ u, w.cell? q = some u) ∧ w.frozen? q = false) :
    Calls Try.prog 20 #[.agg #[.slice a len cap, .pointer p], .pointer (some ⟨t, 0, none⟩)] w (TaskPost Q m c t) := by
  have hcm := ha.hm
  have hcl := ha.le
  have hzl := ha.hl
  unfold maxLen at hcm
  have h1 : At w (w.alloc (.cells #[.slice a len cap, .pointer p] 34)) m c t μ s F F n := (At.first h hi hov).alloc _
  have hB := Blk.new w 34 #[.slice a len cap, .pointer p]
  have hbF : w.heap.size ∉ m :: c :: F := fun hin => by have := h.lt _ hin; omega
  have HA := Lib.hid ha
  have HPP := Lib.hid hp
  clear ha hp
  go_enter Try.func20, Try.ntmps20
  go_upto_region 2 with fail
  generalize w.alloc (.cells #[.slice a len cap, .pointer p] 34) = w1 at *
  obtain ⟨b, hb⟩ : ∃ b, w.heap.size = b := ⟨_, rfl⟩
  rw [hb] at hB hbF
  have hbw := hB.lt
  go_wp2_with fail
  rw [hb]
  have HB0 := Lib.hid hb
  clear hb
  go_loopw [4, 5] (fun v i wr => ∃ (k : Nat) (g : Int) (μ2 : MemS) (s2 : TrS) (F2 : List Nat), k ≤ len ∧ i = .int .i64 k ∧ v = .int .i64 g ∧ At w wr m c t μ2 s2 F F2 n ∧ (progR (zs.take k) 0).run μ s = (g, μ2, s2) ∧ s2.dry = false ∧ s2.marks.length ≤ 500000 + k ∧ Blk wr b 34 #[.slice a len cap, .pointer p] ∧ b ∉ m :: c :: F2) (fun _ i _ => len - (intOf i).toNat)
  case atStart => exact ⟨0, 0, _, _, _, Nat.zero_le _, rfl, rfl, h1, rfl, hdr, by omega, hB, hbF⟩
  case round =>
    clear h1 hB hbF h hi hov hdr hmk
    obtain ⟨k, g, μ2, s2, F2, hk, rfl, rfl, hat, hrun, hdr, hmk, hB, hbF⟩ := hrel
    by_cases hlt : k < len
    · have HAR := HA.out.upd hat.upd hfar
      obtain ⟨ab, ao, o, rfl, -, hzo, hok, hac⟩ := HAR.at_ hlt
      have d0 := hac 0 _ rfl
      have d1 := hac 1 _ rfl
      have d2 := hac 2 _ rfl
      have d3 := hac 3 _ rfl
      have d4 := hac 4 _ rfl
      simp only [Nat.add_zero] at d0
      have c0 := hB.at_ (i := 0) rfl
      simp only [List.getElem_toArray, List.getElem_cons_zero] at c0
      clear hac HAR
      go_upto_region 6 with fail
      have hat1 := hat.alloc (.cells #[.int .u8 o.kind, .int .i64 o.i, .int .i64 o.v, .int .i64 o.old, .bool o.use] 27)
      have hO := Blk.new wr 27 #[.int .u8 o.kind, .int .i64 o.i, .int .i64 o.v, .int .i64 o.old, .bool o.use]
      have hB1 := hB.alloc (.cells #[.int .u8 o.kind, .int .i64 o.i, .int .i64 o.v, .int .i64 o.old, .bool o.use] 27)
      have hF2 : ∀ x ∈ m :: c :: F2, x < wr.heap.size := fun x hx => hat.tm.lt x hx
      clear d0 d1 d2 d3 d4 c0 hat hB
      generalize wr.alloc (.cells #[.int .u8 o.kind, .int .i64 o.i, .int .i64 o.v, .int .i64 o.old, .bool o.use] 27) = w2 at *
      generalize wr.heap.size = ob at *
      have o0 := hO.at_ (i := 0) rfl
      have o1 := hO.at_ (i := 1) rfl
      have o2 := hO.at_ (i := 2) rfl
      have o3 := hO.at_ (i := 3) rfl
      have o4 := hO.at_ (i := 4) rfl
      simp only [List.getElem_toArray, List.getElem_cons_succ, List.getElem_cons_zero] at o0 o1 o2 o3 o4
      go_upto_if 24 with fail
      go_cut [7] (fun v wc => v = .int .i64 (o.val g) ∧ w2 = wc)
      case first =>
        cases hu : o.use with
        | true =>
          have hv : o.val g = wrap64 (o.v + g) := by unfold OpV.val; rw [if_pos hu]
          have HV := Lib.hid hv
          clear hv
          rw [hu] at o4
          clear hu
          go_wp2
          go_meet
          exact ⟨by rw [HV.out, u64_sum], rfl⟩
        | false =>
          have hv : o.val g = o.v := by unfold OpV.val; rw [if_neg (by simp [hu])]
          have HV := Lib.hid hv
          clear hv
          rw [hu] at o4
          clear hu
          go_wp2
          go_meet
          exact ⟨by rw [HV.out], rfl⟩
      case rest =>
        rename_i hcut
        obtain ⟨rfl, rfl⟩ := hcut
        go_upto_block 2 with fail
        have hkk := OpV.k_cases o hok
        have hob : ob ∉ m :: c :: F2 := fun hin => by have := hF2 _ hin; omega
        have HM := Lib.hid (fun x => op_marks o g μ2 x)
        go_cut [8] (fun v wc => OpEnd w m c t F n o g μ2 s2 b #[.slice (some ⟨ab, ao, none⟩) len cap, .pointer p] v wc)
        case first =>
          have hin := hat1.inn.ok hn
          have HAT := Lib.hid hat1
          have HO := Lib.hid hO
          have HB1 := Lib.hid hB1
          have HMK := Lib.hid hmk
          clear hat1 hO hB1 hmk
          rcases hkk with hk0 | hk0 | hk0 | hk0 | hk0 | hk0
          · have HR := Lib.hid (show opR o g = loadR o.i by unfold opR; rw [if_pos hk0])
            have g0 : (o.kind.tmod 6 == 0) = true := beq_iff_eq.2 hk0
            clear hk0
            go_wp2_with fail
            refine (d_load o.i m c t μ2 s2 F2 _ HAT.out.tm hin).mono ?_
            intro e wd hd
            obtain ⟨got, μ3, s3, F3, rfl, hs, hat3, hk3⟩ := HAT.out.keeps hd
            have hB3 := hk3 _ _ _ HB1.out hbF
            have HH := Lib.hid (show At w wd m c t μ3 s3 F F3 n ∧ Sim ((opR o g).run μ2 s2) (got, μ3, s3) ∧ Blk wd b 34 #[.slice (some ⟨ab, ao, none⟩) len cap, .pointer p] ∧ b ∉ m :: c :: F3 from ⟨hat3, by rw [HR.out]; exact hs, hB3.1, hB3.2⟩)
            clear hd hs hat3 hk3 hB3
            go_wp2
            go_meet
            exact ⟨got, μ3, s3, F3, rfl, HH.out⟩
          · have HR := Lib.hid (show opR o g = (storeR o.i (o.val g)).bind fun _ => .ret 0 by unfold opR; rw [if_neg (by omega)]; rw [if_pos hk0])
            have g0 : (o.kind.tmod 6 == 0) = false := beq_eq_false_iff_ne.2 (by unfold OpV.k at hk0; omega)
            have g1 : (o.kind.tmod 6 == 1) = true := beq_iff_eq.2 hk0
            clear hk0
            go_wp2_with fail
            refine (d_store o.i (o.val g) m c t μ2 s2 F2 _ HAT.out.tm hin).mono ?_
            intro e wd hd
            obtain ⟨got, μ3, s3, F3, rfl, hs, hat3, hk3⟩ := HAT.out.keeps hd
            have hB3 := hk3 _ _ _ HB1.out hbF
            have HH := Lib.hid (show At w wd m c t μ3 s3 F F3 n ∧ Sim ((opR o g).run μ2 s2) (0, μ3, s3) ∧ Blk wd b 34 #[.slice (some ⟨ab, ao, none⟩) len cap, .pointer p] ∧ b ∉ m :: c :: F3 from ⟨hat3, by rw [HR.out]; exact Sim.bind hs (Sim.refl _), hB3.1, hB3.2⟩)
            clear hd hs hat3 hk3 hB3
            go_wp2
            go_meet
            exact ⟨0, μ3, s3, F3, rfl, HH.out⟩
          · have HR := Lib.hid (show opR o g = addR o.i (o.val g) by unfold opR; rw [if_neg (by omega)]; rw [if_neg (by omega)]; rw [if_pos hk0])
            have g0 : (o.kind.tmod 6 == 0) = false := beq_eq_false_iff_ne.2 (by unfold OpV.k at hk0; omega)
            have g1 : (o.kind.tmod 6 == 1) = false := beq_eq_false_iff_ne.2 (by unfold OpV.k at hk0; omega)
            have g2 : (o.kind.tmod 6 == 2) = true := beq_iff_eq.2 hk0
            clear hk0
            go_wp2_with fail
            refine (d_add o.i (o.val g) m c t μ2 s2 F2 _ HAT.out.tm hin).mono ?_
            intro e wd hd
            obtain ⟨got, μ3, s3, F3, rfl, hs, hat3, hk3⟩ := HAT.out.keeps hd
            have hB3 := hk3 _ _ _ HB1.out hbF
            have HH := Lib.hid (show At w wd m c t μ3 s3 F F3 n ∧ Sim ((opR o g).run μ2 s2) (got, μ3, s3) ∧ Blk wd b 34 #[.slice (some ⟨ab, ao, none⟩) len cap, .pointer p] ∧ b ∉ m :: c :: F3 from ⟨hat3, by rw [HR.out]; exact hs, hB3.1, hB3.2⟩)
            clear hd hs hat3 hk3 hB3
            go_wp2
            go_meet
            exact ⟨got, μ3, s3, F3, rfl, HH.out⟩
          · have HR := Lib.hid (show opR o g = (swapR o.i o.old (o.val g)).bind fun b => .ret (bif b then 1 else 0) by unfold opR; rw [if_neg (by omega)]; rw [if_neg (by omega)]; rw [if_neg (by omega)]; rw [if_pos hk0])
            have g0 : (o.kind.tmod 6 == 0) = false := beq_eq_false_iff_ne.2 (by unfold OpV.k at hk0; omega)
            have g1 : (o.kind.tmod 6 == 1) = false := beq_eq_false_iff_ne.2 (by unfold OpV.k at hk0; omega)
            have g2 : (o.kind.tmod 6 == 2) = false := beq_eq_false_iff_ne.2 (by unfold OpV.k at hk0; omega)
            have g3 : (o.kind.tmod 6 == 3) = true := beq_iff_eq.2 hk0
            clear hk0
            go_wp2_with fail
            refine (d_swap o.i o.old (o.val g) m c t μ2 s2 F2 _ HAT.out.tm hin).mono ?_
            intro e wd hd
            obtain ⟨got, μ3, s3, F3, rfl, hs, hat3, hk3⟩ := HAT.out.keeps hd
            have hB3 := hk3 _ _ _ HB1.out hbF
            cases got with
            | true =>
              have HH := Lib.hid (show At w wd m c t μ3 s3 F F3 n ∧ Sim ((opR o g).run μ2 s2) (1, μ3, s3) ∧ Blk wd b 34 #[.slice (some ⟨ab, ao, none⟩) len cap, .pointer p] ∧ b ∉ m :: c :: F3 from ⟨hat3, by rw [HR.out]; exact Sim.bind hs (Sim.refl _), hB3.1, hB3.2⟩)
              clear hd hs hat3 hk3 hB3
              go_wp2
              go_meet
              exact ⟨1, μ3, s3, F3, rfl, HH.out⟩
            | false =>
              have HH := Lib.hid (show At w wd m c t μ3 s3 F F3 n ∧ Sim ((opR o g).run μ2 s2) (0, μ3, s3) ∧ Blk wd b 34 #[.slice (some ⟨ab, ao, none⟩) len cap, .pointer p] ∧ b ∉ m :: c :: F3 from ⟨hat3, by rw [HR.out]; exact Sim.bind hs (Sim.refl _), hB3.1, hB3.2⟩)
              clear hd hs hat3 hk3 hB3
              go_wp2
              go_meet
              exact ⟨0, μ3, s3, F3, rfl, HH.out⟩
          · have HR := Lib.hid (show opR o g = (waitR o.i o.old).bind fun _ => .ret o.old by unfold opR; rw [if_neg (by omega)]; rw [if_neg (by omega)]; rw [if_neg (by omega)]; rw [if_neg (by omega)]; rw [if_pos hk0])
            have g0 : (o.kind.tmod 6 == 0) = false := beq_eq_false_iff_ne.2 (by unfold OpV.k at hk0; omega)
            have g1 : (o.kind.tmod 6 == 1) = false := beq_eq_false_iff_ne.2 (by unfold OpV.k at hk0; omega)
            have g2 : (o.kind.tmod 6 == 2) = false := beq_eq_false_iff_ne.2 (by unfold OpV.k at hk0; omega)
            have g3 : (o.kind.tmod 6 == 3) = false := beq_eq_false_iff_ne.2 (by unfold OpV.k at hk0; omega)
            have g4 : (o.kind.tmod 6 == 4) = true := beq_iff_eq.2 hk0
            clear hk0
            go_wp2_with fail
            refine (d_wait o.i o.old m c t μ2 s2 F2 _ HAT.out.tm hin).mono ?_
            intro e wd hd
            obtain ⟨got, μ3, s3, F3, rfl, hs, hat3, hk3⟩ := HAT.out.keeps hd
            have hB3 := hk3 _ _ _ HB1.out hbF
            have hO3 := (hk3 _ _ _ HO.out hob).1.at_ (i := 3) rfl
            simp only [List.getElem_toArray, List.getElem_cons_succ, List.getElem_cons_zero] at hO3
            have HH := Lib.hid (show At w wd m c t μ3 s3 F F3 n ∧ Sim ((opR o g).run μ2 s2) (o.old, μ3, s3) ∧ Blk wd b 34 #[.slice (some ⟨ab, ao, none⟩) len cap, .pointer p] ∧ b ∉ m :: c :: F3 from ⟨hat3, by rw [HR.out]; exact Sim.bind hs (Sim.refl _), hB3.1, hB3.2⟩)
            clear hd hs hat3 hk3 hB3
            clear o0 o1 o2 o3 o4
            go_wp2
            go_meet
            exact ⟨o.old, μ3, s3, F3, rfl, HH.out⟩
          · have HR := Lib.hid (show opR o g = (markR o.i).bind fun _ => .ret 0 by unfold opR; rw [if_neg (by omega)]; rw [if_neg (by omega)]; rw [if_neg (by omega)]; rw [if_neg (by omega)]; rw [if_neg (by omega)])
            have g0 : (o.kind.tmod 6 == 0) = false := beq_eq_false_iff_ne.2 (by unfold OpV.k at hk0; omega)
            have g1 : (o.kind.tmod 6 == 1) = false := beq_eq_false_iff_ne.2 (by unfold OpV.k at hk0; omega)
            have g2 : (o.kind.tmod 6 == 2) = false := beq_eq_false_iff_ne.2 (by unfold OpV.k at hk0; omega)
            have g3 : (o.kind.tmod 6 == 3) = false := beq_eq_false_iff_ne.2 (by unfold OpV.k at hk0; omega)
            have g4 : (o.kind.tmod 6 == 4) = false := beq_eq_false_iff_ne.2 (by unfold OpV.k at hk0; omega)
            clear hk0
            go_wp2_with fail
            refine (d_mark o.i m c t μ2 s2 F2 _ HAT.out.tm (Nat.le_trans HMK.out (by omega))).mono ?_
            intro e wd hd
            obtain ⟨got, μ3, s3, F3, rfl, hs, hat3, hk3⟩ := HAT.out.keeps hd
            have hB3 := hk3 _ _ _ HB1.out hbF
            have HH := Lib.hid (show At w wd m c t μ3 s3 F F3 n ∧ Sim ((opR o g).run μ2 s2) (0, μ3, s3) ∧ Blk wd b 34 #[.slice (some ⟨ab, ao, none⟩) len cap, .pointer p] ∧ b ∉ m :: c :: F3 from ⟨hat3, by rw [HR.out]; exact Sim.bind hs (Sim.refl _), hB3.1, hB3.2⟩)
            clear hd hs hat3 hk3 hB3
            go_wp2
            go_meet
            exact ⟨0, μ3, s3, F3, rfl, HH.out⟩
        case rest =>
          rename_i hcut
          obtain ⟨got, μ3, s3, F3, rfl, hat3, hs, hB3, hbF3⟩ := hcut
          have hmk3 : s3.marks.length ≤ 500000 + (k + 1) := by
            have h1 := hs.marks_eq
            have h2 := HM.out s2
            simp only at h1
            rw [h1]
            omega
          have hkl : (zs.take (k + 1)) = zs.take k ++ [o] := by rw [List.take_add_one, hzo]; rfl
          have hrun3 : (progR (zs.take (k + 1)) 0) = (progR (zs.take k) 0).bind fun s => (opR o s).bind fun got => .ret (wrap64 (s + got)) := by rw [hkl, prog_snoc]
          have hsim3 : Sim ((progR (zs.take (k + 1)) 0).run μ s) (wrap64 (g + got), μ3, s3) := by
            rw [hrun3, run_bind, hrun]
            exact Sim.bind hs (Sim.refl _)
          have hsplit : progR zs 0 = (progR (zs.take (k + 1)) 0).bind (progR (zs.drop (k + 1))) := by rw [← prog_append, List.take_append_drop]
          have HS := Lib.hid hsim3
          have HSP := Lib.hid hsplit
          have HAT := Lib.hid hat3
          have HBF := Lib.hid hbF3
          have HMK := Lib.hid hmk3
          have htm := hat3.tm
          have hov := hat3.over
          clear hrun hsim3 hsplit hkl hrun3 hs hat3 hbF3 hmk3 hzo hB1 hO o0 o1 o2 o3 o4 hF2 hob hat1 hmk hbF hdr
          go_wp2_with fail
          refine (t_dry m c t _ _ _ _ htm).mono ?_
          rw [hov, Bool.not_false, Bool.and_true]
          rintro e w' ⟨rfl, rfl⟩
          have HTM := Lib.hid htm
          clear htm hov
          cases hd : s3.dry with
          | true =>
            have HD3 := Lib.hid hd
            clear hd
            go_wp2
            refine bodyPost_ret (results_none rfl _ _ _) rfl ?_
            exact HD.out 0 μ3 s3 F3 _ HAT.out (by rw [HSP.out]; exact Sim.bind HS.out (Sim.stop _ _ _ _ HD3.out)) HD3.out
          | false =>
            have HD3 := Lib.hid hd
            clear hd
            go_wp2
            go_roundw
            case rel => exact ⟨k + 1, wrap64 (g + got), μ3, s3, F3, by omega, by go_num, by rw [u64_sum], HAT.out, HS.out.eq HD3.out, HD3.out, HMK.out, hB3, HBF.out⟩
            case measure => simp [intOf]; omega
    · obtain rfl : k = len := by omega
      rw [List.take_of_length_le (by omega)] at hrun
      have c0 := hB.at_ (i := 0) rfl
      have c1 := hB.at_ (i := 1) rfl
      simp only [List.getElem_toArray, List.getElem_cons_succ, List.getElem_cons_zero] at c0 c1
      cases p with
      | none =>
        have HE := Lib.hid (HP.out g μ2 s2 F2 wr hat (by rw [hrun]; exact Sim.refl _) hdr)
        clear hat hrun hdr hmk hB hbF HD HP HPP HA
        go_wp2
        go_end0
        exact HE.out
      | some q =>
        have HE := Lib.hid (HP.out g μ2 s2 F2 wr hat (by rw [hrun]; exact Sim.refl _) hdr)
        obtain ⟨hq0, hq1, ⟨u, hq2⟩, hq3⟩ := HPP.out q rfl
        have hqb : q.block < w.heap.size := World.block_lt_of_cell? w q hq2
        have e1 := (hat.upd.cell (p := q) hqb hq1).trans hq2
        have e2 := (hat.upd.free (p := q) hqb hq1).trans hq3
        obtain ⟨qb, qo, sp⟩ := q
        simp only at hq0
        subst hq0
        clear hat hrun hdr hmk hB hbF HD HP HPP HA hq1 hq2 hq3
        go_wp2
        go_end0
        exact HE.out
end Go.Proofs.Ytcphidmfdakbeaa
