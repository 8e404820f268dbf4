/- Layer 19: Reserve. -/
import Derived.Test.YtldccemgfjmcdaaWrite19
import Derived.Deep.AppendLies
namespace Go.Proofs.Ytldccemgfjmcdaa
open Go.RowKit
set_option linter.unusedSimpArgs false
set_option linter.unusedVariables false

def giveAllR : List Int → Res LandS Unit
  | [] => .ret ()
  | h :: hs => (giveR h).bind fun _ => giveAllR hs
def reserveGo : Nat → List Int → Res LandS (Option (List Int))
  | 0, out => .ret (some out)
  | k + 1, out => takeR.bind fun h => if h = 0 then (giveAllR out.reverse).bind fun _ => .ret none else reserveGo k (out ++ [h])
theorem giveAll_good : ∀ l, (giveAllR l).Good WfL
  | [] => trivial
  | h :: hs => Good.bind (give_good h) fun _ => giveAll_good hs
theorem giveAll_free : ∀ l, (giveAllR l).free
  | [] => trivial
  | h :: hs => Res.bind_free (give_free h) fun _ => giveAll_free hs
theorem reserve_good : ∀ k out, (reserveGo k out).Good WfL
  | 0, _ => trivial
  | k + 1, out => Good.bind take_good fun h => by
    split
    · exact Good.bind (giveAll_good _) fun _ => trivial
    · exact reserve_good k _
theorem reserve_free : ∀ k out, (reserveGo k out).free
  | 0, _ => trivial
  | k + 1, out => Res.bind_free take_free fun h => by
    split
    · exact Res.bind_free (giveAll_free _) fun _ => trivial
    · exact reserve_free k _

section
variable {β γ : Type} {r0 : Res LandS β} {σ0 σ : LandS} {s0 s : TrS} {w0 w w' : World} {p : Pl} {lb : Nat} {n : Int} {F0 F : List Nat} {N : Nat} {rest : Res LandS β}
theorem Wk.endsK {v : β} (h : Wk r0 σ0 s0 w0 w p lb n F0 N (.ret v) σ s F) : Sim (r0.run σ0 s0) (v, σ, s) ∧ TL w p σ s F ∧ Keeps w0 w p F0 F := ⟨h.goes.end_ret, h.at_.tl, h.at_.upd, h.at_.sub⟩
theorem Wk.endsK_dry (h : Wk r0 σ0 s0 w0 w p lb n F0 N rest σ s F) (hd : s.dry = true) (v : β) : Sim (r0.run σ0 s0) (v, σ, s) ∧ TL w p σ s F ∧ Keeps w0 w p F0 F := ⟨h.goes.end_dry hd v, h.at_.tl, h.at_.upd, h.at_.sub⟩
theorem Wk.next {r1 : Res LandS γ} {f : γ → Res LandS β} {v : γ} {σ' : LandS} {s' : TrS} {F' : List Nat} (h : Wk r0 σ0 s0 w0 w p lb n F0 N (r1.bind f) σ s F) (hs : Sim (r1.run σ s) (v, σ', s')) (ht : TL w' p σ' s' F') (hk : Keeps w w' p F F') : Wk r0 σ0 s0 w0 w' p lb n F0 N (f v) σ' s' F' := by
  obtain ⟨F2, a2⟩ := h.at_.step hs ⟨F', ht, hk.2, hk.1⟩
  refine ⟨⟨ht, fun b hb => ?_, a2.upd, a2.inn, a2.over⟩, hk.blk h.land h.far, hk.notin h.land.lt h.far, h.goes.trans (GoesL.bind hs)⟩
  rcases hk.2 b hb with h1 | h1
  · exact h.at_.sub b h1
  · exact .inr (Nat.le_trans h.at_.upd.size h1)
/-- What is the walk's own has changed. -/
theorem Wk.own {G : List Nat} (h : Wk r0 σ0 s0 w0 w p lb n F0 N rest σ s F) (hu : Upd G w w') (hG : ∀ b ∈ p.all F, b ∉ G) (hl : lb ∉ G) (hnew : ∀ b ∈ G, w0.heap.size ≤ b) : Wk r0 σ0 s0 w0 w' p lb n F0 N rest σ s F :=
  ⟨⟨h.at_.tl.upd hu hG, h.at_.sub, h.at_.upd.trans_new hu fun b hb => .inr (hnew b hb), h.at_.inn, h.at_.over⟩, h.land.upd hu hl, h.far, h.goes⟩
end
theorem out_snoc (xs : List Int) (v : Int) : i64s xs ++ [.int .i64 v] = i64s (xs ++ [v]) := by simp [i64s]
theorem out_ints {w : World} {B : Nat} {A : Option Addr} {cap : Nat} {xs : List Int} (h : w.ownsRow B 2 1 (.slice A xs.length cap) xs.length (i64s xs)) (hw : ∀ x ∈ xs, WfI x) : Ints w A xs.length cap xs := by
  rcases h.2 with ⟨hv, h0⟩ | ⟨g, cap', cur, hv, hlo, hb, h3, h4, h1, h5⟩
  · injection hv with e1 e2 e3
    subst e1 e3
    have : xs = [] := List.eq_nil_of_length_eq_zero e2
    subst this
    exact ⟨rfl, Nat.le_refl _, Nat.zero_le _, by simp, .inl rfl⟩
  · injection hv with e1 e2 e3
    subst e1 e3
    exact ArgInts.ofRow ⟨cur, hb, h1, h.1, h3, h4, h5⟩ hw
/-- A row of numbers of the walk's own. -/
structure OutAt (B : Nat) (w : World) (A : Option Addr) (c : Nat) (out : List Int) (X : List Nat) : Prop where
  own : w.ownsRow B 2 1 (.slice A out.length c) out.length (i64s out)
  off : ∀ b ∈ blockOf A, b ∉ X
  wf : ∀ x ∈ out, WfI x
section
variable {B : Nat} {w w' w4 : World} {A : Option Addr} {c : Nat} {out : List Int} {p : Pl} {F F' : List Nat}
theorem OutAt.nil (B : Nat) (w : World) (X : List Nat) : OutAt B w none 0 [] X := ⟨World.ownsRow_nil _ _ _ _, by simp [blockOf], by simp⟩
theorem OutAt.keep (h : OutAt B w A c out (p.all F)) (hk : Keeps w w' p F F') : OutAt B w' A c out (p.all F') :=
  ⟨ownsRow_upd h.own hk.1 h.off, fun b hb => hk.notin (ownsRow_blockLt h.own b hb) (h.off b hb), h.wf⟩
theorem OutAt.thru {X : List Nat} (h : OutAt B w A c out X) (hb : Below w.heap.size w w') : OutAt B w' A c out X := ⟨ownsRow_upd h.own (Upd.of_below hb (F := [])) (by simp), h.off, h.wf⟩
theorem OutAt.ints {X : List Nat} (h : OutAt B w A c out X) : Ints w A out.length c out := out_ints h.own h.wf
theorem OutAt.ge {X : List Nat} (h : OutAt B w A c out X) : ∀ b ∈ blockOf A, B ≤ b := by
  intro b hb
  refine (Rows'.ofOwn h.own).2 b ?_
  cases A with
  | none => simp [blockOf] at hb
  | some a => simp [blockOf] at hb; simp [Value.ownBlock, hb]
theorem out_step {w w4 : World} {A : Option Addr} {n cap : Nat} {g : Nat} {o : Obj} (hgrow : (w.alloc o).grownBy w4 (Value.slice A n cap).ownBlock) (hat : (Value.slice A n cap).ownBlock = some g ∨ g = w.heap.size + 1) :
    Upd (blockOf A) w w4 ∧ (g ∈ blockOf A ∨ g = w.heap.size + 1) := by
  constructor
  · exact ((Upd.refl _ _).alloc o).grown hgrow (fun b hb => by
      left
      cases A with
      | none => simp [Value.ownBlock] at hb
      | some a => simp [Value.ownBlock] at hb; simp [blockOf, hb])
  · rcases hat with e | e
    · left
      cases A with
      | none => simp [Value.ownBlock] at e
      | some a => simp [Value.ownBlock] at e; simp [blockOf, e]
    · exact .inr e
/-- A number is put behind the others. -/
theorem OutAt.push (h : OutAt B w A c out (p.all F)) (o : Obj) {g cap' : Nat} {v : Int} (hv : WfI v) (hF : ∀ b ∈ p.all F, b < w.heap.size)
    (hown : w4.ownsRow B 2 1 (.slice (some ⟨g, 0, none⟩) (out.length + 1) cap') (out.length + 1) (i64s out ++ [.int .i64 v])) (hgrow : (w.alloc o).grownBy w4 (Value.slice A out.length c).ownBlock) (hat : (Value.slice A out.length c).ownBlock = some g ∨ g = w.heap.size + 1) :
    OutAt B w4 (some ⟨g, 0, none⟩) cap' (out ++ [v]) (p.all F) ∧ Upd (blockOf A) w w4 := by
  obtain ⟨hu4, hg⟩ := out_step hgrow hat
  refine ⟨⟨?_, ?_, ?_⟩, hu4⟩
  · rw [out_snoc] at hown
    simpa using hown
  · intro b hb hin
    simp only [blockOf, List.mem_singleton] at hb
    subst hb
    rcases hg with e | e
    · exact h.off _ e hin
    · have := hF _ hin; omega
  · intro x hx
    rcases List.mem_append.1 hx with hx | hx
    · exact h.wf x hx
    · simp only [List.mem_singleton] at hx
      exact hx ▸ hv
end
/-- What Reserve answers: a row of its own. -/
def ResRows (B : Nat) (p : Pl) (F' : List Nat) (w : World) (v : Option (List Int)) (x : Value) : Prop := match v with
  | none => x = .tuple #[.slice none 0 0, .bool false]
  | some out => ∃ A c, x = .tuple #[.slice A out.length c, .bool true] ∧ OutAt B w A c out (p.all F')
def ResDoes (w : World) (p : Pl) (σ : LandS) (s : TrS) (F : List Nat) (r : Res LandS (Option (List Int))) (e : Ending) (w' : World) : Prop :=
  ∃ v x σ' s' F', e = .returned x ∧ ResRows w.heap.size p F' w' v x ∧ Sim (r.run σ s) (v, σ', s') ∧ TL w' p σ' s' F' ∧ Keeps w w' p F F'
theorem ResDoes.no {w w' : World} {p : Pl} {σ σ' : LandS} {s s' : TrS} {F F' : List Nat} {r : Res LandS (Option (List Int))} (h : Sim (r.run σ s) (none, σ', s') ∧ TL w' p σ' s' F' ∧ Keeps w w' p F F') :
    ResDoes w p σ s F r (.returned (.tuple #[.slice none 0 0, .bool false])) w' := ⟨none, _, σ', s', F', rfl, rfl, h.1, h.2.1, h.2.2⟩
theorem giveAll_step (l : List Int) {j : Nat} (hj : j < l.length) : giveAllR (l.take (j + 1)).reverse = (giveR (l.getD j 0)).bind fun _ => giveAllR (l.take j).reverse := by
  rw [List.take_succ_eq_append_getElem hj, List.reverse_append]
  simp [giveAllR, List.getD, hj]
theorem bind_assoc {α β γ : Type} (r : Res LandS α) (f : α → Res LandS β) (g : β → Res LandS γ) : (r.bind f).bind g = r.bind fun v => (f v).bind g := by
  induction r with
  | ret a => rfl
  | acc d k ih => simp only [Res.bind]; congr 1; funext v; exact ih v
  | mark kd k ih => simp only [Res.bind]; rw [ih]
set_option maxRecDepth 100000 in
set_option maxHeartbeats 8000000 in
theorem replace_reserve (k : Nat) (hk : k ≤ 10000) (p : Pl) (lb : Nat) (n : Int) (σ : LandS) (s : TrS) (F : List Nat) (N : Nat) (w : World) (ht : TL w p σ s F) (hi : s.In N) (hN : N ≤ 1000000) (hov : s.over = false)
    (hl : Blk w lb 93 #[.pointer (some ⟨p.m, 0, none⟩), .pointer (some ⟨p.a, 0, none⟩), .int .i64 n]) (hf : lb ∉ p.all F) :
    Calls Try.prog 88 #[.pointer (some ⟨p.t, 0, none⟩), .pointer (some ⟨lb, 0, none⟩), .int .i64 k] w (ResDoes w p σ s F (reserveGo k [])) := by
  have W0 := Lib.hid (Wk.start ht hi hov hl hf (reserveGo k []))
  have O0 := Lib.hid (OutAt.nil w.heap.size w (p.all F))
  clear ht hi hov hl hf
  go_enter Try.func88, Try.ntmps88
  go_wp2_with fail
  go_loopw [8] (fun v wr => ∃ (out : List Int) (A : Option Addr) (c : Nat) (σ' : LandS) (s' : TrS) (F' : List Nat), out.length ≤ k ∧ v = .slice A out.length c ∧ Wk (reserveGo k []) σ s w wr p lb n F N (reserveGo (k - out.length) out) σ' s' F' ∧ OutAt w.heap.size wr A c out (p.all F')) (fun v _ => match v with | .slice _ m _ => k - m | _ => 0)
  case atStart => exact ⟨[], none, 0, σ, s, F, Nat.zero_le _, rfl, W0.out, O0.out⟩
  case round =>
    clear W0 O0
    obtain ⟨out, A, c, σ1, s1, F1, hle, rfl, hw, ho⟩ := hrel
    have W1 := Lib.hid hw
    have O1 := Lib.hid ho
    clear hw ho
    by_cases hlt : out.length < k
    · have W2 := Lib.hid (W1.out.eq (show reserveGo (k - out.length) out = takeR.bind fun h => if h = 0 then (giveAllR out.reverse).bind fun _ => .ret none else reserveGo (k - (out.length + 1)) (out ++ [h]) by rw [show k - out.length = (k - (out.length + 1)) + 1 by omega]; rfl))
      have HT := Lib.hid (replace_take p lb n σ1 s1 F1 N wr W2.out.at_.tl W2.out.at_.inn hN W2.out.at_.over W2.out.land W2.out.far)
      clear W1
      go_wp2_with fail
      refine HT.out.mono ?_
      rintro e w2 hd
      obtain ⟨h, x, σ2, s2, F2, rfl, ⟨rfl, hwf⟩, hw, hkp⟩ := W2.out.call hd
      have W3 := Lib.hid hw
      have O3 := Lib.hid (O1.out.keep hkp)
      have HD := Lib.hid hw.dry_ok
      have HV := Lib.hid hwf
      clear hw hkp hwf hd HT W2 O1
      cases hdr : s2.dry with
      | true =>
        have HE := Lib.hid (ResDoes.no (W3.out.endsK_dry hdr none))
        rw [hdr] at HD
        clear W3 O3 hdr
        go_wp2_with fail
        refine HD.out.mono ?_
        rintro e w3 ⟨rfl, rfl⟩
        go_wp2
        go_ret2
        exact HE.out
      | false =>
        rw [hdr] at HD
        clear hdr
        go_wp2_with fail
        refine HD.out.mono ?_
        rintro e w3 ⟨rfl, rfl⟩
        by_cases h0 : h = 0
        · subst h0
          have W4 := Lib.hid (W3.out.eq (if_pos rfl))
          have HOL := Lib.hid (show out.length ≤ k by omega)
          clear W3 HD
          go_wp2_with fail
          go_loopw [10] (fun v wr => ∃ (j : Nat) (σ' : LandS) (s' : TrS) (F' : List Nat), j ≤ out.length ∧ v = .int .i64 ((j : Int) - 1) ∧ Wk (reserveGo k []) σ s w wr p lb n F N ((giveAllR (out.take j).reverse).bind fun _ => .ret none) σ' s' F' ∧ OutAt w.heap.size wr A c out (p.all F')) (fun v _ => (intOf v + 1).toNat)
          case atStart => exact ⟨out.length, σ2, s2, F2, Nat.le_refl _, by go_num, by rw [List.take_of_length_le (Nat.le_refl _)]; exact W4.out, O3.out⟩
          case round =>
            clear W4 O3
            obtain ⟨j, σ4, s4, F4, hj, rfl, hw, ho⟩ := hrel
            have W5 := Lib.hid hw
            have O5 := Lib.hid ho
            clear hw ho
            by_cases hj0 : 0 < j
            · obtain ⟨q, rfl⟩ : ∃ q, j = q + 1 := ⟨j - 1, by omega⟩
              have hq : q < out.length := by omega
              have W6 := Lib.hid (W5.out.eq (show _ = (giveR (out.getD q 0)).bind fun _ => (giveAllR (out.take q).reverse).bind fun _ => .ret none by rw [giveAll_step out hq, bind_assoc]))
              obtain ⟨b, o, rfl, -, hc⟩ := O5.out.ints.at_ (j := q) hq
              have HX := Lib.hid (show WfI (out.getD q 0) from O5.out.ints.wf_at (i := q) hq)
              have hqq : (0 : Int) ≤ q := by omega
              have hql : (q : Int) < out.length := by omega
              have hcast : ((q + 1 : Nat) : Int) - 1 = (q : Int) := by omega
              rw [hcast]
              have hk6 : (q : Int) ≤ 10000 := by omega
              obtain ⟨x, hx⟩ : ∃ x, out.getD q 0 = x := ⟨_, rfl⟩
              rw [hx] at W6 hc HX
              have HG := Lib.hid (replace_give x p lb n σ4 s4 F4 N wr W6.out.at_.tl W6.out.at_.inn hN W6.out.at_.over W6.out.land W6.out.far HX.out)
              clear hx W5 hcast
              go_wp2_with fail
              refine HG.out.mono ?_
              rintro e w5 hd
              obtain ⟨u, y, σ5, s5, F5, rfl, rfl, hw, hkp⟩ := W6.out.call hd
              have W7 := Lib.hid hw
              have O7 := Lib.hid (O5.out.keep hkp)
              clear hw hkp hd HG W6 O5 hc
              go_wp2
              go_roundw
              case rel => exact ⟨q, σ5, s5, F5, by omega, by go_num, W7.out, O7.out⟩
              case measure => simp [intOf]
            · obtain rfl : j = 0 := by omega
              have HE := Lib.hid (ResDoes.no ((W5.out.eq (show _ = .ret none from rfl)).endsK))
              clear W5 O5
              go_wp2
              go_ret2
              exact HE.out
        · have W4 := Lib.hid (W3.out.eq (if_neg h0))
          have h0b : (h == 0) = false := by rw [beq_eq_false_iff_ne]; exact h0
          have hown := O3.out.own
          have hge := W3.out.at_.upd.size
          obtain ⟨i0, hi0, hz0, hz1, hz2⟩ := info_parts info_i64
          clear W3 HD h0
          go_wp2_with (at_builtin; refine wpList_append_lies (P := Try.prog) _ rfl (.tmp 36) (.tmp 38) 31 rfl w.heap.size 2 i0 _ 1 8 Try.underlying31 hi0 hz0 hz1 hz2 rfl (by decide) (.slice A out.length c) out.length (i64s out) rfl (hown.alloc _) ⟨w2.heap.size, 0, none⟩ 1 1 [.int .i64 h] rfl rfl (World.news_of_block (cs := #[.int .i64 h]) (t := 2) (fr := (0, 0)) (heap_alloc_new w2 _)) (by simp [Value.oneCell']) (by omega) (by unfold maxLen; omega) (by omega) (by simp; omega) (w2.heap.size + 1) (by simp) ?_; intro g cap' w4 hown' hgrow hat hlt'; obtain ⟨ho4, hu4⟩ := O3.out.push _ HV.out W4.out.at_.tl.lt hown' hgrow hat; have O4 := Lib.hid ho4; have W5 := Lib.hid (W4.out.own hu4 (fun b hb hin => O3.out.off b hin hb) (fun hin => blk_notin O3.out.own W4.out.land (by decide) hin) O3.out.ge); clear hown' hgrow hat ho4 hu4 hown)
          clear W4 O3
          go_roundw
          case rel => exact ⟨out ++ [h], some ⟨g, 0, none⟩, cap', σ2, s2, F2, by simp; omega, by simp, by rw [show (out ++ [h]).length = out.length + 1 by simp]; exact W5.out, O4.out⟩
          case measure => simp; omega
    · have hkk : k - out.length = 0 := by omega
      have hkl : k = out.length := by omega
      have W2 := Lib.hid (W1.out.eq (show reserveGo (k - out.length) out = .ret (some out) by rw [hkk]; rfl))
      have HE := Lib.hid (show ResDoes w p σ s F (reserveGo k []) (.returned (.tuple #[.slice A out.length c, .bool true])) wr from ⟨some out, _, σ1, s1, F1, rfl, ⟨A, c, rfl, O1.out⟩, W2.out.endsK⟩)
      clear W1 W2 O1 hkk
      subst hkl
      go_wp2
      go_ret2
      exact HE.out
end Go.Proofs.Ytldccemgfjmcdaa
