/- Law 19: what comes of each call that is alone; the land at first; awake. -/
import Derived.Test.YtldccemgfjmcdaaOkP19
import Derived.Test.YtldccemgfjmcdaaNewW19
namespace Go.Proofs.Ytldccemgfjmcdaa
open Go.RowKit
set_option linter.unusedSimpArgs false
set_option linter.unusedVariables false

/-- Here is a land that has what L has. -/
structure LandOf (w : World) (lb m c a b N : Nat) (L : LS) : Prop where
  land : ∃ σ f α, LandAt w m c a b σ ∧ LIs σ (24 + 30 * N) f α ∧ Rel N f α L
  top : LandB w lb m a N
  off : lb ∉ [m, c, a, b]
theorem runs0 (B : Nat) (lb : Nat) (n k a o h tag : Int) : Runs19 B lb n 71 (fun pb => callArg lb pb k a o h tag 0) call0R :=
  fun pb cs0 hc p σ s F N w hB ht hi hN hov hp hpf hl hf => caller_run0 B lb n k a o h tag pb cs0 hc p σ s F N w ht hi hN hov hp hpf hl hf
theorem runs1 (B : Nat) (lb : Nat) (n k a o h tag : Int) (hh : WfI h) : Runs19 B lb n 71 (fun pb => callArg lb pb k a o h tag 1) (call1R h) :=
  fun pb cs0 hc p σ s F N w hB ht hi hN hov hp hpf hl hf => caller_run1 B lb n k a o h tag hh pb cs0 hc p σ s F N w ht hi hN hov hp hpf hl hf
theorem runs2 (B : Nat) (lb : Nat) (n k a o h tag : Int) (h1 : 1 ≤ n) (h2 : n ≤ 1000) (hh : WfI h) (hg : WfI tag) : Runs19 B lb n 71 (fun pb => callArg lb pb k a o h tag 2) (call2R h tag n) :=
  fun pb cs0 hc p σ s F N w hB ht hi hN hov hp hpf hl hf => caller_run2 B lb n h1 h2 k a o h tag hh hg pb cs0 hc p σ s F N w ht hi hN hov hp hpf hl hf
theorem runs3 (B : Nat) (lb : Nat) (n k a h tag : Int) (q : Nat) (hq : q ≤ 255) : Runs19 B lb n 71 (fun pb => callArg lb pb k a q h tag 3) (call3R q) :=
  fun pb cs0 hc p σ s F N w hB ht hi hN hov hp hpf hl hf => caller_run3 B lb n k a h tag q hq pb cs0 hc p σ s F N w ht hi hN hov hp hpf hl hf hB
theorem runs4 (B : Nat) (lb : Nat) (n k a h tag : Int) (q : Nat) (hq : q ≤ 255) (h1 : 1 ≤ n) (h2 : n ≤ 1000) : Runs19 B lb n 71 (fun pb => callArg lb pb k a q h tag 4) (call4R n q) :=
  fun pb cs0 hc p σ s F N w hB ht hi hN hov hp hpf hl hf => caller_run4 B lb n h1 h2 k a h tag q hq pb cs0 hc p σ s F N w ht hi hN hov hp hpf hl hf
theorem runs5 (B : Nat) (lb : Nat) (n k a o h tag : Int) (hg : WfI tag) : Runs19 B lb n 71 (fun pb => callArg lb pb k a o h tag 5) (call5R tag) :=
  fun pb cs0 hc p σ s F N w hB ht hi hN hov hp hpf hl hf => caller_run5 B lb n k a o h tag hg pb cs0 hc p σ s F N w ht hi hN hov hp hpf hl hf
/-- What comes of a call that is alone. -/
def Done19 (w : World) (lb m c a b N : Nat) (L : LS) (v : V19) (P : Nat → Prop) (e : Ending) (w' : World) : Prop :=
  ∃ cs n, e = .returned (.tuple #[.agg cs, .int .i64 (n : Nat), .bool true]) ∧ P n ∧ R19 w.heap.size w' v cs ∧ LandOf w' lb m c a b N L ∧ Upd [m, c, a, b] w w'
theorem do_ev {lb m c a b N : Nat} {k ia o h tag kind : Int} {r : Res LandS V19} {v : V19} {P : Nat → Prop} {L L' : LS} {w : World} (hf : r.free) (hr : ∀ B, Runs19 B lb N 71 (fun pb => callArg lb pb k ia o h tag kind) r) (g : Option Addr) (hl : LandOf w lb m c a b N L)
    (hev : ∀ f α, Rel N f α L → ∃ n f' α', (P n ∧ n < 3000) ∧ Ev (24 + 30 * N) f α r v n f' α' ∧ Rel N f' α' L') :
    Calls Try.prog 39 #[.agg #[.pointer (some ⟨lb, 0, none⟩), .int .u8 k, .int .u8 ia, .int .u8 o, .int .i64 h, .int .i64 tag, .pointer g, .int .u8 kind]] w (Done19 w lb m c a b N L' v P) := by
  obtain ⟨σ, f, α, h1, h2, h3⟩ := hl.land
  obtain ⟨n, f', α', ⟨hP, hn⟩, hE, hR⟩ := hev f α h3
  obtain ⟨σ', he, h4⟩ := hE σ h2
  refine (do19 w.heap.size lb N k ia o h tag kind r hf (hr _) m c a b σ g w h1 hl.top hl.off (by rw [he]; exact hn) (Nat.le_refl _)).mono ?_
  rintro e w' ⟨cs, rfl, hR19, hla, hu⟩
  rw [he] at hR19 hla ⊢
  exact ⟨cs, n, rfl, hP, hR19, ⟨⟨σ', f', α', hla, h4, hR⟩, Blk.upd hl.top hu hl.off, hl.off⟩, hu⟩
/-! ### The land at first -/
theorem newA_slots (N : Nat) (h : 1 ≤ N) : (newA N).slots = (LS.new N).gen.zip (LS.new N).live := by
  simp [newA, LS.new]
theorem wholeN_low : ∀ i, i < 28 → wholeN.pack.getD i 0 = wholeN.pack.getD i 0 := fun _ _ => rfl
theorem rel_new (N : Nat) (h1 : 1 ≤ N) (h2 : N ≤ 1000) : Rel N (newF N) (newA N) (LS.new N) := by
  have hnf : ∀ k, 4 ≤ k → k < 24 + 2 * N → k ≠ 21 → newF N k = 0 := by
    intro k h4 hk h21
    unfold newF
    rw [if_neg (by omega), if_neg (by omega), if_neg h21, if_pos hk]
  refine ⟨by simp [LS.new]; omega, by simp [LS.new]; omega, rfl, newA_slots N h1, ⟨rfl, rfl⟩, ?_, ?_, ?_, ?_, ?_, ?_, ?_, ?_, ?_, ?_, ?_, ?_⟩
  · unfold newF
    rw [if_neg (by omega), if_neg (by omega), if_pos rfl]
    simp only [LS.new]
    by_cases hN : 2 ≤ N
    · rw [if_pos hN]
      obtain ⟨q, hq⟩ : ∃ q, N - 1 = q + 1 := ⟨N - 2, by omega⟩
      rw [hq, List.range_succ_eq_map]
      rfl
    · rw [if_neg hN, show N - 1 = 0 by omega]
      rfl
  · intro i s hs
    simp only [LS.new, List.getElem?_map] at hs
    have hi : i < N - 1 := by
      by_cases hi : i < N - 1
      · exact hi
      · rw [List.getElem?_eq_none (by simp; omega)] at hs; cases hs
    rw [List.getElem?_range hi] at hs
    simp only [Option.map_some, Option.some.injEq] at hs
    subst hs
    unfold newF cl
    have e1 : (24 + 2 * N + 28 * (i + 2 - 1) + 0 - (24 + 2 * N)) = 28 * (i + 1) := by omega
    rw [if_neg (by omega), if_neg (by omega), if_neg (by omega), if_neg (by omega), if_neg (by omega), e1, if_pos (by omega), show 28 * (i + 1) / 28 = i + 1 by omega]
    simp only [LS.new, List.getD_eq_getElem?_getD, List.getElem?_map]
    by_cases hl : i + 1 < N - 1
    · rw [if_neg (by omega), List.getElem?_range hl]
      simp
    · rw [if_pos (by omega), List.getElem?_eq_none (by simp; omega)]
      rfl
  · intro s hs
    simp only [LS.new, List.mem_map, List.mem_range] at hs
    obtain ⟨i, hi, rfl⟩ := hs
    refine ⟨by omega, by omega, ?_⟩
    simp only [LS.new]
    rw [show i + 2 - 1 = i + 1 by omega]
    simp [List.getD_eq_getElem?_getD, List.getElem?_replicate, hi]
  · simp only [LS.new]
    exact List.Pairwise.map _ (fun a b h => by intro e; exact h (by omega)) List.nodup_range
  · intro i hi
    unfold newF cl
    cases i with
    | zero =>
      rw [if_neg (by omega), if_neg (by omega), if_neg (by omega), if_neg (by omega), if_pos (by omega), if_pos (by omega)]
      rfl
    | succ i =>
      rw [if_neg (by omega), if_neg (by omega), if_neg (by omega), if_neg (by omega), if_neg (by omega), if_neg (by omega)]
      simp [LS.new, List.getD_eq_getElem?_getD, List.getElem?_replicate]
      split <;> rfl
  · exact hnf 4 (by omega) (by omega) (by omega)
  · exact hnf 22 (by omega) (by omega) (by omega)
  · exact hnf 23 (by omega) (by omega) (by omega)
  · rfl
  · simp [LS.new]
  · simp [LS.new]
  · intro j e he
    simp [LS.new] at he
theorem ok_new (N : Nat) : (LS.new N).Ok [] := ⟨by simp [LS.new], by simp [LS.new], by simp [LS.new]⟩
theorem sm_new (N : Nat) : (LS.new N).Sm 1 := by
  refine ⟨fun g hg => ?_, by simp [LS.new], by simp [LS.new], by simp [LS.new]⟩
  simp only [LS.new, List.mem_cons, List.mem_replicate] at hg
  rcases hg with rfl | ⟨-, rfl⟩ <;> omega
theorem NewLand.of {w : World} {B lb m c a b n : Nat} (h : NewLand w B lb m c a b n) (h1 : 1 ≤ n) (h2 : n ≤ 1000) : LandOf w lb m c a b n (LS.new n) := by
  obtain ⟨σ, h3, h4, h5⟩ := h.land
  exact ⟨⟨σ, newF n, newA n, h3, ⟨h4, h5⟩, rel_new n h1 h2⟩, h.top, h.apart⟩
/-! ### Each call -/
section
variable {lb m c a b N : Nat} {L : LS} {w : World} {B : Int} {had : List Int}
theorem call0_free : call0R.free := Res.bind_free take_free fun _ => trivial
theorem do_take (hl : LandOf w lb m c a b N L) (hs : L.Sm B) (hB : B < 100000000000) (hN : N ≤ 1000) (k ia o h tag : Int) (g : Option Addr) :
    Calls Try.prog 39 #[.agg #[.pointer (some ⟨lb, 0, none⟩), .int .u8 k, .int .u8 ia, .int .u8 o, .int .i64 h, .int .i64 tag, .pointer g, .int .u8 0]] w (Done19 w lb m c a b N L.take.2 ⟨L.take.1, [], false, 0⟩ fun n => L.free ≠ [] → n = 5) :=
  do_ev call0_free (fun B => runs0 B lb N k ia o h tag) g hl fun f α hr => by
    obtain ⟨n, f', α', ⟨hn, hn2⟩, hE, hR⟩ := hr.take (hs.small hB) hN
    exact ⟨n, f', α', ⟨hn2, by omega⟩, (hE.bind (k := fun h => .ret (⟨h, [], false, 0⟩ : V19)) (Ev.ret _)), hR⟩
theorem call1_free (h : Int) : (call1R h).free := Res.bind_free (give_free h) fun _ => trivial
theorem call2_free (h tag n : Int) : (call2R h tag n).free := Res.bind_free (retire_free h tag n) fun _ => trivial
theorem call3_free (k : Nat) : (call3R k).free := Res.bind_free (reserve_free k []) fun _ => trivial
theorem call4_free (n : Int) (k : Nat) : (call4R n k).free := Res.bind_free (reclaim_free n k) fun _ => trivial
theorem call5_free (tag : Int) : (call5R tag).free := Res.bind_free (st_free 4 tag) fun _ => trivial
theorem LS.has_wf {s : Nat} {h : Int} (hh : L.has s h) (hs : L.Sm B) (hB : B < 100000000000) (hN : L.gen.length ≤ 1000) : WfI h := by
  obtain ⟨h1, h2, h3, h4⟩ := hh
  have := getD_small (i := s - 1) (hs.small hB).1
  exact WfI.of ⟨by omega, by omega⟩
theorem do_give (hl : LandOf w lb m c a b N L) (hs : L.Sm B) (hB : B < 100000000000) (hN : N ≤ 1000) (h : Int) (ho : L.Ok (h :: had)) (k ia o tag : Int) (g : Option Addr) :
    Calls Try.prog 39 #[.agg #[.pointer (some ⟨lb, 0, none⟩), .int .u8 k, .int .u8 ia, .int .u8 o, .int .i64 h, .int .i64 tag, .pointer g, .int .u8 1]] w (Done19 w lb m c a b N (L.give h) ⟨0, [], false, 0⟩ fun _ => True) := by
  obtain ⟨s, s2, hh⟩ := ho.has h (by simp)
  have hlen : L.gen.length = N := by obtain ⟨_, _, _, _, _, h3⟩ := hl.land; exact h3.gl
  refine do_ev (call1_free h) (fun B => runs1 B lb N k ia o h tag (LS.has_wf hh hs hB (by omega))) g hl fun f α hr => ?_
  obtain ⟨f', α', hE, hR⟩ := hr.give (hs.small hB) hN hh
  exact ⟨3, f', α', ⟨trivial, by omega⟩, (hE.bind (k := fun _ => .ret (⟨0, [], false, 0⟩ : V19)) (Ev.ret _)), hR⟩
theorem do_retire (hl : LandOf w lb m c a b N L) (hs : L.Sm B) (hB : B < 100000000000) (h1N : 1 ≤ N) (hN : N ≤ 1000) (h tag : Int) (hh : WfI h) (hg : WfI tag) (hr : L.ring.length < N) (k ia o : Int) (g : Option Addr) :
    Calls Try.prog 39 #[.agg #[.pointer (some ⟨lb, 0, none⟩), .int .u8 k, .int .u8 ia, .int .u8 o, .int .i64 h, .int .i64 tag, .pointer g, .int .u8 2]] w (Done19 w lb m c a b N (L.retire h tag) ⟨0, [], false, 0⟩ fun _ => True) := by
  refine do_ev (call2_free h tag N) (fun B => runs2 B lb N k ia o h tag (by omega) (by omega) hh hg) g hl fun f α hr' => ?_
  obtain ⟨f', hE, hR⟩ := hr'.retire (hs.small hB) h1N hN h tag hr
  exact ⟨4, f', α, ⟨trivial, by omega⟩, (hE.bind (k := fun _ => .ret (⟨0, [], false, 0⟩ : V19)) (Ev.ret _)), hR⟩
theorem do_reserve (hl : LandOf w lb m c a b N L) (hs : L.Sm B) (hB : B < 10000000000) (hN : N ≤ 300) (ho : L.Ok had) (q : Nat) (hq : q ≤ 255) (hf : L.free.length ≤ 300) (k ia h tag : Int) (g : Option Addr) :
    Calls Try.prog 39 #[.agg #[.pointer (some ⟨lb, 0, none⟩), .int .u8 k, .int .u8 ia, .int .u8 q, .int .i64 h, .int .i64 tag, .pointer g, .int .u8 3]] w (Done19 w lb m c a b N (LS.reserveGo q [] L).2 ⟨0, (LS.reserveGo q [] L).1.getD [], (LS.reserveGo q [] L).1.isSome, 0⟩ fun _ => True) := by
  refine do_ev (call3_free q) (fun B => runs3 B lb N k ia h tag q hq) g hl fun f α hr => ?_
  obtain ⟨n, f', α', hn, hE, hR, -, -⟩ := Rel.reserves (had := had) (by omega) q B (by omega) [] f α L hr hs ho
  simp only [List.length_nil] at hn
  exact ⟨n, f', α', ⟨trivial, by omega⟩, (hE.bind (k := fun (o : Option (List Int)) => (Res.ret (⟨0, o.getD [], o.isSome, 0⟩ : V19) : Res LandS V19)) (Ev.ret _)), hR⟩
theorem do_reclaim (hl : LandOf w lb m c a b N L) (hs : L.Sm B) (hB : B < 100000000000) (h1N : 1 ≤ N) (hN : N ≤ 300) (ho : L.Ok had) (q : Nat) (hq : q ≤ 255) (k ia h tag : Int) (g : Option Addr) :
    Calls Try.prog 39 #[.agg #[.pointer (some ⟨lb, 0, none⟩), .int .u8 k, .int .u8 ia, .int .u8 q, .int .i64 h, .int .i64 tag, .pointer g, .int .u8 4]] w (Done19 w lb m c a b N (LS.reclaimGo q 0 L).2 ⟨0, [], false, ((LS.reclaimGo q 0 L).1 : Nat)⟩ fun _ => True) := by
  refine do_ev (call4_free N q) (fun B => runs4 B lb N k ia h tag q hq (by omega) (by omega)) g hl fun f α hr => ?_
  obtain ⟨n, f', α', hn, hE, hR, -, -⟩ := Rel.reclaims (had := had) h1N (by omega) q 0 f α L hr (hs.small hB) ho
  have hrl := hr.rl
  have e1 := (Ev.ld (f := f) (α := α) (i := 4) (len := 24 + 30 * N) (show 4 < 24 + 30 * N by omega)).bind (k := fun epoch => reclaimGo epoch N q 0) (by rw [hr.ep]; exact hE)
  exact ⟨1 + n, f', α', ⟨trivial, by omega⟩, ((e1.bind (k := fun k => .ret (⟨0, [], false, k⟩ : V19)) (Ev.ret _))), hR⟩
theorem do_epoch (hl : LandOf w lb m c a b N L) (k ia o h tag : Int) (hg : WfI tag) (g : Option Addr) :
    Calls Try.prog 39 #[.agg #[.pointer (some ⟨lb, 0, none⟩), .int .u8 k, .int .u8 ia, .int .u8 o, .int .i64 h, .int .i64 tag, .pointer g, .int .u8 5]] w (Done19 w lb m c a b N { L with epoch := tag } ⟨0, [], false, 0⟩ fun _ => True) := by
  refine do_ev (call5_free tag) (fun B => runs5 B lb N k ia o h tag hg) g hl fun f α hr => ?_
  obtain ⟨f', hE, hR⟩ := hr.epoch tag
  exact ⟨1, f', α, ⟨trivial, by omega⟩, (hE.bind (k := fun _ => .ret (⟨0, [], false, 0⟩ : V19)) (Ev.ret _)), hR⟩
end
end Go.Proofs.Ytldccemgfjmcdaa
