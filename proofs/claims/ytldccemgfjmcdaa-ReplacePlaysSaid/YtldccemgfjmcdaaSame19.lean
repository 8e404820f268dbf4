/- Law 19: same: a land that has what the reference's has. -/
import Derived.Test.YtldccemgfjmcdaaRefN19
namespace Go.Proofs.Ytldccemgfjmcdaa
open Go.RowKit
set_option linter.unusedSimpArgs false
set_option linter.unusedVariables false

section
variable {N : Nat} {f : Nat → Int} {α : ArS} {σ : LandS} {L : LS} {w : World} {lb m c a b : Nat}
theorem nodup_le : ∀ (N : Nat) (l : List Nat), l.Nodup → (∀ s ∈ l, 1 ≤ s ∧ s ≤ N) → l.length ≤ N
  | 0, l, _, h => by
    cases l with
    | nil => exact Nat.le_refl _
    | cons x l => have := h x (by simp); omega
  | N + 1, l, hn, h => by
    by_cases hm : N + 1 ∈ l
    · have ih := nodup_le N (l.erase (N + 1)) (hn.erase _) (fun s hs => by
        have h1 := h s (List.mem_of_mem_erase hs)
        have h2 : s ≠ N + 1 := fun e => by subst e; exact (hn.not_mem_erase) hs
        omega)
      rw [List.length_erase_of_mem hm] at ih
      omega
    · have ih := nodup_le N l hn (fun s hs => by
        have h1 := h s hs
        have h2 : s ≠ N + 1 := fun e => by subst e; exact hm hs
        omega)
      omega
theorem nums_atL {xs : List Int} {i : Nat} (h : i < xs.length) : (xs.map (Value.int .i64))[i]? = some (.int .i64 (xs.getD i 0)) := by simp [List.getElem?_map, List.getElem?_eq_getElem h, List.getD_eq_getElem?_getD]
theorem list_one {l : List Int} {x : Int} (h : l.length = 1) (h0 : l.getD 0 0 = x) : l = [x] := by
  match l, h, h0 with
  | [y], _, h0 => simp at h0; rw [h0]
theorem list_two {l : List Int} {x y : Int} (h : l.length = 2) (h0 : l.getD 0 0 = x) (h1 : l.getD 1 0 = y) : l = [x, y] := by
  match l, h, h0, h1 with
  | [u, v], _, h0, h1 => simp at h0 h1; rw [h0, h1]
theorem MemIs.look1 {μ : MemS} {len : Nat} (h : MemIs μ len f) {i : Nat} (hi : i < len) : μ.look (i : Int) 1 = [f i] := by
  obtain ⟨h1, h2⟩ := h.look (i := i) (n := 1) (by omega)
  exact list_one h1 (h2 0 (by omega))
theorem MemIs.look2 {μ : MemS} {len : Nat} (h : MemIs μ len f) {i : Nat} (hi : i + 1 < len) : μ.look (i : Int) 2 = [f i, f (i + 1)] := by
  obtain ⟨h1, h2⟩ := h.look (i := i) (n := 2) (by omega)
  exact list_two h1 (h2 0 (by omega)) (h2 1 (by omega))
theorem LIs.top (h : LIs σ (24 + 30 * N) f α) : (σ.mu.look 0 24).length = 24 ∧ ∀ k, k < 24 → ((σ.mu.look 0 24).map (Value.int .i64))[k]? = some (.int .i64 (f k)) := by
  obtain ⟨h1, h2⟩ := h.1.look (i := 0) (n := 24) (by omega)
  have h1' : (σ.mu.look 0 24).length = 24 := h1
  refine ⟨h1', fun k hk => ?_⟩
  rw [nums_atL (by omega)]
  have h3 : (σ.mu.look 0 24).getD k 0 = f (0 + k) := h2 k hk
  rw [h3, Nat.zero_add]
theorem LandOf.right_is (h : LandOf w lb m c a b N L) (hs : Small L) (hN : N ≤ 1000) {s : Nat} (h1 : 1 ≤ s) (h2 : s ≤ N) {hd : Int} (he : hd = L.gen.getD (s - 1) 0 * 65536 + s) :
    Calls Try.prog 40 #[.pointer (some ⟨a, 0, none⟩), .int .i64 hd] w fun e w' => e = .returned (.bool (L.live.getD (s - 1) false)) ∧ w = w' := by
  have hgl := h.lens
  have hb := getD_small (i := s - 1) hs.1
  have hll : L.live.length = N := by obtain ⟨_, _, _, _, _, h3⟩ := h.land; exact h3.ll
  cases hlv : L.live.getD (s - 1) false with
  | true => exact h.right hs hN ⟨h1, by omega, hlv, he⟩
  | false =>
    refine h.wrong hs hN h1 h2 he hb ?_
    rw [List.getD_eq_getElem?_getD, List.getElem?_eq_getElem (show s - 1 < L.live.length by omega)] at hlv ⊢
    simpa using hlv
end
theorem Calls.turn {P : Program} {f : FuncId} {args : Array Value} {w : World} {v : Value} (h : Calls P f args w fun e w' => e = .returned v ∧ w = w') : Calls P f args w fun e w' => e = .returned v ∧ w' = w := h.mono fun _ _ ⟨h1, h2⟩ => ⟨h1, h2.symm⟩
set_option maxRecDepth 100000 in
set_option maxHeartbeats 4000000 in
theorem same19 (lb m c a b N B rb : Nat) (L : LS) (X : List Nat) (w : World) (hl : LandOf w lb m c a b N L) (h1N : 1 ≤ N) (hN : N ≤ 1000) (hs : Small L) (h : Ref19 w B rb L X) :
    Calls Try.prog 49 #[.pointer (some ⟨lb, 0, none⟩), .pointer (some ⟨rb, 0, none⟩)] w fun e w' => e = .returned (.bool true) ∧ Below w.heap.size w w' := by
  have hlen := hl.lens
  subst hlen
  have HLO := Lib.hid hl
  obtain ⟨A1, c1, A2, c2, A3, c3, A4, c4, hg⟩ := h
  have HG := Lib.hid hg
  obtain ⟨σ, f, α, hla, hli, hr⟩ := hl.land
  have HL := Lib.hid hla
  have HLB := Lib.hid hl.top
  have HR := Lib.hid hr
  have HI := Lib.hid hli
  have HSM := Lib.hid hs
  have hepoch := hs.2.2
  have hput := hs.2.1
  have hpo := hr.po
  have ho0 := hr.o0
  have hrl := hr.rl
  have hNi : (L.gen.length : Int) ≤ 1000 := by omega
  have hfl : L.free.length ≤ 1000 := Nat.le_trans (nodup_le _ _ hr.nodup fun s hs => ⟨(hr.fr s hs).1, (hr.fr s hs).2.1⟩) hN
  have h1i : (1 : Int) ≤ L.gen.length := by omega
  have hli2 : (L.live.length : Int) = L.gen.length := by have := hr.ll; omega
  have HB := Lib.hid (Below.refl w.heap.size w)
  clear hl hg hla hli hr hs
  obtain ⟨d0, d1, d2⟩ := HLB.out.at3
  go_enter Try.func49, Try.ntmps49
  have HTOP := Lib.hid HI.out.top
  have HK := Lib.hid (cell_look_as m c σ.mu 0 24 _ 24 rfl HTOP.out.1 w HL.out.mem)
  go_wp2_with fail
  refine HK.out.mono ?_
  rintro e w1 ⟨g, gc, rfl, -, hrow, hb⟩
  have HROW := Lib.hid hrow
  have HB1 := Lib.hid hb
  clear HK hrow hb d0 d1 d2
  have t4 : w1.cell? ⟨g, 4, none⟩ = some (.int .i64 L.epoch) := HROW.out.cell ((HTOP.out.2 4 (by omega)).trans (by rw [HR.out.ep]))
  have t22 : w1.cell? ⟨g, 22, none⟩ = some (.int .i64 L.out) := HROW.out.cell ((HTOP.out.2 22 (by omega)).trans (by rw [HR.out.o]))
  have t23 : w1.cell? ⟨g, 23, none⟩ = some (.int .i64 L.put) := HROW.out.cell ((HTOP.out.2 23 (by omega)).trans (by rw [HR.out.p]))
  have t21 : w1.cell? ⟨g, 21, none⟩ = some (.int .i64 (L.free.getD 0 0 : Nat)) := HROW.out.cell ((HTOP.out.2 21 (by omega)).trans (by rw [HR.out.head]; cases L.free <;> rfl))
  clear HROW
  have HG1 := Lib.hid (HG.out.thru HB1.out)
  have k1 := HG1.out.field (k := 1) rfl
  simp only [FRow.val] at k1
  have k4 := HG1.out.blk.at_ (i := 4) (v := .int .i64 L.out) rfl
  have k5 := HG1.out.blk.at_ (i := 5) (v := .int .i64 L.put) rfl
  have k6 := HG1.out.blk.at_ (i := 6) (v := .int .i64 L.epoch) rfl
  obtain ⟨d0, d1, d2⟩ := (Blk.thru HLB.out HB1.out).at3
  go_upto_region 2 with fail
  go_quiet (fail)
  go_upto_region 4 with fail
  have HB2 := Lib.hid (show Below w.heap.size w (w1.drewN nq) from below_thru HB1.out (below_drewN0 w1 nq))
  replace t21 : (w1.drewN nq).cell? ⟨g, 21, none⟩ = some (.int .i64 (L.free.getD 0 0 : Nat)) := t21
  clear HB1 HG1 k1 k4 k5 k6 d0 d1 d2 t4 t22 t23 HTOP
  generalize w1.drewN nq = w2 at *
  go_wp2_with fail
  go_loopw [6, 7] (fun x i wr => ∃ k : Nat, k ≤ L.free.length ∧ x = .int .i64 (L.free.getD k 0 : Nat) ∧ i = .int .i64 k ∧ Below w.heap.size w wr) (fun _ i _ => L.free.length - (intOf i).toNat)
  case atStart => exact ⟨0, Nat.zero_le _, rfl, rfl, HB2.out⟩
  case round =>
    clear HB2 t21
    obtain ⟨k, hk, rfl, rfl, hb⟩ := hrel
    have HB := Lib.hid hb
    have HGR := Lib.hid (HG.out.thru hb)
    have k0 := HGR.out.field (k := 0) rfl
    simp only [FRow.val] at k0
    clear hb
    by_cases hlt : k < L.free.length
    · have hki : (k : Int) < L.free.length := by omega
      obtain ⟨s, hs⟩ : ∃ s, L.free[k]? = some s := ⟨_, List.getElem?_eq_getElem hlt⟩
      obtain ⟨s1, s2, -⟩ := HR.out.fr s (List.mem_of_getElem? hs)
      have hsk : L.free.getD k 0 = s := by rw [List.getD_eq_getElem?_getD, hs]; rfl
      rw [hsk]
      obtain ⟨g1, rfl, e1, -⟩ := HGR.out.elem (k := 0) (r := ⟨3, 1, A1, c1, L.free.length, frees L.free⟩) rfl (j := k) (frees_at hs)
      have hcell : σ.ar.cell (s : Int) 0 = (cl L.gen.length s 0 : Nat) := by
        rw [HI.out.2]
        exact HR.out.cell (wd := 0) s1 s2 (by omega) (by unfold slotOf; rw [if_neg (by omega)]; omega)
      have hlook : σ.mu.look (σ.ar.cell (s : Int) 0) 1 = [((L.free.getD (k + 1) 0 : Nat) : Int)] := by
        rw [hcell, HI.out.1.look1 (cl_lt (wd := 0) s1 s2 (by omega)).1, HR.out.chain k s hs]
      have HC := Lib.hid (Calls.turn (arena_cell a b σ.ar (s : Int) 0 wr.drew ((HL.out.thru HB.out).ar.drewN 1) (by omega)))
      have HK := Lib.hid (cell_look_as m c σ.mu (σ.ar.cell (s : Int) 0) 1 _ 1 hlook rfl wr.drew ((HL.out.thru HB.out).mem.drewN 1))
      obtain ⟨d0, d1, d2⟩ := (Blk.drew (Blk.thru HLB.out HB.out)).at3
      have hnx : (((L.free.getD (k + 1) 0 : Nat) : Int)) = (((L.free.getD (k + 1) 0 : Nat) : Int)) := rfl
      clear hs hsk hcell hlook hnx
      obtain ⟨y, hy⟩ : ∃ y : Nat, L.free.getD (k + 1) 0 = y := ⟨_, rfl⟩
      rw [hy] at HK
      have HY := Lib.hid hy
      clear hy
      go_upto_region 10 with fail
      refine wp_region_still_tail 10 (by kernel_rfl) (by kernel_rfl) ?_
      simp only [List.take_succ_cons, List.take_zero, List.drop_succ_cons, List.drop_zero]
      repeat (first | still_call (HC.out) | still_step)
      try refine wpStill_nil ?_
      change wpList _ _ _ _ _ (wr).drew
      clear d0 d1 d2 HC
      go_wp2_with fail
      refine HK.out.mono ?_
      rintro e w3 ⟨g3, gc3, rfl, -, hrow, hb⟩
      have q0 : w3.cell? ⟨g3, 0, none⟩ = some (.int .i64 (y : Int)) := hrow.cell rfl
      have HB3 := Lib.hid (below_thru HB.out (below_thru (below_drewN0 wr 1) hb))
      clear HK hrow hb k0 e1 HGR
      go_wp2
      go_roundw
      case rel => exact ⟨k + 1, by omega, by rw [HY.out], by go_num, HB3.out⟩
      case measure => simp [intOf]; omega
    · obtain rfl : k = L.free.length := by omega
      rw [show ((L.free.getD L.free.length 0 : Nat) : Int) = 0 by rw [List.getD_eq_getElem?_getD, List.getElem?_eq_none (Nat.le_refl _)]; rfl]
      go_wp2_with fail
      clear k0 HGR
      go_loopw [9] (fun i wr => ∃ k : Nat, k ≤ L.gen.length ∧ i = .int .i64 k ∧ Below w.heap.size w wr) (fun i _ => L.gen.length - (intOf i).toNat)
      case atStart => exact ⟨0, Nat.zero_le _, rfl, HB.out⟩
      case round =>
        clear HB
        obtain ⟨k, hk, rfl, hb⟩ := hrel
        have HB := Lib.hid hb
        have HGR := Lib.hid (HG.out.thru hb)
        have k1 := HGR.out.field (k := 1) rfl
        simp only [FRow.val] at k1
        clear hb hk
        by_cases hlt : k < L.gen.length
        · have hki : (k : Int) < L.gen.length := by omega
          obtain ⟨g2, rfl, e2, -⟩ := HGR.out.elem (k := 1) (r := ⟨2, 1, A2, c2, L.gen.length, i64s L.gen⟩) rfl (j := k) (i64s_at hlt)
          have hsm := getD_small (i := k) HSM.out.1
          have hcell : σ.ar.cell ((k : Int) + 1) 27 = (cl L.gen.length (k + 1) 27 : Nat) := by
            rw [HI.out.2]
            exact HR.out.cell (wd := 27) (by omega) (by omega) (by omega) (by unfold slotOf; rw [if_neg (by omega)]; omega)
          have hlook : σ.mu.look (σ.ar.cell ((k : Int) + 1) 27) 1 = [L.gen.getD k 0] := by
            rw [hcell, HI.out.1.look1 (cl_lt (wd := 27) (by omega) (by omega) (by omega)).1, HR.out.gens k hlt]
          have HC := Lib.hid (Calls.turn (arena_cell a b σ.ar ((k : Int) + 1) 27 wr.drew ((HL.out.thru HB.out).ar.drewN 1) (by omega)))
          have HK := Lib.hid (cell_look_as m c σ.mu (σ.ar.cell ((k : Int) + 1) 27) 1 _ 1 hlook rfl wr.drew ((HL.out.thru HB.out).mem.drewN 1))
          have HRI := Lib.hid (fun wx (hb : Below w.heap.size w wx) => (HLO.out.thru hb).right_is HSM.out hN (s := k + 1) (by omega) (by omega) (hd := L.gen.getD k 0 * 65536 + ((k : Int) + 1)) (by simp))
          clear hcell hlook
          simp only [Nat.add_sub_cancel] at HRI
          obtain ⟨y, hy⟩ : ∃ y : Int, L.gen.getD k 0 = y := ⟨_, rfl⟩
          rw [hy] at HK e2 hsm HRI
          have HY := Lib.hid hy
          clear hy
          obtain ⟨v, hv⟩ : ∃ v, L.live.getD k false = v := ⟨_, rfl⟩
          rw [hv] at HRI
          have HV := Lib.hid hv
          clear hv
          have ew : IntKind.i64.wrap ((k : Int) + 1) = (k : Int) + 1 := IntWalk.i64_in _ (by omega)
          go_upto_region 20 with fail
          obtain ⟨d0, d1, d2⟩ := (Blk.drew (Blk.thru HLB.out HB.out)).at3
          refine wp_region_still_tail 11 (by kernel_rfl) (by kernel_rfl) ?_
          simp only [List.take_succ_cons, List.take_zero, List.drop_succ_cons, List.drop_zero]
          repeat (first | still_call (HC.out) | still_step)
          try refine wpStill_nil ?_
          change wpList _ _ _ _ _ (wr).drew
          clear d0 d1 d2 HC ew
          go_wp2_with fail
          refine HK.out.mono ?_
          rintro e w3 ⟨g3, gc3, rfl, -, hrow, hb⟩
          have q0 : w3.cell? ⟨g3, 0, none⟩ = some (.int .i64 y) := hrow.cell rfl
          have HB3 := Lib.hid (below_thru HB.out (below_thru (below_drewN0 wr 1) hb))
          clear HK hrow hb k1 e2 HGR
          have HG3 := Lib.hid (HG.out.thru HB3.out)
          have k1 := HG3.out.field (k := 1) rfl
          have k2 := HG3.out.field (k := 2) rfl
          simp only [FRow.val] at k1 k2
          obtain ⟨g2', hg2, e2, -⟩ := HG3.out.elem (k := 1) (r := ⟨2, 1, some ⟨g2, 0, none⟩, c2, L.gen.length, i64s L.gen⟩) rfl (j := k) (i64s_at hlt)
          injection hg2 with hg2
          injection hg2 with hg2
          subst hg2
          obtain ⟨g4, rfl, e4, -⟩ := HG3.out.elem (k := 2) (r := ⟨4, 1, A3, c3, L.live.length, L.live.map Value.bool⟩) rfl (j := k) (bools_at (by omega))
          rw [HV.out] at e4
          rw [show L.gen.getD k 0 = y from HY.out] at e2
          have hkl : (k : Int) < L.live.length := by omega
          obtain ⟨d0, d1, d2⟩ := (Blk.thru HLB.out HB3.out).at3
          go_upto_region 21 with fail
          go_quiet ((first | (go_at_call 40; exact quiet_own19 (HRI.out _ (below_thru HB3.out (below_drewN0 w3 _))))))
          go_wp2
          go_roundw
          case rel => exact ⟨k + 1, by omega, by go_num, below_thru HB3.out (below_drewN0 w3 _)⟩
          case measure => simp [intOf]; omega
        · go_wp2_with fail
          clear k1 HGR hlt
          go_loopw [12] (fun i wr => ∃ k : Nat, k ≤ L.ring.length ∧ i = .int .i64 k ∧ Below w.heap.size w wr) (fun i _ => L.ring.length - (intOf i).toNat)
          case atStart => exact ⟨0, Nat.zero_le _, rfl, HB.out⟩
          case round =>
            clear HB
            obtain ⟨k, hk, rfl, hb⟩ := hrel
            have HB := Lib.hid hb
            have HGR := Lib.hid (HG.out.thru hb)
            have k3 := HGR.out.field (k := 3) rfl
            have k4 := HGR.out.blk.at_ (i := 4) (v := .int .i64 L.out) rfl
            simp only [FRow.val] at k3
            clear hb hk
            obtain ⟨d0, d1, d2⟩ := (Blk.thru HLB.out HB.out).at3
            by_cases hlt : k < L.ring.length
            · have hki : (k : Int) < L.ring.length := by omega
              obtain ⟨ev, hev⟩ : ∃ ev, L.ring[k]? = some ev := ⟨_, List.getElem?_eq_getElem hlt⟩
              have hrg := HR.out.rg k ev hev
              have b1 := Int.emod_lt_of_pos (L.out + k) (show (0 : Int) < L.gen.length by omega)
              have b2 := Int.emod_nonneg (L.out + k) (show (L.gen.length : Int) ≠ 0 by omega)
              obtain ⟨q, hq⟩ : ∃ q : Nat, ((L.out + k) % L.gen.length).toNat = q := ⟨_, rfl⟩
              rw [hq] at hrg
              have hql : q < L.gen.length := by omega
              have hlook : σ.mu.look (24 + 2 * (q : Int)) 2 = [ev.1, ev.2] := by
                have := HI.out.1.look2 (i := 24 + 2 * q) (by omega)
                rw [show (24 + 2 * (q : Int)) = ((24 + 2 * q : Nat) : Int) by omega, this, hrg.1, show 24 + 2 * q + 1 = 25 + 2 * q by omega, hrg.2]
              have HK := Lib.hid (cell_look_as m c σ.mu (24 + 2 * (q : Int)) 2 _ 2 hlook rfl wr.drew ((HL.out.thru HB.out).mem.drewN 1))
              have htm : (L.out + (k : Int)).tmod (L.gen.length : Int) = (q : Int) := by rw [Int.tmod_eq_emod_of_nonneg (by omega)]; omega
              have ew1 : IntKind.i64.wrap (L.out + (k : Int)) = L.out + (k : Int) := IntWalk.i64_in _ (by omega)
              have ew2 : IntKind.i64.wrap (2 * (q : Int)) = 2 * (q : Int) := IntWalk.i64_in _ (by omega)
              have ew3 : IntKind.i64.wrap (24 + 2 * (q : Int)) = 24 + 2 * (q : Int) := IntWalk.i64_in _ (by omega)
              have ew4 : IntKind.i64.wrap (q : Int) = (q : Int) := IntWalk.i64_in _ (by omega)
              have hnz : ¬ L.gen = [] := fun e => by rw [e] at h1i; simp at h1i
              have hr0 : (L.ring.flatMap keptCells)[k * 2 + 0]? = some (.int .i64 ev.1) := (flat_get (f := keptCells) (z := 2) (fun _ => rfl) _ _ _ 0 hev (by decide)).trans rfl
              have hr1 : (L.ring.flatMap keptCells)[k * 2 + 1]? = some (.int .i64 ev.2) := (flat_get (f := keptCells) (z := 2) (fun _ => rfl) _ _ _ 1 hev (by decide)).trans rfl
              have HR0 := Lib.hid hr0
              have HR1 := Lib.hid hr1
              clear hrg hlook hev hq b1 b2 hr0 hr1
              go_upto_region 26 with fail
              refine wp_region_still_tail 17 (by kernel_rfl) (by kernel_rfl) ?_
              simp only [List.take_succ_cons, List.take_zero, List.drop_succ_cons, List.drop_zero]
              repeat still_step
              try refine wpStill_nil ?_
              change wpList _ _ _ _ _ wr.drew
              clear ew1 ew2 ew3 ew4 htm d0 d1 d2 hnz
              go_wp2_with fail
              refine HK.out.mono ?_
              rintro e w3 ⟨g3, gc3, rfl, -, hrow, hb⟩
              have q0 : w3.cell? ⟨g3, 0, none⟩ = some (.int .i64 ev.1) := hrow.cell rfl
              have q1 : w3.cell? ⟨g3, 1, none⟩ = some (.int .i64 ev.2) := hrow.cell rfl
              have HB3 := Lib.hid (below_thru HB.out (below_thru (below_drewN0 wr 1) hb))
              clear HK hrow hb k3 k4 HGR
              have HG3 := Lib.hid (HG.out.thru HB3.out)
              have k3 := HG3.out.field (k := 3) rfl
              simp only [FRow.val] at k3
              obtain ⟨g2, rfl, e2, -⟩ := HG3.out.elem (k := 3) (r := ⟨141, 2, A4, c4, L.ring.length, L.ring.flatMap keptCells⟩) rfl (j := k * 2 + 0) HR0.out
              obtain ⟨g2', hg2, e3, -⟩ := HG3.out.elem (k := 3) (r := ⟨141, 2, some ⟨g2, 0, none⟩, c4, L.ring.length, L.ring.flatMap keptCells⟩) rfl (j := k * 2 + 1) HR1.out
              injection hg2 with hg2
              injection hg2 with hg2
              subst hg2
              simp only [Nat.add_zero] at e2
              go_upto_region 27 with fail
              go_quiet (fail)
              go_wp2
              go_roundw
              case rel => exact ⟨k + 1, by omega, by go_num, below_thru HB3.out (below_drewN0 w3 _)⟩
              case measure => simp [intOf]; omega
            · have HST := Lib.hid (arena_stale a b σ.ar wr (HL.out.thru HB.out).ar)
              have HDB := Lib.hid (arena_double a b σ.ar wr (HL.out.thru HB.out).ar)
              rw [HI.out.2, HR.out.clean.1] at HST
              rw [HI.out.2, HR.out.clean.2] at HDB
              go_wp2_with fail
              refine HST.out.mono ?_
              rintro e w3 ⟨rfl, rfl⟩
              go_wp2_with fail
              refine HDB.out.mono ?_
              rintro e w3 ⟨rfl, rfl⟩
              go_wp2
              go_ret
              exact ⟨rfl, HB.out⟩
end Go.Proofs.Ytldccemgfjmcdaa
