/- Layer 19: Reclaim. -/
import Derived.Test.YtldccemgfjmcdaaGive19
namespace Go.Proofs.Ytldccemgfjmcdaa
open Go.RowKit
set_option linter.unusedSimpArgs false
set_option linter.unusedVariables false

theorem rcu_free19 (tag ep : Int) (w : World) (h1 : (Lit.int .i64 tag).wf = true) (h2 : (Lit.int .i64 ep).wf = true) : Calls Try.prog 101 #[.int .i64 tag, .int .i64 ep] w fun e w' => e = .returned (.bool (decide (tag + 2 ≤ ep))) ∧ w = w' := by
  have b1 := bounds_i64 h1
  have b2 := bounds_i64 h2
  rcases Int.lt_or_le ep (-9223372036854775806) with h | h
  · have e : decide (tag + 2 ≤ ep) = false := by simp; omega
    have hn : ¬ (-9223372036854775806 : Int) ≤ ep := by omega
    rw [e]
    clear e h1 h2 b1 b2
    go_enter Try.func101, Try.ntmps101
    go_wp2
    go_ret
    exact ⟨rfl, rfl⟩
  · have hw : wrap64 (ep - 2) = ep - 2 := by unfold wrap64; omega
    have e : decide (tag ≤ wrap64 (ep - 2)) = decide (tag + 2 ≤ ep) := by
      rw [hw]
      congr 1
      apply propext
      omega
    have HE := Lib.hid e
    clear e h1 h2 b1 b2 hw
    go_enter Try.func101, Try.ntmps101
    go_wp2
    all_goals go_ret
    all_goals exact ⟨by rw [← HE.out]; rfl, rfl⟩
def reclaimGo (epoch n : Int) : Nat → Nat → Res LandS Int
  | 0, k => .ret (k : Int)
  | m + 1, k => (ldR 22).bind fun head => (ldR 23).bind fun tail => if head = tail then .ret (k : Int) else (ldR (ringAt n head)).bind fun h => (ldR (ringAt n head + 1)).bind fun tag => if tag + 2 ≤ epoch then (giveR h).bind fun _ => (stR 22 (wrap64 (head + 1))).bind fun _ => reclaimGo epoch n m (k + 1) else .ret (k : Int)
def reclaimR (n : Int) (most : Nat) : Res LandS Int := (ldR 4).bind fun epoch => reclaimGo epoch n most 0
theorem reclaimGo_good (epoch n : Int) : ∀ m k, (reclaimGo epoch n m k).Good WfL
  | 0, _ => trivial
  | m + 1, k => Good.bind (ld_good _) fun head => Good.bind (ld_good _) fun tail => by
    split
    · trivial
    · exact Good.bind (ld_good _) fun h => Good.bind (ld_good _) fun tag => by
        split
        · exact Good.bind (give_good _) fun _ => Good.bind (st_good _ (WfI.wrap _)) fun _ => reclaimGo_good epoch n m (k + 1)
        · trivial
theorem reclaim_good (n : Int) (most : Nat) : (reclaimR n most).Good WfL := Good.bind (ld_good _) fun _ => reclaimGo_good _ _ _ _
theorem reclaimGo_free (epoch n : Int) : ∀ m k, (reclaimGo epoch n m k).free
  | 0, _ => trivial
  | m + 1, k => Res.bind_free (ld_free _) fun head => Res.bind_free (ld_free _) fun tail => by
    split
    · trivial
    · exact Res.bind_free (ld_free _) fun h => Res.bind_free (ld_free _) fun tag => by
        split
        · exact Res.bind_free (give_free _) fun _ => Res.bind_free (st_free _ _) fun _ => reclaimGo_free epoch n m (k + 1)
        · trivial
theorem reclaim_free (n : Int) (most : Nat) : (reclaimR n most).free := Res.bind_free (ld_free _) fun _ => reclaimGo_free _ _ _ _
theorem Wk.ld4 {β : Type} {r0 : Res LandS β} {σ0 σ : LandS} {s0 s : TrS} {w0 w : World} {p : Pl} {lb : Nat} {n : Int} {F0 F : List Nat} {N : Nat} {f : Int → Res LandS β} (h : Wk r0 σ0 s0 w0 w p lb n F0 N ((ldR 4).bind f) σ s F) (hN : N ≤ 1000000) :
    Calls Try.prog 100 #[.pointer (some ⟨p.t, 0, none⟩), .int .i64 4] w (LdPost r0 σ0 s0 w0 p lb n F0 N f w F σ.ar) := by
  have C0 := Lib.hid (h.ld hN)
  clear h
  go_enter Try.func100, Try.ntmps100
  go_wp2_with fail
  refine C0.out.mono ?_
  rintro e w1 ⟨v, σ1, s1, F1, rfl, hr⟩
  have HR := Lib.hid hr
  clear hr C0
  go_wp2
  go_ret
  exact ⟨v, σ1, s1, F1, rfl, HR.out⟩
def NV19 : World → Int → Value → Prop := Val fun v => .int .i64 v
set_option maxRecDepth 100000 in
set_option maxHeartbeats 8000000 in
theorem replace_reclaim (most : Nat) (hm : most ≤ 10000) (p : Pl) (lb : Nat) (n : Int) (σ : LandS) (s : TrS) (F : List Nat) (N : Nat) (w : World) (ht : TL w p σ s F) (hi : s.In N) (hN : N ≤ 1000000) (hov : s.over = false)
    (hl : Blk w lb 93 #[.pointer (some ⟨p.m, 0, none⟩), .pointer (some ⟨p.a, 0, none⟩), .int .i64 n]) (hf : lb ∉ p.all F) (h1 : 1 ≤ n) (h2 : n ≤ 1000) :
    Calls Try.prog 89 #[.pointer (some ⟨p.t, 0, none⟩), .pointer (some ⟨lb, 0, none⟩), .int .i64 most] w (DoesL NV19 w p σ s F (reclaimR n most)) := by
  have W0 := Lib.hid (Wk.start ht hi hov hl hf (reclaimR n most))
  have HN1 := Lib.hid h1
  have HN2 := Lib.hid h2
  clear ht hi hov hl hf h1 h2
  have C0 := Lib.hid (W0.out.ld4 hN)
  go_enter Try.func89, Try.ntmps89
  go_wp2_with fail
  refine C0.out.mono ?_
  rintro e w1 ⟨ep, σ1, s1, F1, rfl, hep, hw, -, -⟩
  have W1 := Lib.hid hw
  have HEP := Lib.hid hep
  clear hw hep C0 W0
  go_wp2_with fail
  go_loopw [8] (fun v wr => ∃ (k : Nat) (σ' : LandS) (s' : TrS) (F' : List Nat), k ≤ most ∧ v = .int .i64 k ∧ Wk (reclaimR n most) σ s w wr p lb n F N (reclaimGo ep n (most - k) k) σ' s' F') (fun v _ => most - (intOf v).toNat)
  case atStart => exact ⟨0, σ1, s1, F1, Nat.zero_le _, rfl, W1.out⟩
  case round =>
    clear W1
    obtain ⟨k, σ2, s2, F2, hk, rfl, hw⟩ := hrel
    have W2 := Lib.hid hw
    have HD := Lib.hid hw.dry_ok
    clear hw
    by_cases hlt : k < most
    · cases hdr : s2.dry with
      | true =>
        rw [hdr] at HD
        go_wp2_with fail
        refine HD.out.mono ?_
        rintro e w3 ⟨rfl, rfl⟩
        clear HD
        have HE := Lib.hid (W2.out.ends_dry hdr (0 : Int) (R := NV19) (x := .int .i64 0) rfl)
        have HD2 := Lib.hid (W2.out.dry_ok)
        rw [hdr] at HD2
        clear W2 hdr
        go_wp2_with fail
        refine HD2.out.mono ?_
        rintro e w9 ⟨rfl, rfl⟩
        go_wp2
        go_ret
        exact HE.out
      | false =>
        rw [hdr] at HD
        have W3 := Lib.hid (W2.out.eq (show reclaimGo ep n (most - k) k = (ldR 22).bind fun head => (ldR 23).bind fun tail => if head = tail then .ret (k : Int) else (ldR (ringAt n head)).bind fun h => (ldR (ringAt n head + 1)).bind fun tag => if tag + 2 ≤ ep then (giveR h).bind fun _ => (stR 22 (wrap64 (head + 1))).bind fun _ => reclaimGo ep n (most - (k + 1)) (k + 1) else .ret (k : Int) by rw [show most - k = (most - (k + 1)) + 1 by omega]; rfl))
        have C1 := Lib.hid (W3.out.ld hN)
        clear W2 hdr
        go_wp2_with fail
        refine HD.out.mono ?_
        rintro e w3 ⟨rfl, rfl⟩
        go_wp2_with fail
        refine C1.out.mono ?_
        rintro e w3 ⟨head, σ3, s3, F3, rfl, hhd, hw, -, -⟩
        have W4 := Lib.hid hw
        have HHD := Lib.hid hhd
        have C2 := Lib.hid (W4.out.ld hN)
        clear hw hhd C1 W3 HD
        go_wp2_with fail
        refine C2.out.mono ?_
        rintro e w4 ⟨tail, σ4, s4, F4, rfl, htl, hw, -, -⟩
        have W5 := Lib.hid hw
        clear hw htl C2 W4
        by_cases heq : head = tail
        · have W6 := Lib.hid (W5.out.eq (if_pos heq))
          have heb : (head == tail) = true := by rw [beq_iff_eq]; exact heq
          clear W5 heq
          cases hdr : s4.dry with
          | true =>
            have HE := Lib.hid (W6.out.ends_dry hdr (0 : Int) (R := NV19) (x := .int .i64 0) rfl)
            have HD2 := Lib.hid (W6.out.dry_ok)
            rw [hdr] at HD2
            clear W6 hdr
            go_wp2_with fail
            refine HD2.out.mono ?_
            rintro e w9 ⟨rfl, rfl⟩
            go_wp2
            go_ret
            exact HE.out
          | false =>
            have HE := Lib.hid (W6.out.ends (R := NV19) (x := .int .i64 (k : Int)) rfl)
            have HD2 := Lib.hid (W6.out.dry_ok)
            rw [hdr] at HD2
            clear W6 hdr
            go_wp2_with fail
            refine HD2.out.mono ?_
            rintro e w9 ⟨rfl, rfl⟩
            go_wp2
            go_ret
            exact HE.out
        · have W6 := Lib.hid (W5.out.eq (if_neg heq))
          have heb : (head == tail) = false := by rw [beq_eq_false_iff_ne]; exact heq
          clear W5 heq
          have HR := Lib.hid (replace_ring head p lb n w4 W6.out.land HN1.out HN2.out HHD.out)
          have HB := ringAt_lo HN1.out HN2.out head
          obtain ⟨at_, hat⟩ : ∃ x, ringAt n head = x := ⟨_, rfl⟩
          rw [hat] at HR HB W6
          obtain ⟨hb1, hb2⟩ := HB
          have C3 := Lib.hid (W6.out.ld hN)
          clear hat
          go_wp2_with fail
          refine HR.out.mono ?_
          rintro e w5 ⟨rfl, rfl⟩
          go_wp2_with fail
          refine C3.out.mono ?_
          rintro e w5 ⟨h, σ5, s5, F5, rfl, hh, hw, -, -⟩
          have W7 := Lib.hid hw
          have HH := Lib.hid hh
          have C4 := Lib.hid (W7.out.ld hN)
          clear hw hh C3 W6 HR
          go_wp2_with fail
          refine C4.out.mono ?_
          rintro e w6 ⟨tag, σ6, s6, F6, rfl, htg, hw, -, -⟩
          have W8 := Lib.hid hw
          have HD6 := Lib.hid hw.dry_ok
          have HFE := Lib.hid (rcu_free19 tag ep w6 htg HEP.out)
          clear hw htg C4 W7
          cases hdr : s6.dry with
          | true =>
            rw [hdr] at HD6
            go_wp2_with fail
            refine HD6.out.mono ?_
            rintro e w7 ⟨rfl, rfl⟩
            clear HD6
            have HE := Lib.hid (W8.out.ends_dry hdr (0 : Int) (R := NV19) (x := .int .i64 0) rfl)
            have HD2 := Lib.hid (W8.out.dry_ok)
            rw [hdr] at HD2
            clear W8 hdr
            go_wp2_with fail
            refine HD2.out.mono ?_
            rintro e w9 ⟨rfl, rfl⟩
            go_wp2
            go_ret
            exact HE.out
          | false =>
            rw [hdr] at HD6
            by_cases hfr : tag + 2 ≤ ep
            · have W9 := Lib.hid (W8.out.eq (if_pos hfr))
              rw [decide_eq_true hfr] at HFE
              have HG := Lib.hid (replace_give h p lb n σ6 s6 F6 N w6 W9.out.at_.tl W9.out.at_.inn hN W9.out.at_.over W9.out.land W9.out.far HH.out)
              clear W8 hfr hdr
              go_wp2_with fail
              refine HD6.out.mono ?_
              rintro e w7 ⟨rfl, rfl⟩
              go_wp2_with fail
              refine HFE.out.mono ?_
              rintro e w7 ⟨rfl, rfl⟩
              go_wp2_with fail
              refine HG.out.mono ?_
              rintro e w7 hd
              obtain ⟨u, y, σ7, s7, F7, rfl, rfl, hw, hkp⟩ := W9.out.call hd
              have W10 := Lib.hid hw
              have C5 := Lib.hid (W10.out.st (WfI.wrap _) hN)
              clear hw hkp hd HG W9 HD6 HFE
              go_wp2_with fail
              refine C5.out.mono ?_
              rintro e w8 ⟨rfl, σ8, s8, F8, hw, -, -⟩
              have W11 := Lib.hid hw
              clear hw C5 W10
              go_wp2
              go_roundw
              case rel => exact ⟨k + 1, σ8, s8, F8, by omega, by go_num, W11.out⟩
              case measure => simp [intOf]; omega
            · have W9 := Lib.hid (W8.out.eq (if_neg hfr))
              rw [decide_eq_false hfr] at HFE
              clear W8 hfr
              go_wp2_with fail
              refine HD6.out.mono ?_
              rintro e w7 ⟨rfl, rfl⟩
              go_wp2_with fail
              refine HFE.out.mono ?_
              rintro e w7 ⟨rfl, rfl⟩
              clear HD6 HFE
              have HE := Lib.hid (W9.out.ends (R := NV19) (x := .int .i64 (k : Int)) rfl)
              have HD2 := Lib.hid (W9.out.dry_ok)
              rw [hdr] at HD2
              clear W9 hdr
              go_wp2_with fail
              refine HD2.out.mono ?_
              rintro e w9 ⟨rfl, rfl⟩
              go_wp2
              go_ret
              exact HE.out
    · have hkm : k = most := by omega
      have W3 := Lib.hid (W2.out.eq (show reclaimGo ep n (most - k) k = .ret (k : Int) by rw [hkm, Nat.sub_self]; rfl))
      subst hkm
      clear W2 HD
      cases hdr : s2.dry with
      | true =>
        have HE := Lib.hid (W3.out.ends_dry hdr (0 : Int) (R := NV19) (x := .int .i64 0) rfl)
        have HD2 := Lib.hid (W3.out.dry_ok)
        rw [hdr] at HD2
        clear W3 hdr
        go_wp2_with fail
        refine HD2.out.mono ?_
        rintro e w9 ⟨rfl, rfl⟩
        go_wp2
        go_ret
        exact HE.out
      | false =>
        have HE := Lib.hid (W3.out.ends (R := NV19) (x := .int .i64 (k : Int)) rfl)
        have HD2 := Lib.hid (W3.out.dry_ok)
        rw [hdr] at HD2
        clear W3 hdr
        go_wp2_with fail
        refine HD2.out.mono ?_
        rintro e w9 ⟨rfl, rfl⟩
        go_wp2
        go_ret
        exact HE.out
end Go.Proofs.Ytldccemgfjmcdaa
