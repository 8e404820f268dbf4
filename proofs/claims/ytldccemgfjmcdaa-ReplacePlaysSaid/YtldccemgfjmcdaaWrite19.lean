/- Layer 19: Write. -/
import Derived.Test.YtldccemgfjmcdaaGive19
import Derived.Test.YtldccemgfjmcdaaArgs
namespace Go.Proofs.Ytldccemgfjmcdaa
open Go.RowKit
set_option linter.unusedSimpArgs false
set_option linter.unusedVariables false

/-- Numbers that lie apart. -/
structure IntsOff (w : World) (a : Option Addr) (len cap : Nat) (zs : List Int) (X : List Nat) : Prop where
  ints : Ints w a len cap zs
  off : zs = [] ∨ ∃ b o, a = some ⟨b, o, none⟩ ∧ b < w.heap.size ∧ b ∉ X
section
variable {w w' : World} {a : Option Addr} {len cap : Nat} {zs : List Int} {p : Pl} {F F' : List Nat}
theorem IntsOff.keep (h : IntsOff w a len cap zs (p.all F)) (hk : Keeps w w' p F F') : IntsOff w' a len cap zs (p.all F') := by
  rcases h.off with h0 | ⟨b, o, ha, hlt, hn⟩
  · exact ⟨⟨h.ints.hl, h.ints.le, h.ints.hm, h.ints.wf, .inl (by rw [h0]; rfl)⟩, .inl h0⟩
  · refine ⟨⟨h.ints.hl, h.ints.le, h.ints.hm, h.ints.wf, ?_⟩, .inr ⟨b, o, ha, Nat.lt_of_lt_of_le hlt hk.1.size, hk.notin hlt hn⟩⟩
    rcases h.ints.reads with h0 | ⟨b', o', ha', hlt', hc⟩
    · exact .inl h0
    · refine .inr ⟨b', o', ha', Nat.lt_of_lt_of_le hlt' hk.1.size, fun j u hu => ?_⟩
      have e : b' = b := by rw [ha] at ha'; injection ha' with e; injection e with e; exact e.symm
      rw [hk.1.cell (p := ⟨b', o' + j, none⟩) hlt' (by rw [e]; exact hn)]
      exact hc j u hu
theorem IntsOff.thru {X : List Nat} (h : IntsOff w a len cap zs X) (hb : Below w.heap.size w w') : IntsOff w' a len cap zs X := by
  refine ⟨h.ints.thru hb, ?_⟩
  rcases h.off with h0 | ⟨b, o, ha, hlt, hn⟩
  · exact .inl h0
  · exact .inr ⟨b, o, ha, Nat.lt_of_lt_of_le hlt hb.size, hn⟩
end
theorem write_step (h : Int) (zs : List Int) {i : Nat} (hi : i < zs.length) : writeR h i (zs.drop i) = (cstTellR h (i : Int) (zs.getD i 0) fun α => α.touch h).bind fun _ => writeR h (i + 1) (zs.drop (i + 1)) := by
  rw [List.drop_eq_getElem_cons hi, writeR]
  simp [List.getD, hi]
set_option maxRecDepth 100000 in
set_option maxHeartbeats 4000000 in
theorem replace_write (h : Int) (a : Option Addr) (len cap : Nat) (zs : List Int) (p : Pl) (lb : Nat) (n : Int) (σ : LandS) (s : TrS) (F : List Nat) (N : Nat) (w : World) (ht : TL w p σ s F) (hi : s.In N) (hN : N ≤ 1000000) (hov : s.over = false)
    (hl : Blk w lb 93 #[.pointer (some ⟨p.m, 0, none⟩), .pointer (some ⟨p.a, 0, none⟩), .int .i64 n]) (hf : lb ∉ p.all F) (hh : WfI h) (hz : IntsOff w a len cap zs (p.all F)) :
    Calls Try.prog 74 #[.pointer (some ⟨p.t, 0, none⟩), .pointer (some ⟨lb, 0, none⟩), .int .i64 h, .slice a len cap] w (DoesL UV w p σ s F (writeR h 0 (zs.take 26))) := by
  have hv63 : h < 9223372036854775808 := by have := hh.bounds.2; omega
  have hzl := hz.ints.hl
  have hzc := hz.ints.le
  have hzm := hz.ints.hm
  unfold maxLen at hzm
  obtain ⟨k, hk⟩ : ∃ k, min len 26 = k := ⟨_, rfl⟩
  have W0 := Lib.hid (Wk.start ht hi hov hl hf (writeR h 0 (zs.take 26)))
  have HZ := Lib.hid hz
  have HZL := Lib.hid hzl
  have HTK := Lib.hid (show (zs.take 26).length = k by rw [List.length_take, hzl, Nat.min_comm]; exact hk)
  have HGD := Lib.hid (fun i (hi : i < k) => show (zs.take 26).getD i 0 = zs.getD i 0 by simp [List.getD_eq_getElem?_getD, List.getElem?_take, show i < 26 by omega])
  have hkc : k ≤ cap := by omega
  have hkl : k ≤ len := by omega
  have hk26 : k ≤ 26 := by omega
  have HK := Lib.hid hk
  clear ht hi hov hl hf hz hzl
  by_cases h26 : len ≤ 26
  · obtain rfl : k = len := by omega
    have h26i : (k : Int) ≤ 26 := by omega
    go_enter Try.func74, Try.ntmps74
    go_wp2_with fail
    go_loopw [16] (fun v wr => ∃ (i : Nat) (σ' : LandS) (s' : TrS) (F' : List Nat), i ≤ k ∧ v = .int .i64 i ∧ Wk (writeR h 0 (zs.take 26)) σ s w wr p lb n F N (writeR h i ((zs.take 26).drop i)) σ' s' F' ∧ IntsOff wr a k cap zs (p.all F')) (fun v _ => k - (intOf v).toNat)
    case atStart => exact ⟨0, σ, s, F, Nat.zero_le _, rfl, W0.out, HZ.out⟩
    case round =>
      clear W0 HZ
      obtain ⟨i, σ1, s1, F1, hi, rfl, hw, hz⟩ := hrel
      have W1 := Lib.hid hw
      have HZ := Lib.hid hz
      clear hw hz
      by_cases hlt : i < k
      · have W2 := Lib.hid (W1.out.eq (write_step h (zs.take 26) (by rw [HTK.out]; exact hlt)))
        rw [HGD.out i hlt] at W2
        obtain ⟨b, o, rfl, hbl, hc⟩ := HZ.out.ints.at_ (j := i) (by omega)
        have HX := Lib.hid (show WfI (zs.getD i 0) from HZ.out.ints.wf_at (by omega))
        have hii : (i : Int) ≤ 26 := by omega
        obtain ⟨x, hx⟩ : ∃ x, zs.getD i 0 = x := ⟨_, rfl⟩
        rw [hx] at W2 hc HX
        have HC := Lib.hid (W2.out.cell h (i : Int) hv63)
        have HH := Lib.hid (W2.out.chalf HX.out hN)
        obtain ⟨k0, k1, k2⟩ := W2.out.land.at3
        clear hx W1 hbl
        go_wp2_with fail
        refine HC.out.mono ?_
        rintro e w2 ⟨rfl, rfl⟩
        go_wp2_with fail
        refine HH.out.mono ?_
        rintro e w2 ⟨rfl, σ2, s2, F2, hw, hkp, -⟩
        have H3 := Lib.hid hw
        have HFR := Lib.hid H3.out.fresh_ok
        have HZ2 := Lib.hid (HZ.out.keep hkp)
        clear hw hkp HH HC W2 HZ k0 k1 k2 hc
        cases hfr : s2.fresh with
        | false =>
          have W4 := Lib.hid (H3.out.not hfr)
          rw [hfr] at HFR
          clear hfr H3
          go_wp2_with fail
          refine HFR.out.mono ?_
          rintro e w6 ⟨rfl, rfl⟩
          go_wp2
          go_roundw
          case rel => exact ⟨i + 1, _, _, _, by omega, by go_num, W4.out, HZ2.out⟩
          case measure => simp [intOf]; omega
        | true =>
          have HDI := Lib.hid (arena_touch p.a p.b σ2.ar h w2 H3.out.at_.tl.ar hv63)
          obtain ⟨k0, k1, k2⟩ := H3.out.land.at3
          rw [hfr] at HFR
          go_wp2_with fail
          refine HFR.out.mono ?_
          rintro e w6 ⟨rfl, rfl⟩
          go_wp2_with fail
          refine HDI.out.mono ?_
          rintro e w7 ⟨rfl, har, hu⟩
          obtain ⟨hw4, hk4⟩ := H3.out.told hfr har hu
          have W4 := Lib.hid hw4
          have HZ4 := Lib.hid (HZ2.out.keep hk4)
          clear har hu hfr H3 HDI HFR k0 k1 k2 hw4 hk4 HZ2
          go_wp2
          go_roundw
          case rel => exact ⟨i + 1, _, _, _, by omega, by go_num, W4.out, HZ4.out⟩
          case measure => simp [intOf]; omega
      · obtain hik : i = k := by omega
        have HE := Lib.hid ((W1.out.eq (show writeR h i ((zs.take 26).drop i) = .ret () by rw [List.drop_of_length_le (by rw [HTK.out]; omega)]; rfl)).ends (R := UV) (x := .tuple #[]) rfl)
        subst hik
        clear W1 HZ
        go_wp2
        go_end0
        exact HE.out
  · obtain rfl : k = 26 := by omega
    have h26i : (26 : Int) < len := by omega
    go_enter Try.func74, Try.ntmps74
    go_wp2_with fail
    go_loopw [16] (fun v wr => ∃ (i : Nat) (σ' : LandS) (s' : TrS) (F' : List Nat), i ≤ 26 ∧ v = .int .i64 i ∧ Wk (writeR h 0 (zs.take 26)) σ s w wr p lb n F N (writeR h i ((zs.take 26).drop i)) σ' s' F' ∧ IntsOff wr a len cap zs (p.all F')) (fun v _ => 26 - (intOf v).toNat)
    case atStart => exact ⟨0, σ, s, F, Nat.zero_le _, rfl, W0.out, HZ.out⟩
    case round =>
      clear W0 HZ
      obtain ⟨i, σ1, s1, F1, hi, rfl, hw, hz⟩ := hrel
      have W1 := Lib.hid hw
      have HZ := Lib.hid hz
      clear hw hz
      by_cases hlt : i < 26
      · have W2 := Lib.hid (W1.out.eq (write_step h (zs.take 26) (by rw [HTK.out]; exact hlt)))
        rw [HGD.out i hlt] at W2
        obtain ⟨b, o, rfl, hbl, hc⟩ := HZ.out.ints.at_ (j := i) (by omega)
        have HX := Lib.hid (show WfI (zs.getD i 0) from HZ.out.ints.wf_at (by omega))
        have hii : (i : Int) ≤ 26 := by omega
        obtain ⟨x, hx⟩ : ∃ x, zs.getD i 0 = x := ⟨_, rfl⟩
        rw [hx] at W2 hc HX
        have HC := Lib.hid (W2.out.cell h (i : Int) hv63)
        have HH := Lib.hid (W2.out.chalf HX.out hN)
        obtain ⟨k0, k1, k2⟩ := W2.out.land.at3
        clear hx W1 hbl
        go_wp2_with fail
        refine HC.out.mono ?_
        rintro e w2 ⟨rfl, rfl⟩
        go_wp2_with fail
        refine HH.out.mono ?_
        rintro e w2 ⟨rfl, σ2, s2, F2, hw, hkp, -⟩
        have H3 := Lib.hid hw
        have HFR := Lib.hid H3.out.fresh_ok
        have HZ2 := Lib.hid (HZ.out.keep hkp)
        clear hw hkp HH HC W2 HZ k0 k1 k2 hc
        cases hfr : s2.fresh with
        | false =>
          have W4 := Lib.hid (H3.out.not hfr)
          rw [hfr] at HFR
          clear hfr H3
          go_wp2_with fail
          refine HFR.out.mono ?_
          rintro e w6 ⟨rfl, rfl⟩
          go_wp2
          go_roundw
          case rel => exact ⟨i + 1, _, _, _, by omega, by go_num, W4.out, HZ2.out⟩
          case measure => simp [intOf]; omega
        | true =>
          have HDI := Lib.hid (arena_touch p.a p.b σ2.ar h w2 H3.out.at_.tl.ar hv63)
          obtain ⟨k0, k1, k2⟩ := H3.out.land.at3
          rw [hfr] at HFR
          go_wp2_with fail
          refine HFR.out.mono ?_
          rintro e w6 ⟨rfl, rfl⟩
          go_wp2_with fail
          refine HDI.out.mono ?_
          rintro e w7 ⟨rfl, har, hu⟩
          obtain ⟨hw4, hk4⟩ := H3.out.told hfr har hu
          have W4 := Lib.hid hw4
          have HZ4 := Lib.hid (HZ2.out.keep hk4)
          clear har hu hfr H3 HDI HFR k0 k1 k2 hw4 hk4 HZ2
          go_wp2
          go_roundw
          case rel => exact ⟨i + 1, _, _, _, by omega, by go_num, W4.out, HZ4.out⟩
          case measure => simp [intOf]; omega
      · obtain hik : i = 26 := by omega
        have HE := Lib.hid ((W1.out.eq (show writeR h i ((zs.take 26).drop i) = .ret () by rw [List.drop_of_length_le (by rw [HTK.out]; omega)]; rfl)).ends (R := UV) (x := .tuple #[]) rfl)
        subst hik
        clear W1 HZ
        go_wp2
        go_end0
        exact HE.out
end Go.Proofs.Ytldccemgfjmcdaa
