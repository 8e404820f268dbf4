/- SeekLooks, walked. -/
import Derived.Test.YtldccemgfjmcdaaLaw16
namespace Go.Proofs.Ytldccemgfjmcdaa
open Go.RowKit
set_option linter.unusedSimpArgs false
set_option linter.unusedVariables false

theorem pad28_pad (zs : List Int) : pad28 (pad28 zs) = pad28 zs := pad28_of (pad28_len zs)
theorem pad28_wf {zs : List Int} (h : ∀ x ∈ zs, WfI x) : ∀ x ∈ pad28 zs, WfI x := by
  intro x hx
  simp only [pad28, List.mem_append] at hx
  rcases hx with hx | hx
  · exact h x (List.mem_of_mem_take hx)
  · exact zeros_wf _ x hx
theorem LandAt.stale_ok {w : World} {m c a b : Nat} {σ : LandS} (h : LandAt w m c a b σ) : Calls Try.prog 25 #[.pointer (some ⟨a, 0, none⟩)] w fun e w' => e = .returned (.bool σ.ar.stale) ∧ w = w' := arena_stale a b σ.ar w h.ar
set_option maxRecDepth 100000 in
set_option maxHeartbeats 4000000 in
theorem looks16 (a : Option Addr) (len cap : Nat) (zs : List Int) (addr : Int) (w : World) (h : Ints w a len cap zs) (hwa : (Lit.int .i64 addr).wf = true) :
    Calls Try.prog 10 #[.slice a len cap, .int .i64 addr] w fun e w' => e = .returned (.bool true) ∧ Below w.heap.size w w' := by
  have HA := Lib.hid awake16
  have HH := Lib.hid h
  have HB := Lib.hid (Below.refl w.heap.size w)
  have hm := h.hm
  have hl := h.le
  unfold maxLen at hm
  have HW := Lib.hid (pad28_wf h.wf)
  clear h
  by_cases h60 : len ≤ 60
  · have h60i : (len : Int) ≤ 60 := by omega
    go_enter Try.func10, Try.ntmps10
    go_wp2_with fail
    refine (HA.out _).mono ?_
    rintro e w1 ⟨rfl, hb⟩
    replace HB := Lib.hid (below_thru HB.out hb)
    replace HH := Lib.hid (HH.out.thru hb)
    clear hb
    have HX := Lib.hid (words16 a len cap zs w1 HH.out)
    go_wp2_with fail
    refine (HX.out).mono ?_
    rintro e w2 ⟨rfl, hrow, hb⟩
    replace HB := Lib.hid (below_thru HB.out hb)
    replace HH := Lib.hid (HH.out.thru hb)
    clear hb
    obtain ⟨g, hg⟩ : ∃ g, w1.heap.size = g := ⟨_, rfl⟩
    rw [hg] at hrow ⊢
    have HR := Lib.hid hrow
    clear hrow hg HX
    obtain ⟨x, hx⟩ : ∃ x, pad28 zs = x := ⟨_, rfl⟩
    have hpx : pad28 x = x := by rw [← hx]; exact pad28_pad zs
    have HPX := Lib.hid hpx
    rw [hx] at HR HW
    clear hx hpx
    replace HB := Lib.hid (below_thru HB.out (below_alloc0 w2 (.cells #[.slice (some ⟨g, 0, none⟩) 28 28] 31)))
    replace HH := Lib.hid (HH.out.thru (below_alloc0 w2 (.cells #[.slice (some ⟨g, 0, none⟩) 28 28] 31)))
    replace HR := Lib.hid (HR.out.thru (below_alloc0 w2 (.cells #[.slice (some ⟨g, 0, none⟩) 28 28] 31)))
    have HS := Lib.hid (Blk.new w2 31 #[.slice (some ⟨g, 0, none⟩) 28 28])
    go_wp2_with fail
    have HZ := Lib.hid (World.size_alloc w2 (.cells #[.slice (some ⟨g, 0, none⟩) 28 28] 31))
    obtain ⟨sb, hsb⟩ : ∃ x, w2.heap.size = x := ⟨_, rfl⟩
    simp only [hsb] at HS HZ ⊢
    replace hsb := Lib.hid hsb
    generalize w2.alloc (.cells #[.slice (some ⟨g, 0, none⟩) 28 28] 31) = w3 at *
    have HSL := Lib.hid (slots16' (some ⟨sb, 0, none⟩) 1 1 [⟨some ⟨g, 0, none⟩, 28, 28, x⟩] w3 (rowsL_one HS.out (ArgInts.ofRow HR.out HW.out)) (by simp) (by omega))
    have HZ2 := Lib.hid HB.out.size
    have HG3 := Lib.hid HR.out.lt
    clear HZ
    refine (HSL.out).mono ?_
    rintro e w4 ⟨rfl, hb, hland⟩
    replace HB := Lib.hid (below_thru HB.out hb)
    replace HH := Lib.hid (HH.out.thru hb)
    replace HR := Lib.hid (HR.out.thru hb)
    replace HS := Lib.hid (HS.out.thru hb)
    clear hb
    have HLA := Lib.hid hland
    clear hland
    have hslot : HasSlot (land16 [x]) 65537 x := by
      have := land_slot (xs := [x]) (i := 0) (x := x) (hd := 65537) rfl (by simp) (by decide)
      rw [HPX.out] at this
      exact this
    obtain ⟨st, hst, ht⟩ := tells_look0 (addr := addr) hslot
    have hright : (land16 [x]).ar.right 65537 = true := land_right (xs := [x]) (i := 0) (by simp) (by simp)
    have hst' : st = false := by rcases hst with h | h <;> rw [h]; rw [hright]; rfl
    subst hst'
    have hle10 := lookP_le x addr
    have HLK := Lib.hid (fun w9 (hr : Row w9 2 1 g 28 28 (i64s x)) => ref16_look (some ⟨g, 0, none⟩) 28 x addr w9 (ArgInts.ofRow hr HW.out))
    obtain ⟨Q, hQ⟩ : ∃ Q, lookP x addr = Q := ⟨_, rfl⟩
    simp only [hQ] at ht hle10 HLK
    clear hQ
    obtain ⟨q0, q1, q2, qn⟩ := Q
    simp only at ht hle10
    have HT := Lib.hid (all_tells 65537 addr 0 (look0R 65537 addr) (free0 _ _) (runs0 65537 addr (by decide)) _ _ _ _ (land16 [x]) none w4 HLA.out ht (by omega) (by simp [land16, slotMem]) (by simp only [land16, slotMem, List.length_singleton]; omega))
    have HQ := Lib.hid hle10
    clear ht hst hslot hright hle10
    go_wp2_with fail
    refine HT.out.mono ?_
    rintro e w5 ⟨cs, σ2, rfl, ⟨d0, d1, d2, d3, d4, rfl, hnd⟩, hla, -, hcnt, hstale, hu⟩
    have HB5 := Lib.hid (below_upd HB.out hu (Nat.le_refl _) (by
      have := HZ2.out
      intro x hx
      simp only [List.mem_cons, List.not_mem_nil, or_false] at hx
      omega))
    have HR5 := Lib.hid (HR.out.upd hu (by
      have := HG3.out
      simp only [List.mem_cons, List.not_mem_nil, or_false]
      omega))
    have HLA5 := Lib.hid hla
    have HCN := Lib.hid (show σ2.mu.count = (qn : Int) + 28 by rw [hcnt]; simp only [land16, slotMem, List.length_singleton]; omega)
    have HSTL := Lib.hid (show σ2.ar.stale = false by rw [hstale]; simp [land16, slotAr])
    clear hla hcnt hstale hu HT HSL HLA HB HR HZ2 HG3 HS
    rcases hnd with ⟨-, rfl, rfl, rfl, rfl, rfl⟩ | ⟨_, _, _, _, _, _, _, hm', -⟩
    rotate_left
    · cases hm'
    simp only [zeroArea]
    replace HB5 := Lib.hid (below_thru HB5.out (below_alloc0 w5 (.cells #[.int .i64 q0, .bool q1, .bool q2, .int .i64 0, .int .i64 0, .int .i64 0, .bool false, .int .i64 0, .int .i64 0, .bool false, .int .i64 0, .slice none 0 0, .slice none 0 0, .slice none 0 0] 59)))
    replace HR5 := Lib.hid (HR5.out.thru (below_alloc0 w5 (.cells #[.int .i64 q0, .bool q1, .bool q2, .int .i64 0, .int .i64 0, .int .i64 0, .bool false, .int .i64 0, .int .i64 0, .bool false, .int .i64 0, .slice none 0 0, .slice none 0 0, .slice none 0 0] 59)))
    replace HLA5 := Lib.hid (HLA5.out.thru (below_alloc0 w5 (.cells #[.int .i64 q0, .bool q1, .bool q2, .int .i64 0, .int .i64 0, .int .i64 0, .bool false, .int .i64 0, .int .i64 0, .bool false, .int .i64 0, .slice none 0 0, .slice none 0 0, .slice none 0 0] 59)))
    have HRB := Lib.hid (Blk.new w5 59 #[.int .i64 q0, .bool q1, .bool q2, .int .i64 0, .int .i64 0, .int .i64 0, .bool false, .int .i64 0, .int .i64 0, .bool false, .int .i64 0, .slice none 0 0, .slice none 0 0, .slice none 0 0])
    go_upto_region 6 with fail
    have HZ := Lib.hid (World.size_alloc w5 (.cells #[.int .i64 q0, .bool q1, .bool q2, .int .i64 0, .int .i64 0, .int .i64 0, .bool false, .int .i64 0, .int .i64 0, .bool false, .int .i64 0, .slice none 0 0, .slice none 0 0, .slice none 0 0] 59))
    obtain ⟨rb, hrb⟩ : ∃ x, w5.heap.size = x := ⟨_, rfl⟩
    simp only [hrb] at HRB HZ ⊢
    replace hrb := Lib.hid hrb
    generalize w5.alloc (.cells #[.int .i64 q0, .bool q1, .bool q2, .int .i64 0, .int .i64 0, .int .i64 0, .bool false, .int .i64 0, .int .i64 0, .bool false, .int .i64 0, .slice none 0 0, .slice none 0 0, .slice none 0 0] 59) = w6 at *
    have HL6 := Lib.hid (HLK.out w6 HR5.out)
    clear HLK
    go_wp2_with fail
    refine HL6.out.mono ?_
    rintro e w7 ⟨rfl, k, rfl⟩
    replace HB5 := Lib.hid (below_drewN HB5.out k)
    have HRB7 := Lib.hid (HRB.out.drewN k)
    have HLA7 := Lib.hid (HLA5.out.thru (below_drewN0 w6 k))
    clear HL6 HRB HLA5 HR5
    generalize w6.drewN k = w7 at *
    have HST := HLA7.out.stale_ok
    rw [HSTL.out] at HST
    have HSTa := Lib.hid HST
    have HCO := cell_count _ _ _ w7 HLA7.out.mem
    rw [HCN.out] at HCO
    have HCOa := Lib.hid HCO
    have hqn : (qn : Int) ≤ 10 := by have := HQ.out; omega
    clear HST HCO
    obtain ⟨m0, m1, m2, m3, m4, m5, m6, m7, m8, m9, m10, m11, m12, m13⟩ := HRB7.out.at14
    go_wp2_with fail
    refine HSTa.out.mono ?_
    rintro e w8 ⟨rfl, rfl⟩
    go_wp2_with fail
    refine HCOa.out.mono ?_
    rintro e w8 ⟨rfl, rfl⟩
    go_wp2
    go_ret
    exact ⟨rfl, HB5.out⟩
  · have h60i : (60 : Int) < len := by omega
    go_enter Try.func10, Try.ntmps10
    go_wp2_with fail
    refine (HA.out _).mono ?_
    rintro e w1 ⟨rfl, hb⟩
    replace HB := Lib.hid (below_thru HB.out hb)
    replace HH := Lib.hid (HH.out.thru hb)
    clear hb
    go_wp2_with fail
    refine (HA.out _).mono ?_
    rintro e w2 ⟨rfl, hb⟩
    replace HB := Lib.hid (below_thru HB.out hb)
    replace HH := Lib.hid (HH.out.thru hb)
    clear hb
    go_wp2
    go_ret
    exact ⟨rfl, HB.out⟩
end Go.Proofs.Ytldccemgfjmcdaa
