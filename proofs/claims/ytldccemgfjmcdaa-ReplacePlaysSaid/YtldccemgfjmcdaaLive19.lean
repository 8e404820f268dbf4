/- The arena's Live. -/
import Derived.Test.YtldccemgfjmcdaaAwake19
namespace Go.Proofs.Ytldccemgfjmcdaa
open Go.RowKit
set_option linter.unusedSimpArgs false
set_option linter.unusedVariables false

def liveN (l : List (Int × Bool)) : Nat := (l.filter (·.2)).length
theorem liveN_snoc (l : List (Int × Bool)) {k : Nat} (hk : k < l.length) : liveN (l.take (k + 1)) = liveN (l.take k) + if (l.getD k (0, false)).2 then 1 else 0 := by
  unfold liveN
  rw [List.take_succ_eq_append_getElem hk, List.filter_append, List.length_append]
  simp only [List.getD_eq_getElem?_getD, List.getElem?_eq_getElem hk, Option.getD_some]
  cases hl : l[k].2 <;> simp [hl]
theorem liveN_le (l : List (Int × Bool)) (k : Nat) : liveN (l.take k) ≤ k := by
  unfold liveN
  exact Nat.le_trans (List.length_filter_le _ _) (by simp; omega)
theorem ge_of {B : Nat} {w : World} {A : Option Addr} {t c n : Nat} {xs : List Value} (h : w.ownsRow B t 1 (.slice A n c) n xs) : ∀ b ∈ blockOf A, B ≤ b := by
  intro b hb
  refine (Rows'.ofOwn h).2 b ?_
  cases A with
  | none => simp [blockOf] at hb
  | some a => simp [blockOf] at hb; simp [Value.ownBlock, hb]
set_option maxRecDepth 100000 in
set_option maxHeartbeats 2000000 in
theorem arena_live (a b : Nat) (α : ArS) (w : World) (h : ArAt w a b α) :
    Calls Try.prog 42 #[.pointer (some ⟨a, 0, none⟩)] w fun e w' => (∃ A c, e = .returned (.slice A (liveN α.slots) c)) ∧ Below w.heap.size w w' := by
  have HA := Lib.hid h
  have HL := Lib.hid h.len
  obtain ⟨k0, k1, k2, k3⟩ := h.top.at4
  clear h k0 k2 k3
  go_enter Try.func42, Try.ntmps42
  go_wp2_with fail
  go_loopw [3, 11] (fun v i wr => ∃ (k : Nat) (A : Option Addr) (c : Nat) (xs : List Int), k ≤ α.slots.length ∧ i = .int .i64 k ∧ xs.length = liveN (α.slots.take k) ∧ v = .slice A xs.length c ∧ wr.ownsRow w.heap.size 2 1 (.slice A xs.length c) xs.length (i64s xs) ∧ Below w.heap.size w wr) (fun _ i _ => α.slots.length - (intOf i).toNat)
  case atStart => exact ⟨0, none, 0, [], Nat.zero_le _, rfl, rfl, rfl, World.ownsRow_nil _ _ _ _, Below.refl _ _⟩
  case round =>
    obtain ⟨k, A, c, xs, hk, rfl, hxs, rfl, hrow, hb⟩ := hrel
    have HR := Lib.hid hrow
    have HB := Lib.hid hb
    have HXS := Lib.hid hxs
    have HA1 := Lib.hid (HA.out.thru hb)
    have hl1 := HL.out
    clear hrow hb hxs k1
    by_cases hlt : k < α.slots.length
    · have g0 := HA1.out.gen hlt
      have g1 := HA1.out.live hlt
      have HN := Lib.hid (liveN_snoc α.slots hlt)
      have hln := liveN_le α.slots k
      obtain ⟨x, hx⟩ : ∃ x, (α.slots.getD k (0, false)).1 = x := ⟨_, rfl⟩
      obtain ⟨y, hy⟩ : ∃ y, (α.slots.getD k (0, false)).2 = y := ⟨_, rfl⟩
      rw [hx] at g0
      rw [hy] at g1 HN
      clear hx hy
      have HR1 := Lib.hid (ownsRow_upd HR.out (Upd.of_below (below_alloc0 wr (.cells #[.int .i64 x, .bool y] 139)) (F := [])) (by simp))
      replace HA1 := Lib.hid (HA1.out.thru (below_alloc0 wr (.cells #[.int .i64 x, .bool y] 139)))
      replace HB := Lib.hid (below_thru HB.out (below_alloc0 wr (.cells #[.int .i64 x, .bool y] 139)))
      have HSB := Lib.hid (Blk.new wr 139 #[.int .i64 x, .bool y])
      go_upto_region 5 with fail
      have HZ := Lib.hid (World.size_alloc wr (.cells #[.int .i64 x, .bool y] 139))
      obtain ⟨sb, hsb⟩ : ∃ x, wr.heap.size = x := ⟨_, rfl⟩
      simp only [hsb] at HSB HZ ⊢
      replace hsb := Lib.hid hsb
      generalize wr.alloc (.cells #[.int .i64 x, .bool y] 139) = w1 at *
      obtain ⟨s0, s1⟩ := HSB.out.at2
      cases y with
      | false =>
        go_wp2
        go_roundw
        case rel => exact ⟨k + 1, A, c, xs, by omega, by go_num, by rw [HN.out]; exact HXS.out, rfl, HR1.out, HB.out⟩
        case measure => simp [intOf]; omega
      | true =>
        have HR1 := Lib.hid (show w1.ownsRow w.heap.size 2 1 (.slice A xs.length c) xs.length (i64s xs) from HR1.out)
        have HH := Lib.hid (arena_handle a b α k w1 HA1.out hlt)
        obtain ⟨hd, hhd⟩ : ∃ hd, α.handle (k + 1) = hd := ⟨_, rfl⟩
        rw [hhd] at HH
        clear hhd
        have hge := HB.out.size
        have HGE := Lib.hid (fun x hx => (show ∀ x ∈ blockOf A, w.heap.size ≤ x from ge_of HR1.out) x hx)
        have hxl : xs.length ≤ 1000 := by rw [HXS.out]; omega
        clear hln
        clear HR HA1 HSB HZ hsb g0 g1
        go_wp2_with fail
        refine HH.out.mono ?_
        rintro e w2 ⟨rfl, rfl⟩
        obtain ⟨i0, hi0, hz0, hz1, hz2⟩ := info_parts info_i64
        have hown := HR1.out
        go_wp2_with (at_builtin; refine wpList_append_lies (P := Try.prog) _ rfl (.tmp 18) (.tmp 23) 31 rfl w.heap.size 2 i0 _ 1 8 Try.underlying31 hi0 hz0 hz1 hz2 rfl (by decide) (.slice A xs.length c) xs.length (i64s xs) rfl (hown.alloc _) ⟨w1.heap.size, 0, none⟩ 1 1 [.int .i64 hd] rfl rfl (World.news_of_block (cs := #[.int .i64 hd]) (t := 2) (fr := (0, 0)) (heap_alloc_new w1 _)) (by simp [Value.oneCell']) (by omega) (by unfold maxLen; omega) (by omega) (by simp; omega) (w1.heap.size + 1) (by simp) ?_; intro g cap' w4 hown' hgrow hat hlt'; have HO4 := Lib.hid hown'; have HB4 := Lib.hid (below_upd HB.out (out_step hgrow hat).1 (Nat.le_refl _) HGE.out); clear hown' hgrow hat hown HR1 HB)
        go_roundw
        case rel => exact ⟨k + 1, some ⟨g, 0, none⟩, cap', xs ++ [hd], by omega, by go_num, by rw [HN.out, List.length_append, HXS.out]; rfl, by simp, by have h4 := HO4.out; rw [out_snoc] at h4; simpa using h4, HB4.out⟩
        case measure => simp [intOf]; omega
    · obtain rfl : k = α.slots.length := by omega
      go_wp2
      go_ret
      refine ⟨⟨A, c, ?_⟩, HB.out⟩
      have := HXS.out
      rw [List.take_of_length_le (Nat.le_refl _)] at this
      rw [this]
      rfl
end Go.Proofs.Ytldccemgfjmcdaa
