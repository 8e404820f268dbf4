/- Layer 17's walk: Find, as a task on a land. -/
import Derived.Test.YtldccemgfjmcdaaSeekN
namespace Go.Proofs.Ytldccemgfjmcdaa
open Go.RowKit
set_option linter.unusedSimpArgs false
set_option linter.unusedVariables false

def findR (addr : Int) : Nat → Int → Res LandS (Int × Bool)
  | 0, _ => .ret (0, false)
  | k + 1, root => (lookR root addr).bind fun q => if q.2.2 = false then .ret (0, false) else if q.2.1 = false then .ret (q.1, true) else findR addr k q.1
def FV : World → Int × Bool → Value → Prop := fun _ v x => x = .tuple #[.int .i64 v.1, .bool v.2] ∧ WfI v.1
theorem find_good (addr : Int) : ∀ k root, (findR addr k root).Good WfL
  | 0, _ => trivial
  | k + 1, root => Good.bind (look_good _ _) fun q => by
    split
    · trivial
    · split
      · trivial
      · exact find_good addr k _
theorem find_free (addr : Int) : ∀ k root, (findR addr k root).free
  | 0, _ => trivial
  | k + 1, root => Res.bind_free (look_free _ _) fun q => by
    split
    · trivial
    · split
      · trivial
      · exact find_free addr k _
set_option maxRecDepth 100000 in
set_option maxHeartbeats 1000000 in
theorem walk_find (root addr : Int) (p : Pl) (σ : LandS) (s : TrS) (F : List Nat) (n : Nat) (w : World) (h : TL w p σ s F) (hi : s.In n) (hn : n ≤ 1000000) (hov : s.over = false) (hw : WfI root) :
    Calls Try.prog 76 #[.pointer (some ⟨p.t, 0, none⟩), .pointer (some ⟨p.a, 0, none⟩), .int .i64 root, .int .i64 addr] w (DoesL FV w p σ s F (findR addr 8 root)) := by
  have A0 := Lib.hid (AtL.first h hi hov)
  have HW := Lib.hid hw
  clear h hi hov hw
  go_enter Try.func76, Try.ntmps76
  go_wp2_with fail
  go_loopw [13, 2] (fun i r wr => ∃ (j : Nat) (rt : Int) (σ' : LandS) (s' : TrS) (F' : List Nat), j ≤ 8 ∧ i = .int .i64 j ∧ r = .int .i64 rt ∧ WfI rt ∧ AtL w wr p σ' s' F F' n ∧ GoesL (findR addr 8 root) σ s (findR addr (8 - j) rt) σ' s') (fun i _ _ => 8 - (intOf i).toNat)
  case atStart => exact ⟨0, root, σ, s, F, Nat.zero_le _, rfl, rfl, HW.out, A0.out, GoesL.refl _ _ _⟩
  case round =>
    clear A0 HW
    obtain ⟨j, rt, σ', s', F', hj, rfl, rfl, hwr, a1, hgo⟩ := hrel
    have HG := Lib.hid hgo
    have A1 := Lib.hid a1
    have HW := Lib.hid hwr
    clear hgo
    by_cases hlt : j < 8
    · have HR := Lib.hid (seek_look rt addr p σ' s' F' n wr a1.tl a1.inn hn a1.over (by have := hwr.bounds.2; omega))
      have e : findR addr (8 - j) rt = (lookR rt addr).bind fun q => if q.2.2 = false then .ret (0, false) else if q.2.1 = false then .ret (q.1, true) else findR addr (8 - (j + 1)) q.1 := by
        rw [show 8 - j = (8 - (j + 1)) + 1 by omega]
        rfl
      have HGE := Lib.hid (HG.out.eq e)
      clear a1 e hwr
      go_wp2_with fail
      refine HR.out.mono ?_
      rintro e w2 hd2
      obtain ⟨⟨v, inner, ok⟩, x, σ2, s2, F2, rfl, ⟨rfl, hwf⟩, hsim, a2⟩ := A1.out.does hd2
      have HX := Lib.hid (HGE.out.trans (GoesL.bind hsim))
      have A2 := Lib.hid a2
      have HV := Lib.hid hwf
      clear hwf hsim a2 hd2 HG HGE HR A1 HW
      cases ok with
      | false =>
        have HE := Lib.hid (show DoesL FV w p σ s F (findR addr 8 root) (.returned (.tuple #[.int .i64 0, .bool false])) w2 from ⟨(0, false), _, _, _, rfl, ⟨rfl, WfI.zero⟩, (HX.out.eq (if_pos rfl)).end_ret, A2.out.tls⟩)
        clear HX
        go_wp2
        go_ret2
        exact HE.out
      | true =>
        have HX2 := Lib.hid (HX.out.eq (if_neg (by simp)))
        cases inner with
        | false =>
          have HE := Lib.hid (show DoesL FV w p σ s F (findR addr 8 root) (.returned (.tuple #[.int .i64 v, .bool true])) w2 from ⟨(v, true), _, _, _, rfl, ⟨rfl, HV.out⟩, (HX2.out.eq (if_pos rfl)).end_ret, A2.out.tls⟩)
          clear HX HX2
          go_wp2
          go_ret2
          exact HE.out
        | true =>
          have HE := Lib.hid (HX2.out.eq (if_neg (by simp)))
          clear HX HX2
          go_wp2
          go_roundw
          case rel => exact ⟨j + 1, v, σ2, s2, F2, by omega, by go_num, rfl, HV.out, A2.out, HE.out⟩
          case measure => simp [intOf]; omega
    · obtain rfl : j = 8 := by omega
      have HE := Lib.hid (show DoesL FV w p σ s F (findR addr 8 root) (.returned (.tuple #[.int .i64 0, .bool false])) wr from ⟨(0, false), _, _, _, rfl, ⟨rfl, WfI.zero⟩, HG.out.end_ret, A1.out.tls⟩)
      clear a1 hwr
      go_wp2
      go_ret2
      exact HE.out
end Go.Proofs.Ytldccemgfjmcdaa
