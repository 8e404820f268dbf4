/- Layer 17's walk: All. -/
import Derived.Test.YtldccemgfjmcdaaWalkE
namespace Go.Proofs.Ytldccemgfjmcdaa
open Go.RowKit
set_option linter.unusedSimpArgs false
set_option linter.unusedVariables false

def allAns (q : Bool × List EntV × List Int) : List EntV × List Int × Bool := if q.1 = true then (q.2.1, q.2.2, true) else ([], [], false)
def allR (root : Int) : Res LandS (List EntV × List Int × Bool) := (downR 8 root [] []).bind fun q => .ret (allAns q)
theorem all_good (root : Int) : (allR root).Good WfL := Good.bind (down_good _ _ _ _) fun _ => trivial
theorem all_free (root : Int) : (allR root).free := Res.bind_free (down_free _ _ _ _) fun _ => trivial
/-- What All answers: two rows of its own. -/
def AllRows (B : Nat) (p : Pl) (F' : List Nat) (w : World) (v : List EntV × List Int × Bool) (x : Value) : Prop :=
  ∃ EA ec NA nc, x = .tuple #[.slice EA v.1.length ec, .slice NA v.2.1.length nc, .bool v.2.2] ∧ w.ownsRow B 47 3 (.slice EA v.1.length ec) v.1.length (v.1.flatMap entCells) ∧ w.ownsRow B 2 1 (.slice NA v.2.1.length nc) v.2.1.length (i64s v.2.1) ∧
    (∀ b ∈ blockOf EA, b ∉ p.all F') ∧ (∀ b ∈ blockOf NA, b ∉ p.all F') ∧ (∀ x ∈ v.2.1, WfI x) ∧ (∀ e ∈ v.1, WfI e.lo ∧ WfI e.stop ∧ WfI e.h) ∧ v.2.1.length ≤ 64 ∧ v.1.length ≤ 512
def AllDoes (w : World) (p : Pl) (σ : LandS) (s : TrS) (F : List Nat) (r : Res LandS (List EntV × List Int × Bool)) (e : Ending) (w' : World) : Prop :=
  ∃ v x σ' s' F', e = .returned x ∧ AllRows w.heap.size p F' w' v x ∧ Sim (r.run σ s) (v, σ', s') ∧ TL w' p σ' s' F' ∧ Keeps w w' p F F'
theorem DownPost.all {w w' : World} {p : Pl} {σ : LandS} {s : TrS} {F : List Nat} {root : Int} {o : Obj} {e : Ending} (ht : TL w p σ s F) (h : DownPost 8 root [] [] (w.alloc o) p σ s F w.heap.size w.heap.size none none e w') :
    ∃ v es' ns' EA' ec' NA' nc' σ' s' F', e = .returned (.bool v) ∧ Sim ((allR root).run σ s) (allAns (v, es', ns'), σ', s') ∧ TL w' p σ' s' F' ∧ WalkerAt w' w.heap.size w.heap.size p es' ns' EA' ec' NA' nc' F' ∧ Keeps w w' p F F' ∧ ns'.length ≤ 64 ∧ es'.length ≤ 512 := by
  obtain ⟨v, es', ns', EA', ec', NA', nc', σ', s', F', he, hs, ht', hwk, hm, h1, h2, h3, hf⟩ := h
  refine ⟨v, es', ns', EA', ec', NA', nc', σ', s', F', he, ?_, ht', hwk, ⟨?_, ?_⟩, h2, by simp at h3; omega⟩
  · exact ((GoesL.refl (allR root) σ s).trans (GoesL.bind hs)).end_ret
  · refine ((Upd.refl (p.all F) w).alloc o).trans_new hm.upd fun b hb => ?_
    rcases mem_wset.1 hb with e | e | e | e
    · exact .inr (by omega)
    · simp [blockOf] at e
    · simp [blockOf] at e
    · exact .inl e
  · intro b hb
    exact (hf b hb).imp_right fun e => by rw [World.size_alloc] at e; omega
set_option maxRecDepth 100000 in
set_option maxHeartbeats 4000000 in
theorem walk_all (root : Int) (p : Pl) (σ : LandS) (s : TrS) (F : List Nat) (n : Nat) (w : World) (h : TL w p σ s F) (hi : s.In n) (hn : n ≤ 1000000) (hov : s.over = false) (hw : WfI root) :
    Calls Try.prog 75 #[.pointer (some ⟨p.t, 0, none⟩), .pointer (some ⟨p.a, 0, none⟩), .int .i64 root] w (AllDoes w p σ s F (allR root)) := by
  have HD : Hid (Calls Try.prog 93 #[.pointer (some ⟨w.heap.size, 0, none⟩), .int .i64 root, .int .i64 8] (w.alloc (.cells #[.pointer (some ⟨p.t, 0, none⟩), .pointer (some ⟨p.a, 0, none⟩), .slice none 0 0, .slice none 0 0] 168))
      (DownPost 8 root [] [] (w.alloc (.cells #[.pointer (some ⟨p.t, 0, none⟩), .pointer (some ⟨p.a, 0, none⟩), .slice none 0 0, .slice none 0 0] 168)) p σ s F w.heap.size w.heap.size none none)) :=
    Lib.hid (walk_down 8 (Nat.le_refl _) root [] [] p σ s F n w.heap.size w.heap.size none none 0 0 _ (h.thru (below_alloc0 w _)) hi hn hov
      ⟨Blk.new _ _ _, World.ownsRow_nil _ _ _ _, World.ownsRow_nil _ _ _ _, fun hin => Nat.lt_irrefl _ (h.lt _ hin), by simp [blockOf], by simp [blockOf], by simp, by simp⟩ (by simp) (by simp) (by rw [World.size_alloc]; omega) hw)
  have HT := Lib.hid h
  clear h hi hn hov hw
  go_enter Try.func75, Try.ntmps75
  go_wp2_with fail
  refine HD.out.mono ?_
  rintro e w2 hd
  obtain ⟨v, es, ns, EA, ec, NA, nc, σ', s', F', rfl, hs, ht, hwk, hk, h64, h512⟩ := DownPost.all HT.out hd
  clear hd HD HT
  cases v with
  | false =>
    have HE := Lib.hid (show AllDoes w p σ s F (allR root) (.returned (.tuple #[.slice none 0 0, .slice none 0 0, .bool false])) w2 from
      ⟨([], [], false), _, σ', s', F', rfl, ⟨none, 0, none, 0, rfl, World.ownsRow_nil _ _ _ _, World.ownsRow_nil _ _ _ _, by simp [blockOf], by simp [blockOf], by simp, by simp, by simp, by simp⟩, hs, ht, hk⟩)
    clear hs ht hwk hk
    go_wp2
    go_ret3
    exact HE.out
  | true =>
    have HE := Lib.hid (show ∀ nq, AllDoes w p σ s F (allR root) (.returned (.tuple #[.slice EA es.length ec, .slice NA ns.length nc, .bool true])) (w2.drewN nq) from fun nq =>
      have hb : Below w2.heap.size w2 (w2.drewN nq) := below_drewN0 w2 nq
      have hwd := hwk.thru hb
      ⟨(es, ns, true), _, σ', s', F', rfl, ⟨EA, ec, NA, nc, rfl, hwd.oe, hwd.on, hwd.fe, hwd.fn, hwd.wn, hwd.we, h64, h512⟩, hs, ht.thru hb, hk.thru hb⟩)
    obtain ⟨k0, k1, k2, k3⟩ := hwk.blk.at4
    clear hs ht hwk hk
    go_wp2_with fail
    go_quiet (fail)
    go_wp2
    go_ret3
    exact HE.out nq
end Go.Proofs.Ytldccemgfjmcdaa
