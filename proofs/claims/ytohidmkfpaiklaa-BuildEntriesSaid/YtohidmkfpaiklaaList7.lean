/- Layers 6, 7: an area that goes on in another one; right lists. -/
import Derived.Test.YtohidmkfpaiklaaArea
import Derived.OrdersHeld
import Derived.Lib.Hide
namespace Go.Proofs.Ytohidmkfpaiklaa
open Go.RowKit
set_option linter.unusedSimpArgs false
set_option linter.unusedVariables false

def AreaV.offAt (a : AreaV) (x : Int) : Int := if a.back = 0 then 0 else a.off + x - a.start
def AreaV.goes (a b : AreaV) : Bool := a.formedB && b.formedB && (a.stop == b.start) && (a.prot == b.prot) && (a.shared == b.shared) && (a.back == b.back) && (b.off == a.offAt a.stop)
set_option maxRecDepth 100000 in
theorem area_off (a : AreaV) (w : World) (hf : a.formedB = true) : Calls Try.prog 85 #[.agg (areaCells a), .int .i64 a.stop] w fun e w' => e = .returned (.int .i64 (a.offAt a.stop)) ∧ Below w.heap.size w w' := by
  have hi := a.formed_iff.1 hf
  clear hf
  obtain ⟨start, stop, prot, shared, back, off⟩ := a
  simp only at hi
  have HN := Lib.hid (Blk.new w 79 #[.int .i64 start, .int .i64 stop, .int .i64 prot, .bool shared, .int .i64 back, .int .i64 off])
  obtain ⟨k0, k1, k2, k3, k4, k5⟩ := HN.out.at6
  obtain ⟨h1, h2, h3, h4, h5, h6, h7, h8, h9, h10, h11, h12, h13⟩ := hi
  simp only [areaCells, AreaV.offAt]
  by_cases hb : back = 0
  · subst hb
    simp only [if_true]
    go_enter Try.func85, Try.ntmps85
    go_wp2
    go_ret
    exact ⟨rfl, (Below.refl w.heap.size w).alloc (Nat.le_refl _) _⟩
  · have hb2 : (back == 0) = false := by rw [beq_eq_false_iff_ne]; exact hb
    have h14 := h13 hb
    rw [if_neg hb]
    go_enter Try.func85, Try.ntmps85
    go_wp2
    go_ret
    exact ⟨rfl, (Below.refl w.heap.size w).alloc (Nat.le_refl _) _⟩
/-! ### A region all of whose operations keep S -/
section
variable {P : Program} {ops : Array Oper} {Q : Exit → Act → World → Prop} {md : Region.Mode} {S : World → Prop}
theorem wpAnyH_takes {i d : Nat} {oi : Oper} {v : Value} {fuel : Nat} {listed : Array Bool} {T : Array Value} {D : List Deferred} {w : World} (hi : ops[i]? = some oi) (hd : oi.dst = some d)
    (hB : (Region.noSelect ops && Region.free md ops listed i && (Region.ready md ops listed).contains i) = true)
    (hQ : ∀ c a w, Q (.panic c) (a.put oi.dst v) w → Q (.panic c) a w) (hy : YieldsIf P ops S oi v ⟨T, D⟩) (hS : S w)
    (h : wpAnyH P md ops Q S fuel (listed.setIfInBounds i true) ⟨T.setIfInBounds d v, D⟩ w) : wpAnyH P md ops Q S (fuel + 1) listed ⟨T, D⟩ w := by
  simp only [Bool.and_eq_true] at hB
  obtain ⟨⟨hs, hf⟩, hr⟩ := hB
  refine wpAnyH_take hi hs hf hr hQ hy hS ?_
  rw [hd]
  exact h
theorem wpAnyH_one {i : Nat} {o : Oper} {fuel : Nat} {listed : Array Bool} {a : Act} {w : World} (hr : Region.ready md ops listed = [i]) (hi : ops[i]? = some o) (hw : Region.wanted o (yielded ops a.tmps) = true)
    (h : ∀ K : Act → World → Prop, Hid (∀ a' w', S w' → wpAnyH P md ops Q S fuel (listed.setIfInBounds i true) a' w' → K a' w') → o.wp P a w K Q) : wpAnyH P md ops Q S (fuel + 1) listed a w := by
  refine wpAnyH_all hr (by simp) fun j hj => ?_
  obtain rfl : j = i := by simpa using hj
  unfold wpOp
  simp only [hi, hw, if_true]
  exact .inl (h _ (Lib.hid fun a' w' h1 h2 => ⟨h1, h2⟩))
theorem wp_region_H {id : Nat} {a : Act} {w : World} (S : World → Prop) (n : Nat) (hn : ops.size = n) (hm : P.follows .mixedOrders = true) (h : wpAnyH P .any ops Q S n (Array.replicate n false) a w.drew) : (Code.region id ops true).wp P Q a w := by
  subst hn
  exact wp_region_held hm h
end
theorem ret_goes {a b : Bool} (h : a = b) : Ending.returned (.bool a) = .returned (.bool b) := by rw [h]
/-- Two areas in blocks of their own. -/
structure Two (w0 : World) (a b : AreaV) (x : Nat) (w : World) : Prop where
  low : Below w0.heap.size w0 w
  l : Blk w x 79 (areaCells a)
  r : Blk w (x + 1) 79 (areaCells b)
theorem Two.thru {w0 w w' : World} {a b : AreaV} {x : Nat} (h : Two w0 a b x w) (hb : Below w.heap.size w w') : Two w0 a b x w' := ⟨below_thru h.low hb, h.l.thru hb, h.r.thru hb⟩
theorem Two.held {w0 w : World} {a b : AreaV} {x : Nat} (h : Two w0 a b x w) :
    w.cell? ⟨x, 0, none⟩ = some (.int .i64 a.start) ∧ w.cell? ⟨x, 1, none⟩ = some (.int .i64 a.stop) ∧ w.cell? ⟨x, 2, none⟩ = some (.int .i64 a.prot) ∧ w.cell? ⟨x, 3, none⟩ = some (.bool a.shared) ∧ w.cell? ⟨x, 4, none⟩ = some (.int .i64 a.back) ∧ w.cell? ⟨x, 5, none⟩ = some (.int .i64 a.off) ∧
    w.cell? ⟨x + 1, 0, none⟩ = some (.int .i64 b.start) ∧ w.cell? ⟨x + 1, 1, none⟩ = some (.int .i64 b.stop) ∧ w.cell? ⟨x + 1, 2, none⟩ = some (.int .i64 b.prot) ∧ w.cell? ⟨x + 1, 3, none⟩ = some (.bool b.shared) ∧ w.cell? ⟨x + 1, 4, none⟩ = some (.int .i64 b.back) ∧ w.cell? ⟨x + 1, 5, none⟩ = some (.int .i64 b.off) :=
  ⟨h.l.at_ rfl, h.l.at_ rfl, h.l.at_ rfl, h.l.at_ rfl, h.l.at_ rfl, h.l.at_ rfl, h.r.at_ rfl, h.r.at_ rfl, h.r.at_ rfl, h.r.at_ rfl, h.r.at_ rfl, h.r.at_ rfl⟩
set_option maxRecDepth 100000 in
set_option maxHeartbeats 4000000 in
theorem area_goes (a b : AreaV) (w : World) (oa : a.Ok) (ob : b.Ok) : Calls Try.prog 67 #[.agg (areaCells a), .agg (areaCells b)] w fun e w' => e = .returned (.bool (a.goes b)) ∧ Below w.heap.size w w' := by
  have HFA := Lib.hid (fun w => area_formed a w oa)
  have HFB := Lib.hid (fun w => area_formed b w ob)
  have HB := Lib.hid (Below.refl w.heap.size w)
  obtain ⟨G, hG⟩ : ∃ G, a.goes b = G := ⟨_, rfl⟩
  rw [hG]
  have HG := Lib.hid hG.symm
  unfold AreaV.goes at HG
  clear hG
  have HOFF := Lib.hid (fun (hf : a.formedB = true) (w : World) => area_off a w hf)
  obtain ⟨a0, a1, a2, a3, a4, a5⟩ := a
  obtain ⟨b0, b1, b2, b3, b4, b5⟩ := b
  clear oa ob
  simp only [areaCells] at HFA HFB HOFF ⊢
  obtain ⟨O, hO⟩ : ∃ O, AreaV.offAt ⟨a0, a1, a2, a3, a4, a5⟩ a1 = O := ⟨_, rfl⟩
  simp only [hO] at HOFF HG
  clear hO
  obtain ⟨fa, hfa⟩ : ∃ fa, AreaV.formedB ⟨a0, a1, a2, a3, a4, a5⟩ = fa := ⟨_, rfl⟩
  obtain ⟨fb, hfb⟩ : ∃ fb, AreaV.formedB ⟨b0, b1, b2, b3, b4, b5⟩ = fb := ⟨_, rfl⟩
  simp only [hfa, hfb] at HFA HFB HG HOFF
  clear hfa hfb
  go_enter Try.func67, Try.ntmps67
  replace HB := Lib.hid (below_thru HB.out (below_alloc0 w (.cells #[.int .i64 a0, .int .i64 a1, .int .i64 a2, .bool a3, .int .i64 a4, .int .i64 a5] 79)))
  have HX := Lib.hid (Blk.new w 79 #[.int .i64 a0, .int .i64 a1, .int .i64 a2, .bool a3, .int .i64 a4, .int .i64 a5])
  go_upto_region 1 with fail
  have HZ := Lib.hid (World.size_alloc w (.cells #[.int .i64 a0, .int .i64 a1, .int .i64 a2, .bool a3, .int .i64 a4, .int .i64 a5] 79))
  obtain ⟨x, hx⟩ : ∃ x, w.heap.size = x := ⟨_, rfl⟩
  simp only [hx] at HX HZ ⊢
  replace hx := Lib.hid hx
  generalize w.alloc (.cells #[.int .i64 a0, .int .i64 a1, .int .i64 a2, .bool a3, .int .i64 a4, .int .i64 a5] 79) = w1 at *
  replace HB := Lib.hid (below_thru HB.out (below_alloc0 w1 (.cells #[.int .i64 b0, .int .i64 b1, .int .i64 b2, .bool b3, .int .i64 b4, .int .i64 b5] 79)))
  replace HX := Lib.hid (HX.out.thru (below_alloc0 w1 (.cells #[.int .i64 b0, .int .i64 b1, .int .i64 b2, .bool b3, .int .i64 b4, .int .i64 b5] 79)))
  have HY := Lib.hid (Blk.new w1 79 #[.int .i64 b0, .int .i64 b1, .int .i64 b2, .bool b3, .int .i64 b4, .int .i64 b5])
  rw [HZ.out] at HY
  try simp only [HZ.out]
  replace HZ := Lib.hid (show (w1.alloc (.cells #[.int .i64 b0, .int .i64 b1, .int .i64 b2, .bool b3, .int .i64 b4, .int .i64 b5] 79)).heap.size = x + 1 + 1 by rw [World.size_alloc, HZ.out])
  generalize w1.alloc (.cells #[.int .i64 b0, .int .i64 b1, .int .i64 b2, .bool b3, .int .i64 b4, .int .i64 b5] 79) = w2 at *
  have HT0 := Lib.hid (show Two w ⟨a0, a1, a2, a3, a4, a5⟩ ⟨b0, b1, b2, b3, b4, b5⟩ x w2 from ⟨HB.out, HX.out, HY.out⟩)
  have HT := Lib.hid (HT0.out.thru (show Below w2.heap.size w2 w2.drew from below_drewN0 w2 1))
  clear HX HY HZ HB hx HT0
  refine wp_region_H (fun z : World => z.cell? ⟨x, 0, none⟩ = some (.int .i64 a0) ∧ z.cell? ⟨x, 1, none⟩ = some (.int .i64 a1) ∧ z.cell? ⟨x, 2, none⟩ = some (.int .i64 a2) ∧ z.cell? ⟨x, 3, none⟩ = some (.bool a3) ∧ z.cell? ⟨x, 4, none⟩ = some (.int .i64 a4) ∧ z.cell? ⟨x, 5, none⟩ = some (.int .i64 a5) ∧ z.cell? ⟨x + 1, 0, none⟩ = some (.int .i64 b0) ∧ z.cell? ⟨x + 1, 1, none⟩ = some (.int .i64 b1) ∧ z.cell? ⟨x + 1, 2, none⟩ = some (.int .i64 b2) ∧ z.cell? ⟨x + 1, 3, none⟩ = some (.bool b3) ∧ z.cell? ⟨x + 1, 4, none⟩ = some (.int .i64 b4) ∧ z.cell? ⟨x + 1, 5, none⟩ = some (.int .i64 b5)) 44 (by rfl) (by kernel_rfl) ?_
  have hS : (fun z : World => z.cell? ⟨x, 0, none⟩ = some (.int .i64 a0) ∧ z.cell? ⟨x, 1, none⟩ = some (.int .i64 a1) ∧ z.cell? ⟨x, 2, none⟩ = some (.int .i64 a2) ∧ z.cell? ⟨x, 3, none⟩ = some (.bool a3) ∧ z.cell? ⟨x, 4, none⟩ = some (.int .i64 a4) ∧ z.cell? ⟨x, 5, none⟩ = some (.int .i64 a5) ∧ z.cell? ⟨x + 1, 0, none⟩ = some (.int .i64 b0) ∧ z.cell? ⟨x + 1, 1, none⟩ = some (.int .i64 b1) ∧ z.cell? ⟨x + 1, 2, none⟩ = some (.int .i64 b2) ∧ z.cell? ⟨x + 1, 3, none⟩ = some (.bool b3) ∧ z.cell? ⟨x + 1, 4, none⟩ = some (.int .i64 b4) ∧ z.cell? ⟨x + 1, 5, none⟩ = some (.int .i64 b5)) w2.drew := HT.out.held
  cases fa with
  | false =>
    try simp only [Array.replicate, List.replicate, List.setIfInBounds_toArray]
    refine wpAnyH_takes (i := 0) (d := 5) (v := ?_) rfl rfl (by kernel_rfl) (fun _ _ _ h => h) (Or.inl ⟨by rfl, ?_⟩) hS ?_
    rotate_left
    · intro wq hq; (try dsimp only at hq); obtain ⟨hq1, hq2, hq3, hq4, hq5, hq6, hq7, hq8, hq9, hq10, hq11, hq12⟩ := hq; go_simp; try with_reducible rfl
    simp only [List.setIfInBounds_toArray, List.set_cons_zero, List.set_cons_succ]
    refine wpAnyH_one (i := 1) (by kernel_rfl) rfl (by rfl) (fun K hK => ?_)
    simp only [List.getElem_toArray, List.getElem_cons_succ, List.getElem_cons_zero]
    go_simp
    refine (HFA.out _).mono ?_
    rintro e wa ⟨rfl, hb⟩
    have HTa := Lib.hid (HT.out.thru hb)
    refine hK.out _ _ HTa.out.held ?_
    clear hK K hb hS
    have hS := HTa.out.held
    try simp only [Act.put, List.setIfInBounds_toArray, List.set_cons_zero, List.set_cons_succ]
    refine wpAnyH_takes (i := 2) (d := 7) (v := ?_) rfl rfl (by kernel_rfl) (fun _ _ _ h => h) (Or.inl ⟨by rfl, ?_⟩) hS ?_
    rotate_left
    · intro wq hq; (try dsimp only at hq); obtain ⟨hq1, hq2, hq3, hq4, hq5, hq6, hq7, hq8, hq9, hq10, hq11, hq12⟩ := hq; go_simp; try with_reducible rfl
    simp only [List.setIfInBounds_toArray, List.set_cons_zero, List.set_cons_succ]
    refine wpAnyH_takes (i := 3) (d := 8) (v := undef) rfl rfl (by kernel_rfl) (fun _ _ _ h => h) (Or.inr ⟨by rfl, by rfl⟩) hS ?_
    simp only [List.setIfInBounds_toArray, List.set_cons_zero, List.set_cons_succ]
    refine wpAnyH_takes (i := 4) (d := 9) (v := undef) rfl rfl (by kernel_rfl) (fun _ _ _ h => h) (Or.inr ⟨by rfl, by rfl⟩) hS ?_
    simp only [List.setIfInBounds_toArray, List.set_cons_zero, List.set_cons_succ]
    refine wpAnyH_takes (i := 5) (d := 10) (v := ?_) rfl rfl (by kernel_rfl) (fun _ _ _ h => h) (Or.inl ⟨by rfl, ?_⟩) hS ?_
    rotate_left
    · intro wq hq; (try dsimp only at hq); obtain ⟨hq1, hq2, hq3, hq4, hq5, hq6, hq7, hq8, hq9, hq10, hq11, hq12⟩ := hq; go_simp; try with_reducible rfl
    simp only [List.setIfInBounds_toArray, List.set_cons_zero, List.set_cons_succ]
    refine wpAnyH_takes (i := 6) (d := 11) (v := ?_) rfl rfl (by kernel_rfl) (fun _ _ _ h => h) (Or.inl ⟨by rfl, ?_⟩) hS ?_
    rotate_left
    · intro wq hq; (try dsimp only at hq); obtain ⟨hq1, hq2, hq3, hq4, hq5, hq6, hq7, hq8, hq9, hq10, hq11, hq12⟩ := hq; go_simp; try with_reducible rfl
    simp only [List.setIfInBounds_toArray, List.set_cons_zero, List.set_cons_succ]
    refine wpAnyH_takes (i := 7) (d := 12) (v := undef) rfl rfl (by kernel_rfl) (fun _ _ _ h => h) (Or.inr ⟨by rfl, by rfl⟩) hS ?_
    simp only [List.setIfInBounds_toArray, List.set_cons_zero, List.set_cons_succ]
    refine wpAnyH_takes (i := 8) (d := 13) (v := undef) rfl rfl (by kernel_rfl) (fun _ _ _ h => h) (Or.inr ⟨by rfl, by rfl⟩) hS ?_
    simp only [List.setIfInBounds_toArray, List.set_cons_zero, List.set_cons_succ]
    refine wpAnyH_takes (i := 9) (d := 14) (v := undef) rfl rfl (by kernel_rfl) (fun _ _ _ h => h) (Or.inr ⟨by rfl, by rfl⟩) hS ?_
    simp only [List.setIfInBounds_toArray, List.set_cons_zero, List.set_cons_succ]
    refine wpAnyH_takes (i := 10) (d := 15) (v := undef) rfl rfl (by kernel_rfl) (fun _ _ _ h => h) (Or.inr ⟨by rfl, by rfl⟩) hS ?_
    simp only [List.setIfInBounds_toArray, List.set_cons_zero, List.set_cons_succ]
    refine wpAnyH_takes (i := 11) (d := 16) (v := undef) rfl rfl (by kernel_rfl) (fun _ _ _ h => h) (Or.inr ⟨by rfl, by rfl⟩) hS ?_
    simp only [List.setIfInBounds_toArray, List.set_cons_zero, List.set_cons_succ]
    refine wpAnyH_takes (i := 12) (d := 17) (v := ?_) rfl rfl (by kernel_rfl) (fun _ _ _ h => h) (Or.inl ⟨by rfl, ?_⟩) hS ?_
    rotate_left
    · intro wq hq; (try dsimp only at hq); obtain ⟨hq1, hq2, hq3, hq4, hq5, hq6, hq7, hq8, hq9, hq10, hq11, hq12⟩ := hq; go_simp; try with_reducible rfl
    simp only [List.setIfInBounds_toArray, List.set_cons_zero, List.set_cons_succ]
    refine wpAnyH_takes (i := 13) (d := 18) (v := ?_) rfl rfl (by kernel_rfl) (fun _ _ _ h => h) (Or.inl ⟨by rfl, ?_⟩) hS ?_
    rotate_left
    · intro wq hq; (try dsimp only at hq); obtain ⟨hq1, hq2, hq3, hq4, hq5, hq6, hq7, hq8, hq9, hq10, hq11, hq12⟩ := hq; go_simp; try with_reducible rfl
    simp only [List.setIfInBounds_toArray, List.set_cons_zero, List.set_cons_succ]
    refine wpAnyH_takes (i := 14) (d := 19) (v := undef) rfl rfl (by kernel_rfl) (fun _ _ _ h => h) (Or.inr ⟨by rfl, by rfl⟩) hS ?_
    simp only [List.setIfInBounds_toArray, List.set_cons_zero, List.set_cons_succ]
    refine wpAnyH_takes (i := 15) (d := 20) (v := undef) rfl rfl (by kernel_rfl) (fun _ _ _ h => h) (Or.inr ⟨by rfl, by rfl⟩) hS ?_
    simp only [List.setIfInBounds_toArray, List.set_cons_zero, List.set_cons_succ]
    refine wpAnyH_takes (i := 16) (d := 21) (v := undef) rfl rfl (by kernel_rfl) (fun _ _ _ h => h) (Or.inr ⟨by rfl, by rfl⟩) hS ?_
    simp only [List.setIfInBounds_toArray, List.set_cons_zero, List.set_cons_succ]
    refine wpAnyH_takes (i := 17) (d := 22) (v := undef) rfl rfl (by kernel_rfl) (fun _ _ _ h => h) (Or.inr ⟨by rfl, by rfl⟩) hS ?_
    simp only [List.setIfInBounds_toArray, List.set_cons_zero, List.set_cons_succ]
    refine wpAnyH_takes (i := 18) (d := 23) (v := undef) rfl rfl (by kernel_rfl) (fun _ _ _ h => h) (Or.inr ⟨by rfl, by rfl⟩) hS ?_
    simp only [List.setIfInBounds_toArray, List.set_cons_zero, List.set_cons_succ]
    refine wpAnyH_takes (i := 19) (d := 24) (v := ?_) rfl rfl (by kernel_rfl) (fun _ _ _ h => h) (Or.inl ⟨by rfl, ?_⟩) hS ?_
    rotate_left
    · intro wq hq; (try dsimp only at hq); obtain ⟨hq1, hq2, hq3, hq4, hq5, hq6, hq7, hq8, hq9, hq10, hq11, hq12⟩ := hq; go_simp; try with_reducible rfl
    simp only [List.setIfInBounds_toArray, List.set_cons_zero, List.set_cons_succ]
    refine wpAnyH_takes (i := 20) (d := 25) (v := ?_) rfl rfl (by kernel_rfl) (fun _ _ _ h => h) (Or.inl ⟨by rfl, ?_⟩) hS ?_
    rotate_left
    · intro wq hq; (try dsimp only at hq); obtain ⟨hq1, hq2, hq3, hq4, hq5, hq6, hq7, hq8, hq9, hq10, hq11, hq12⟩ := hq; go_simp; try with_reducible rfl
    simp only [List.setIfInBounds_toArray, List.set_cons_zero, List.set_cons_succ]
    refine wpAnyH_takes (i := 21) (d := 26) (v := undef) rfl rfl (by kernel_rfl) (fun _ _ _ h => h) (Or.inr ⟨by rfl, by rfl⟩) hS ?_
    simp only [List.setIfInBounds_toArray, List.set_cons_zero, List.set_cons_succ]
    refine wpAnyH_takes (i := 22) (d := 27) (v := undef) rfl rfl (by kernel_rfl) (fun _ _ _ h => h) (Or.inr ⟨by rfl, by rfl⟩) hS ?_
    simp only [List.setIfInBounds_toArray, List.set_cons_zero, List.set_cons_succ]
    refine wpAnyH_takes (i := 23) (d := 28) (v := undef) rfl rfl (by kernel_rfl) (fun _ _ _ h => h) (Or.inr ⟨by rfl, by rfl⟩) hS ?_
    simp only [List.setIfInBounds_toArray, List.set_cons_zero, List.set_cons_succ]
    refine wpAnyH_takes (i := 24) (d := 29) (v := undef) rfl rfl (by kernel_rfl) (fun _ _ _ h => h) (Or.inr ⟨by rfl, by rfl⟩) hS ?_
    simp only [List.setIfInBounds_toArray, List.set_cons_zero, List.set_cons_succ]
    refine wpAnyH_takes (i := 25) (d := 30) (v := undef) rfl rfl (by kernel_rfl) (fun _ _ _ h => h) (Or.inr ⟨by rfl, by rfl⟩) hS ?_
    simp only [List.setIfInBounds_toArray, List.set_cons_zero, List.set_cons_succ]
    refine wpAnyH_takes (i := 26) (d := 31) (v := ?_) rfl rfl (by kernel_rfl) (fun _ _ _ h => h) (Or.inl ⟨by rfl, ?_⟩) hS ?_
    rotate_left
    · intro wq hq; (try dsimp only at hq); obtain ⟨hq1, hq2, hq3, hq4, hq5, hq6, hq7, hq8, hq9, hq10, hq11, hq12⟩ := hq; go_simp; try with_reducible rfl
    simp only [List.setIfInBounds_toArray, List.set_cons_zero, List.set_cons_succ]
    refine wpAnyH_takes (i := 27) (d := 32) (v := ?_) rfl rfl (by kernel_rfl) (fun _ _ _ h => h) (Or.inl ⟨by rfl, ?_⟩) hS ?_
    rotate_left
    · intro wq hq; (try dsimp only at hq); obtain ⟨hq1, hq2, hq3, hq4, hq5, hq6, hq7, hq8, hq9, hq10, hq11, hq12⟩ := hq; go_simp; try with_reducible rfl
    simp only [List.setIfInBounds_toArray, List.set_cons_zero, List.set_cons_succ]
    refine wpAnyH_takes (i := 28) (d := 33) (v := undef) rfl rfl (by kernel_rfl) (fun _ _ _ h => h) (Or.inr ⟨by rfl, by rfl⟩) hS ?_
    simp only [List.setIfInBounds_toArray, List.set_cons_zero, List.set_cons_succ]
    refine wpAnyH_takes (i := 29) (d := 34) (v := undef) rfl rfl (by kernel_rfl) (fun _ _ _ h => h) (Or.inr ⟨by rfl, by rfl⟩) hS ?_
    simp only [List.setIfInBounds_toArray, List.set_cons_zero, List.set_cons_succ]
    refine wpAnyH_takes (i := 30) (d := 35) (v := undef) rfl rfl (by kernel_rfl) (fun _ _ _ h => h) (Or.inr ⟨by rfl, by rfl⟩) hS ?_
    simp only [List.setIfInBounds_toArray, List.set_cons_zero, List.set_cons_succ]
    refine wpAnyH_takes (i := 31) (d := 36) (v := undef) rfl rfl (by kernel_rfl) (fun _ _ _ h => h) (Or.inr ⟨by rfl, by rfl⟩) hS ?_
    simp only [List.setIfInBounds_toArray, List.set_cons_zero, List.set_cons_succ]
    refine wpAnyH_takes (i := 32) (d := 37) (v := undef) rfl rfl (by kernel_rfl) (fun _ _ _ h => h) (Or.inr ⟨by rfl, by rfl⟩) hS ?_
    simp only [List.setIfInBounds_toArray, List.set_cons_zero, List.set_cons_succ]
    refine wpAnyH_takes (i := 33) (d := 38) (v := ?_) rfl rfl (by kernel_rfl) (fun _ _ _ h => h) (Or.inl ⟨by rfl, ?_⟩) hS ?_
    rotate_left
    · intro wq hq; (try dsimp only at hq); obtain ⟨hq1, hq2, hq3, hq4, hq5, hq6, hq7, hq8, hq9, hq10, hq11, hq12⟩ := hq; go_simp; try with_reducible rfl
    simp only [List.setIfInBounds_toArray, List.set_cons_zero, List.set_cons_succ]
    refine wpAnyH_takes (i := 34) (d := 39) (v := ?_) rfl rfl (by kernel_rfl) (fun _ _ _ h => h) (Or.inl ⟨by rfl, ?_⟩) hS ?_
    rotate_left
    · intro wq hq; (try dsimp only at hq); obtain ⟨hq1, hq2, hq3, hq4, hq5, hq6, hq7, hq8, hq9, hq10, hq11, hq12⟩ := hq; go_simp; try with_reducible rfl
    simp only [List.setIfInBounds_toArray, List.set_cons_zero, List.set_cons_succ]
    refine wpAnyH_takes (i := 35) (d := 40) (v := undef) rfl rfl (by kernel_rfl) (fun _ _ _ h => h) (Or.inr ⟨by rfl, by rfl⟩) hS ?_
    simp only [List.setIfInBounds_toArray, List.set_cons_zero, List.set_cons_succ]
    refine wpAnyH_takes (i := 36) (d := 41) (v := undef) rfl rfl (by kernel_rfl) (fun _ _ _ h => h) (Or.inr ⟨by rfl, by rfl⟩) hS ?_
    simp only [List.setIfInBounds_toArray, List.set_cons_zero, List.set_cons_succ]
    refine wpAnyH_takes (i := 37) (d := 42) (v := undef) rfl rfl (by kernel_rfl) (fun _ _ _ h => h) (Or.inr ⟨by rfl, by rfl⟩) hS ?_
    simp only [List.setIfInBounds_toArray, List.set_cons_zero, List.set_cons_succ]
    refine wpAnyH_takes (i := 38) (d := 43) (v := undef) rfl rfl (by kernel_rfl) (fun _ _ _ h => h) (Or.inr ⟨by rfl, by rfl⟩) hS ?_
    simp only [List.setIfInBounds_toArray, List.set_cons_zero, List.set_cons_succ]
    refine wpAnyH_takes (i := 39) (d := 44) (v := undef) rfl rfl (by kernel_rfl) (fun _ _ _ h => h) (Or.inr ⟨by rfl, by rfl⟩) hS ?_
    simp only [List.setIfInBounds_toArray, List.set_cons_zero, List.set_cons_succ]
    refine wpAnyH_takes (i := 40) (d := 45) (v := undef) rfl rfl (by kernel_rfl) (fun _ _ _ h => h) (Or.inr ⟨by rfl, by rfl⟩) hS ?_
    simp only [List.setIfInBounds_toArray, List.set_cons_zero, List.set_cons_succ]
    refine wpAnyH_takes (i := 41) (d := 46) (v := undef) rfl rfl (by kernel_rfl) (fun _ _ _ h => h) (Or.inr ⟨by rfl, by rfl⟩) hS ?_
    simp only [List.setIfInBounds_toArray, List.set_cons_zero, List.set_cons_succ]
    refine wpAnyH_takes (i := 42) (d := 47) (v := ?_) rfl rfl (by kernel_rfl) (fun _ _ _ h => h) (Or.inl ⟨by rfl, ?_⟩) hS ?_
    rotate_left
    · intro wq hq; (try dsimp only at hq); obtain ⟨hq1, hq2, hq3, hq4, hq5, hq6, hq7, hq8, hq9, hq10, hq11, hq12⟩ := hq; go_simp; try with_reducible rfl
    simp only [List.setIfInBounds_toArray, List.set_cons_zero, List.set_cons_succ]
    refine wpAnyH_takes (i := 43) (d := 4) (v := ?_) rfl rfl (by kernel_rfl) (fun _ _ _ h => h) (Or.inl ⟨by rfl, ?_⟩) hS ?_
    rotate_left
    · intro wq hq; (try dsimp only at hq); obtain ⟨hq1, hq2, hq3, hq4, hq5, hq6, hq7, hq8, hq9, hq10, hq11, hq12⟩ := hq; go_simp; try with_reducible rfl
    simp only [List.setIfInBounds_toArray, List.set_cons_zero, List.set_cons_succ]
    refine wpAnyH_done (by kernel_rfl) ?_ _
    go_wp2
    go_ret
    exact ⟨ret_goes (by rw [HG.out]; simp_all), HTa.out.low⟩
  | true =>
    cases fb with
    | false =>
      try simp only [Array.replicate, List.replicate, List.setIfInBounds_toArray]
      refine wpAnyH_takes (i := 0) (d := 5) (v := ?_) rfl rfl (by kernel_rfl) (fun _ _ _ h => h) (Or.inl ⟨by rfl, ?_⟩) hS ?_
      rotate_left
      · intro wq hq; (try dsimp only at hq); obtain ⟨hq1, hq2, hq3, hq4, hq5, hq6, hq7, hq8, hq9, hq10, hq11, hq12⟩ := hq; go_simp; try with_reducible rfl
      simp only [List.setIfInBounds_toArray, List.set_cons_zero, List.set_cons_succ]
      refine wpAnyH_one (i := 1) (by kernel_rfl) rfl (by rfl) (fun K hK => ?_)
      simp only [List.getElem_toArray, List.getElem_cons_succ, List.getElem_cons_zero]
      go_simp
      refine (HFA.out _).mono ?_
      rintro e wa ⟨rfl, hb⟩
      have HTa := Lib.hid (HT.out.thru hb)
      refine hK.out _ _ HTa.out.held ?_
      clear hK K hb hS
      have hS := HTa.out.held
      try simp only [Act.put, List.setIfInBounds_toArray, List.set_cons_zero, List.set_cons_succ]
      refine wpAnyH_takes (i := 2) (d := 7) (v := ?_) rfl rfl (by kernel_rfl) (fun _ _ _ h => h) (Or.inl ⟨by rfl, ?_⟩) hS ?_
      rotate_left
      · intro wq hq; (try dsimp only at hq); obtain ⟨hq1, hq2, hq3, hq4, hq5, hq6, hq7, hq8, hq9, hq10, hq11, hq12⟩ := hq; go_simp; try with_reducible rfl
      simp only [List.setIfInBounds_toArray, List.set_cons_zero, List.set_cons_succ]
      refine wpAnyH_takes (i := 3) (d := 8) (v := ?_) rfl rfl (by kernel_rfl) (fun _ _ _ h => h) (Or.inl ⟨by rfl, ?_⟩) hS ?_
      rotate_left
      · intro wq hq; (try dsimp only at hq); obtain ⟨hq1, hq2, hq3, hq4, hq5, hq6, hq7, hq8, hq9, hq10, hq11, hq12⟩ := hq; go_simp; try with_reducible rfl
      simp only [List.setIfInBounds_toArray, List.set_cons_zero, List.set_cons_succ]
      refine wpAnyH_one (i := 4) (by kernel_rfl) rfl (by rfl) (fun K hK => ?_)
      simp only [List.getElem_toArray, List.getElem_cons_succ, List.getElem_cons_zero]
      go_simp
      refine (HFB.out _).mono ?_
      rintro e wb ⟨rfl, hb⟩
      have HTb := Lib.hid (HTa.out.thru hb)
      refine hK.out _ _ HTb.out.held ?_
      clear hK K hb hS
      have hS := HTb.out.held
      try simp only [Act.put, List.setIfInBounds_toArray, List.set_cons_zero, List.set_cons_succ]
      refine wpAnyH_takes (i := 5) (d := 10) (v := ?_) rfl rfl (by kernel_rfl) (fun _ _ _ h => h) (Or.inl ⟨by rfl, ?_⟩) hS ?_
      rotate_left
      · intro wq hq; (try dsimp only at hq); obtain ⟨hq1, hq2, hq3, hq4, hq5, hq6, hq7, hq8, hq9, hq10, hq11, hq12⟩ := hq; go_simp; try with_reducible rfl
      simp only [List.setIfInBounds_toArray, List.set_cons_zero, List.set_cons_succ]
      refine wpAnyH_takes (i := 6) (d := 11) (v := ?_) rfl rfl (by kernel_rfl) (fun _ _ _ h => h) (Or.inl ⟨by rfl, ?_⟩) hS ?_
      rotate_left
      · intro wq hq; (try dsimp only at hq); obtain ⟨hq1, hq2, hq3, hq4, hq5, hq6, hq7, hq8, hq9, hq10, hq11, hq12⟩ := hq; go_simp; try with_reducible rfl
      simp only [List.setIfInBounds_toArray, List.set_cons_zero, List.set_cons_succ]
      refine wpAnyH_takes (i := 7) (d := 12) (v := undef) rfl rfl (by kernel_rfl) (fun _ _ _ h => h) (Or.inr ⟨by rfl, by rfl⟩) hS ?_
      simp only [List.setIfInBounds_toArray, List.set_cons_zero, List.set_cons_succ]
      refine wpAnyH_takes (i := 8) (d := 13) (v := undef) rfl rfl (by kernel_rfl) (fun _ _ _ h => h) (Or.inr ⟨by rfl, by rfl⟩) hS ?_
      simp only [List.setIfInBounds_toArray, List.set_cons_zero, List.set_cons_succ]
      refine wpAnyH_takes (i := 9) (d := 14) (v := undef) rfl rfl (by kernel_rfl) (fun _ _ _ h => h) (Or.inr ⟨by rfl, by rfl⟩) hS ?_
      simp only [List.setIfInBounds_toArray, List.set_cons_zero, List.set_cons_succ]
      refine wpAnyH_takes (i := 10) (d := 15) (v := undef) rfl rfl (by kernel_rfl) (fun _ _ _ h => h) (Or.inr ⟨by rfl, by rfl⟩) hS ?_
      simp only [List.setIfInBounds_toArray, List.set_cons_zero, List.set_cons_succ]
      refine wpAnyH_takes (i := 11) (d := 16) (v := undef) rfl rfl (by kernel_rfl) (fun _ _ _ h => h) (Or.inr ⟨by rfl, by rfl⟩) hS ?_
      simp only [List.setIfInBounds_toArray, List.set_cons_zero, List.set_cons_succ]
      refine wpAnyH_takes (i := 12) (d := 17) (v := ?_) rfl rfl (by kernel_rfl) (fun _ _ _ h => h) (Or.inl ⟨by rfl, ?_⟩) hS ?_
      rotate_left
      · intro wq hq; (try dsimp only at hq); obtain ⟨hq1, hq2, hq3, hq4, hq5, hq6, hq7, hq8, hq9, hq10, hq11, hq12⟩ := hq; go_simp; try with_reducible rfl
      simp only [List.setIfInBounds_toArray, List.set_cons_zero, List.set_cons_succ]
      refine wpAnyH_takes (i := 13) (d := 18) (v := ?_) rfl rfl (by kernel_rfl) (fun _ _ _ h => h) (Or.inl ⟨by rfl, ?_⟩) hS ?_
      rotate_left
      · intro wq hq; (try dsimp only at hq); obtain ⟨hq1, hq2, hq3, hq4, hq5, hq6, hq7, hq8, hq9, hq10, hq11, hq12⟩ := hq; go_simp; try with_reducible rfl
      simp only [List.setIfInBounds_toArray, List.set_cons_zero, List.set_cons_succ]
      refine wpAnyH_takes (i := 14) (d := 19) (v := undef) rfl rfl (by kernel_rfl) (fun _ _ _ h => h) (Or.inr ⟨by rfl, by rfl⟩) hS ?_
      simp only [List.setIfInBounds_toArray, List.set_cons_zero, List.set_cons_succ]
      refine wpAnyH_takes (i := 15) (d := 20) (v := undef) rfl rfl (by kernel_rfl) (fun _ _ _ h => h) (Or.inr ⟨by rfl, by rfl⟩) hS ?_
      simp only [List.setIfInBounds_toArray, List.set_cons_zero, List.set_cons_succ]
      refine wpAnyH_takes (i := 16) (d := 21) (v := undef) rfl rfl (by kernel_rfl) (fun _ _ _ h => h) (Or.inr ⟨by rfl, by rfl⟩) hS ?_
      simp only [List.setIfInBounds_toArray, List.set_cons_zero, List.set_cons_succ]
      refine wpAnyH_takes (i := 17) (d := 22) (v := undef) rfl rfl (by kernel_rfl) (fun _ _ _ h => h) (Or.inr ⟨by rfl, by rfl⟩) hS ?_
      simp only [List.setIfInBounds_toArray, List.set_cons_zero, List.set_cons_succ]
      refine wpAnyH_takes (i := 18) (d := 23) (v := undef) rfl rfl (by kernel_rfl) (fun _ _ _ h => h) (Or.inr ⟨by rfl, by rfl⟩) hS ?_
      simp only [List.setIfInBounds_toArray, List.set_cons_zero, List.set_cons_succ]
      refine wpAnyH_takes (i := 19) (d := 24) (v := ?_) rfl rfl (by kernel_rfl) (fun _ _ _ h => h) (Or.inl ⟨by rfl, ?_⟩) hS ?_
      rotate_left
      · intro wq hq; (try dsimp only at hq); obtain ⟨hq1, hq2, hq3, hq4, hq5, hq6, hq7, hq8, hq9, hq10, hq11, hq12⟩ := hq; go_simp; try with_reducible rfl
      simp only [List.setIfInBounds_toArray, List.set_cons_zero, List.set_cons_succ]
      refine wpAnyH_takes (i := 20) (d := 25) (v := ?_) rfl rfl (by kernel_rfl) (fun _ _ _ h => h) (Or.inl ⟨by rfl, ?_⟩) hS ?_
      rotate_left
      · intro wq hq; (try dsimp only at hq); obtain ⟨hq1, hq2, hq3, hq4, hq5, hq6, hq7, hq8, hq9, hq10, hq11, hq12⟩ := hq; go_simp; try with_reducible rfl
      simp only [List.setIfInBounds_toArray, List.set_cons_zero, List.set_cons_succ]
      refine wpAnyH_takes (i := 21) (d := 26) (v := undef) rfl rfl (by kernel_rfl) (fun _ _ _ h => h) (Or.inr ⟨by rfl, by rfl⟩) hS ?_
      simp only [List.setIfInBounds_toArray, List.set_cons_zero, List.set_cons_succ]
      refine wpAnyH_takes (i := 22) (d := 27) (v := undef) rfl rfl (by kernel_rfl) (fun _ _ _ h => h) (Or.inr ⟨by rfl, by rfl⟩) hS ?_
      simp only [List.setIfInBounds_toArray, List.set_cons_zero, List.set_cons_succ]
      refine wpAnyH_takes (i := 23) (d := 28) (v := undef) rfl rfl (by kernel_rfl) (fun _ _ _ h => h) (Or.inr ⟨by rfl, by rfl⟩) hS ?_
      simp only [List.setIfInBounds_toArray, List.set_cons_zero, List.set_cons_succ]
      refine wpAnyH_takes (i := 24) (d := 29) (v := undef) rfl rfl (by kernel_rfl) (fun _ _ _ h => h) (Or.inr ⟨by rfl, by rfl⟩) hS ?_
      simp only [List.setIfInBounds_toArray, List.set_cons_zero, List.set_cons_succ]
      refine wpAnyH_takes (i := 25) (d := 30) (v := undef) rfl rfl (by kernel_rfl) (fun _ _ _ h => h) (Or.inr ⟨by rfl, by rfl⟩) hS ?_
      simp only [List.setIfInBounds_toArray, List.set_cons_zero, List.set_cons_succ]
      refine wpAnyH_takes (i := 26) (d := 31) (v := ?_) rfl rfl (by kernel_rfl) (fun _ _ _ h => h) (Or.inl ⟨by rfl, ?_⟩) hS ?_
      rotate_left
      · intro wq hq; (try dsimp only at hq); obtain ⟨hq1, hq2, hq3, hq4, hq5, hq6, hq7, hq8, hq9, hq10, hq11, hq12⟩ := hq; go_simp; try with_reducible rfl
      simp only [List.setIfInBounds_toArray, List.set_cons_zero, List.set_cons_succ]
      refine wpAnyH_takes (i := 27) (d := 32) (v := ?_) rfl rfl (by kernel_rfl) (fun _ _ _ h => h) (Or.inl ⟨by rfl, ?_⟩) hS ?_
      rotate_left
      · intro wq hq; (try dsimp only at hq); obtain ⟨hq1, hq2, hq3, hq4, hq5, hq6, hq7, hq8, hq9, hq10, hq11, hq12⟩ := hq; go_simp; try with_reducible rfl
      simp only [List.setIfInBounds_toArray, List.set_cons_zero, List.set_cons_succ]
      refine wpAnyH_takes (i := 28) (d := 33) (v := undef) rfl rfl (by kernel_rfl) (fun _ _ _ h => h) (Or.inr ⟨by rfl, by rfl⟩) hS ?_
      simp only [List.setIfInBounds_toArray, List.set_cons_zero, List.set_cons_succ]
      refine wpAnyH_takes (i := 29) (d := 34) (v := undef) rfl rfl (by kernel_rfl) (fun _ _ _ h => h) (Or.inr ⟨by rfl, by rfl⟩) hS ?_
      simp only [List.setIfInBounds_toArray, List.set_cons_zero, List.set_cons_succ]
      refine wpAnyH_takes (i := 30) (d := 35) (v := undef) rfl rfl (by kernel_rfl) (fun _ _ _ h => h) (Or.inr ⟨by rfl, by rfl⟩) hS ?_
      simp only [List.setIfInBounds_toArray, List.set_cons_zero, List.set_cons_succ]
      refine wpAnyH_takes (i := 31) (d := 36) (v := undef) rfl rfl (by kernel_rfl) (fun _ _ _ h => h) (Or.inr ⟨by rfl, by rfl⟩) hS ?_
      simp only [List.setIfInBounds_toArray, List.set_cons_zero, List.set_cons_succ]
      refine wpAnyH_takes (i := 32) (d := 37) (v := undef) rfl rfl (by kernel_rfl) (fun _ _ _ h => h) (Or.inr ⟨by rfl, by rfl⟩) hS ?_
      simp only [List.setIfInBounds_toArray, List.set_cons_zero, List.set_cons_succ]
      refine wpAnyH_takes (i := 33) (d := 38) (v := ?_) rfl rfl (by kernel_rfl) (fun _ _ _ h => h) (Or.inl ⟨by rfl, ?_⟩) hS ?_
      rotate_left
      · intro wq hq; (try dsimp only at hq); obtain ⟨hq1, hq2, hq3, hq4, hq5, hq6, hq7, hq8, hq9, hq10, hq11, hq12⟩ := hq; go_simp; try with_reducible rfl
      simp only [List.setIfInBounds_toArray, List.set_cons_zero, List.set_cons_succ]
      refine wpAnyH_takes (i := 34) (d := 39) (v := ?_) rfl rfl (by kernel_rfl) (fun _ _ _ h => h) (Or.inl ⟨by rfl, ?_⟩) hS ?_
      rotate_left
      · intro wq hq; (try dsimp only at hq); obtain ⟨hq1, hq2, hq3, hq4, hq5, hq6, hq7, hq8, hq9, hq10, hq11, hq12⟩ := hq; go_simp; try with_reducible rfl
      simp only [List.setIfInBounds_toArray, List.set_cons_zero, List.set_cons_succ]
      refine wpAnyH_takes (i := 35) (d := 40) (v := undef) rfl rfl (by kernel_rfl) (fun _ _ _ h => h) (Or.inr ⟨by rfl, by rfl⟩) hS ?_
      simp only [List.setIfInBounds_toArray, List.set_cons_zero, List.set_cons_succ]
      refine wpAnyH_takes (i := 36) (d := 41) (v := undef) rfl rfl (by kernel_rfl) (fun _ _ _ h => h) (Or.inr ⟨by rfl, by rfl⟩) hS ?_
      simp only [List.setIfInBounds_toArray, List.set_cons_zero, List.set_cons_succ]
      refine wpAnyH_takes (i := 37) (d := 42) (v := undef) rfl rfl (by kernel_rfl) (fun _ _ _ h => h) (Or.inr ⟨by rfl, by rfl⟩) hS ?_
      simp only [List.setIfInBounds_toArray, List.set_cons_zero, List.set_cons_succ]
      refine wpAnyH_takes (i := 38) (d := 43) (v := undef) rfl rfl (by kernel_rfl) (fun _ _ _ h => h) (Or.inr ⟨by rfl, by rfl⟩) hS ?_
      simp only [List.setIfInBounds_toArray, List.set_cons_zero, List.set_cons_succ]
      refine wpAnyH_takes (i := 39) (d := 44) (v := undef) rfl rfl (by kernel_rfl) (fun _ _ _ h => h) (Or.inr ⟨by rfl, by rfl⟩) hS ?_
      simp only [List.setIfInBounds_toArray, List.set_cons_zero, List.set_cons_succ]
      refine wpAnyH_takes (i := 40) (d := 45) (v := undef) rfl rfl (by kernel_rfl) (fun _ _ _ h => h) (Or.inr ⟨by rfl, by rfl⟩) hS ?_
      simp only [List.setIfInBounds_toArray, List.set_cons_zero, List.set_cons_succ]
      refine wpAnyH_takes (i := 41) (d := 46) (v := undef) rfl rfl (by kernel_rfl) (fun _ _ _ h => h) (Or.inr ⟨by rfl, by rfl⟩) hS ?_
      simp only [List.setIfInBounds_toArray, List.set_cons_zero, List.set_cons_succ]
      refine wpAnyH_takes (i := 42) (d := 47) (v := ?_) rfl rfl (by kernel_rfl) (fun _ _ _ h => h) (Or.inl ⟨by rfl, ?_⟩) hS ?_
      rotate_left
      · intro wq hq; (try dsimp only at hq); obtain ⟨hq1, hq2, hq3, hq4, hq5, hq6, hq7, hq8, hq9, hq10, hq11, hq12⟩ := hq; go_simp; try with_reducible rfl
      simp only [List.setIfInBounds_toArray, List.set_cons_zero, List.set_cons_succ]
      refine wpAnyH_takes (i := 43) (d := 4) (v := ?_) rfl rfl (by kernel_rfl) (fun _ _ _ h => h) (Or.inl ⟨by rfl, ?_⟩) hS ?_
      rotate_left
      · intro wq hq; (try dsimp only at hq); obtain ⟨hq1, hq2, hq3, hq4, hq5, hq6, hq7, hq8, hq9, hq10, hq11, hq12⟩ := hq; go_simp; try with_reducible rfl
      simp only [List.setIfInBounds_toArray, List.set_cons_zero, List.set_cons_succ]
      refine wpAnyH_done (by kernel_rfl) ?_ _
      go_wp2
      go_ret
      exact ⟨ret_goes (by rw [HG.out]; simp_all), HTb.out.low⟩
    | true =>
      by_cases q2 : a1 = b0
      · subst q2
        by_cases q3 : a2 = b2
        · subst q3
          by_cases q4 : a3 = b3
          · subst q4
            by_cases q5 : a4 = b4
            · subst q5
              try simp only [Array.replicate, List.replicate, List.setIfInBounds_toArray]
              refine wpAnyH_takes (i := 0) (d := 5) (v := ?_) rfl rfl (by kernel_rfl) (fun _ _ _ h => h) (Or.inl ⟨by rfl, ?_⟩) hS ?_
              rotate_left
              · intro wq hq; (try dsimp only at hq); obtain ⟨hq1, hq2, hq3, hq4, hq5, hq6, hq7, hq8, hq9, hq10, hq11, hq12⟩ := hq; go_simp; try with_reducible rfl
              simp only [List.setIfInBounds_toArray, List.set_cons_zero, List.set_cons_succ]
              refine wpAnyH_one (i := 1) (by kernel_rfl) rfl (by rfl) (fun K hK => ?_)
              simp only [List.getElem_toArray, List.getElem_cons_succ, List.getElem_cons_zero]
              go_simp
              refine (HFA.out _).mono ?_
              rintro e wa ⟨rfl, hb⟩
              have HTa := Lib.hid (HT.out.thru hb)
              refine hK.out _ _ HTa.out.held ?_
              clear hK K hb hS
              have hS := HTa.out.held
              try simp only [Act.put, List.setIfInBounds_toArray, List.set_cons_zero, List.set_cons_succ]
              refine wpAnyH_takes (i := 2) (d := 7) (v := ?_) rfl rfl (by kernel_rfl) (fun _ _ _ h => h) (Or.inl ⟨by rfl, ?_⟩) hS ?_
              rotate_left
              · intro wq hq; (try dsimp only at hq); obtain ⟨hq1, hq2, hq3, hq4, hq5, hq6, hq7, hq8, hq9, hq10, hq11, hq12⟩ := hq; go_simp; try with_reducible rfl
              simp only [List.setIfInBounds_toArray, List.set_cons_zero, List.set_cons_succ]
              refine wpAnyH_takes (i := 3) (d := 8) (v := ?_) rfl rfl (by kernel_rfl) (fun _ _ _ h => h) (Or.inl ⟨by rfl, ?_⟩) hS ?_
              rotate_left
              · intro wq hq; (try dsimp only at hq); obtain ⟨hq1, hq2, hq3, hq4, hq5, hq6, hq7, hq8, hq9, hq10, hq11, hq12⟩ := hq; go_simp; try with_reducible rfl
              simp only [List.setIfInBounds_toArray, List.set_cons_zero, List.set_cons_succ]
              refine wpAnyH_one (i := 4) (by kernel_rfl) rfl (by rfl) (fun K hK => ?_)
              simp only [List.getElem_toArray, List.getElem_cons_succ, List.getElem_cons_zero]
              go_simp
              refine (HFB.out _).mono ?_
              rintro e wb ⟨rfl, hb⟩
              have HTb := Lib.hid (HTa.out.thru hb)
              refine hK.out _ _ HTb.out.held ?_
              clear hK K hb hS
              have hS := HTb.out.held
              try simp only [Act.put, List.setIfInBounds_toArray, List.set_cons_zero, List.set_cons_succ]
              refine wpAnyH_takes (i := 5) (d := 10) (v := ?_) rfl rfl (by kernel_rfl) (fun _ _ _ h => h) (Or.inl ⟨by rfl, ?_⟩) hS ?_
              rotate_left
              · intro wq hq; (try dsimp only at hq); obtain ⟨hq1, hq2, hq3, hq4, hq5, hq6, hq7, hq8, hq9, hq10, hq11, hq12⟩ := hq; go_simp; try with_reducible rfl
              simp only [List.setIfInBounds_toArray, List.set_cons_zero, List.set_cons_succ]
              refine wpAnyH_takes (i := 6) (d := 11) (v := ?_) rfl rfl (by kernel_rfl) (fun _ _ _ h => h) (Or.inl ⟨by rfl, ?_⟩) hS ?_
              rotate_left
              · intro wq hq; (try dsimp only at hq); obtain ⟨hq1, hq2, hq3, hq4, hq5, hq6, hq7, hq8, hq9, hq10, hq11, hq12⟩ := hq; go_simp; try with_reducible rfl
              simp only [List.setIfInBounds_toArray, List.set_cons_zero, List.set_cons_succ]
              refine wpAnyH_takes (i := 7) (d := 12) (v := ?_) rfl rfl (by kernel_rfl) (fun _ _ _ h => h) (Or.inl ⟨by rfl, ?_⟩) hS ?_
              rotate_left
              · intro wq hq; (try dsimp only at hq); obtain ⟨hq1, hq2, hq3, hq4, hq5, hq6, hq7, hq8, hq9, hq10, hq11, hq12⟩ := hq; go_simp; try with_reducible rfl
              simp only [List.setIfInBounds_toArray, List.set_cons_zero, List.set_cons_succ]
              refine wpAnyH_takes (i := 8) (d := 13) (v := ?_) rfl rfl (by kernel_rfl) (fun _ _ _ h => h) (Or.inl ⟨by rfl, ?_⟩) hS ?_
              rotate_left
              · intro wq hq; (try dsimp only at hq); obtain ⟨hq1, hq2, hq3, hq4, hq5, hq6, hq7, hq8, hq9, hq10, hq11, hq12⟩ := hq; go_simp; try with_reducible rfl
              simp only [List.setIfInBounds_toArray, List.set_cons_zero, List.set_cons_succ]
              refine wpAnyH_takes (i := 9) (d := 14) (v := ?_) rfl rfl (by kernel_rfl) (fun _ _ _ h => h) (Or.inl ⟨by rfl, ?_⟩) hS ?_
              rotate_left
              · intro wq hq; (try dsimp only at hq); obtain ⟨hq1, hq2, hq3, hq4, hq5, hq6, hq7, hq8, hq9, hq10, hq11, hq12⟩ := hq; go_simp; try with_reducible rfl
              simp only [List.setIfInBounds_toArray, List.set_cons_zero, List.set_cons_succ]
              refine wpAnyH_takes (i := 10) (d := 15) (v := ?_) rfl rfl (by kernel_rfl) (fun _ _ _ h => h) (Or.inl ⟨by rfl, ?_⟩) hS ?_
              rotate_left
              · intro wq hq; (try dsimp only at hq); obtain ⟨hq1, hq2, hq3, hq4, hq5, hq6, hq7, hq8, hq9, hq10, hq11, hq12⟩ := hq; go_simp; try with_reducible rfl
              simp only [List.setIfInBounds_toArray, List.set_cons_zero, List.set_cons_succ]
              refine wpAnyH_takes (i := 11) (d := 16) (v := ?_) rfl rfl (by kernel_rfl) (fun _ _ _ h => h) (Or.inl ⟨by rfl, ?_⟩) hS ?_
              rotate_left
              · intro wq hq; (try dsimp only at hq); obtain ⟨hq1, hq2, hq3, hq4, hq5, hq6, hq7, hq8, hq9, hq10, hq11, hq12⟩ := hq; go_simp; try with_reducible rfl
              simp only [List.setIfInBounds_toArray, List.set_cons_zero, List.set_cons_succ]
              refine wpAnyH_takes (i := 12) (d := 17) (v := ?_) rfl rfl (by kernel_rfl) (fun _ _ _ h => h) (Or.inl ⟨by rfl, ?_⟩) hS ?_
              rotate_left
              · intro wq hq; (try dsimp only at hq); obtain ⟨hq1, hq2, hq3, hq4, hq5, hq6, hq7, hq8, hq9, hq10, hq11, hq12⟩ := hq; go_simp; try with_reducible rfl
              simp only [List.setIfInBounds_toArray, List.set_cons_zero, List.set_cons_succ]
              refine wpAnyH_takes (i := 13) (d := 18) (v := ?_) rfl rfl (by kernel_rfl) (fun _ _ _ h => h) (Or.inl ⟨by rfl, ?_⟩) hS ?_
              rotate_left
              · intro wq hq; (try dsimp only at hq); obtain ⟨hq1, hq2, hq3, hq4, hq5, hq6, hq7, hq8, hq9, hq10, hq11, hq12⟩ := hq; go_simp; try with_reducible rfl
              simp only [List.setIfInBounds_toArray, List.set_cons_zero, List.set_cons_succ]
              refine wpAnyH_takes (i := 14) (d := 19) (v := ?_) rfl rfl (by kernel_rfl) (fun _ _ _ h => h) (Or.inl ⟨by rfl, ?_⟩) hS ?_
              rotate_left
              · intro wq hq; (try dsimp only at hq); obtain ⟨hq1, hq2, hq3, hq4, hq5, hq6, hq7, hq8, hq9, hq10, hq11, hq12⟩ := hq; go_simp; try with_reducible rfl
              simp only [List.setIfInBounds_toArray, List.set_cons_zero, List.set_cons_succ]
              refine wpAnyH_takes (i := 15) (d := 20) (v := ?_) rfl rfl (by kernel_rfl) (fun _ _ _ h => h) (Or.inl ⟨by rfl, ?_⟩) hS ?_
              rotate_left
              · intro wq hq; (try dsimp only at hq); obtain ⟨hq1, hq2, hq3, hq4, hq5, hq6, hq7, hq8, hq9, hq10, hq11, hq12⟩ := hq; go_simp; try with_reducible rfl
              simp only [List.setIfInBounds_toArray, List.set_cons_zero, List.set_cons_succ]
              refine wpAnyH_takes (i := 16) (d := 21) (v := ?_) rfl rfl (by kernel_rfl) (fun _ _ _ h => h) (Or.inl ⟨by rfl, ?_⟩) hS ?_
              rotate_left
              · intro wq hq; (try dsimp only at hq); obtain ⟨hq1, hq2, hq3, hq4, hq5, hq6, hq7, hq8, hq9, hq10, hq11, hq12⟩ := hq; go_simp; try with_reducible rfl
              simp only [List.setIfInBounds_toArray, List.set_cons_zero, List.set_cons_succ]
              refine wpAnyH_takes (i := 17) (d := 22) (v := ?_) rfl rfl (by kernel_rfl) (fun _ _ _ h => h) (Or.inl ⟨by rfl, ?_⟩) hS ?_
              rotate_left
              · intro wq hq; (try dsimp only at hq); obtain ⟨hq1, hq2, hq3, hq4, hq5, hq6, hq7, hq8, hq9, hq10, hq11, hq12⟩ := hq; go_simp; try with_reducible rfl
              simp only [List.setIfInBounds_toArray, List.set_cons_zero, List.set_cons_succ]
              refine wpAnyH_takes (i := 18) (d := 23) (v := ?_) rfl rfl (by kernel_rfl) (fun _ _ _ h => h) (Or.inl ⟨by rfl, ?_⟩) hS ?_
              rotate_left
              · intro wq hq; (try dsimp only at hq); obtain ⟨hq1, hq2, hq3, hq4, hq5, hq6, hq7, hq8, hq9, hq10, hq11, hq12⟩ := hq; go_simp; try with_reducible rfl
              simp only [List.setIfInBounds_toArray, List.set_cons_zero, List.set_cons_succ]
              refine wpAnyH_takes (i := 19) (d := 24) (v := ?_) rfl rfl (by kernel_rfl) (fun _ _ _ h => h) (Or.inl ⟨by rfl, ?_⟩) hS ?_
              rotate_left
              · intro wq hq; (try dsimp only at hq); obtain ⟨hq1, hq2, hq3, hq4, hq5, hq6, hq7, hq8, hq9, hq10, hq11, hq12⟩ := hq; go_simp; try with_reducible rfl
              simp only [List.setIfInBounds_toArray, List.set_cons_zero, List.set_cons_succ]
              refine wpAnyH_takes (i := 20) (d := 25) (v := ?_) rfl rfl (by kernel_rfl) (fun _ _ _ h => h) (Or.inl ⟨by rfl, ?_⟩) hS ?_
              rotate_left
              · intro wq hq; (try dsimp only at hq); obtain ⟨hq1, hq2, hq3, hq4, hq5, hq6, hq7, hq8, hq9, hq10, hq11, hq12⟩ := hq; go_simp; try with_reducible rfl
              simp only [List.setIfInBounds_toArray, List.set_cons_zero, List.set_cons_succ]
              refine wpAnyH_takes (i := 21) (d := 26) (v := ?_) rfl rfl (by kernel_rfl) (fun _ _ _ h => h) (Or.inl ⟨by rfl, ?_⟩) hS ?_
              rotate_left
              · intro wq hq; (try dsimp only at hq); obtain ⟨hq1, hq2, hq3, hq4, hq5, hq6, hq7, hq8, hq9, hq10, hq11, hq12⟩ := hq; go_simp; try with_reducible rfl
              simp only [List.setIfInBounds_toArray, List.set_cons_zero, List.set_cons_succ]
              refine wpAnyH_takes (i := 22) (d := 27) (v := ?_) rfl rfl (by kernel_rfl) (fun _ _ _ h => h) (Or.inl ⟨by rfl, ?_⟩) hS ?_
              rotate_left
              · intro wq hq; (try dsimp only at hq); obtain ⟨hq1, hq2, hq3, hq4, hq5, hq6, hq7, hq8, hq9, hq10, hq11, hq12⟩ := hq; go_simp; try with_reducible rfl
              simp only [List.setIfInBounds_toArray, List.set_cons_zero, List.set_cons_succ]
              refine wpAnyH_takes (i := 23) (d := 28) (v := ?_) rfl rfl (by kernel_rfl) (fun _ _ _ h => h) (Or.inl ⟨by rfl, ?_⟩) hS ?_
              rotate_left
              · intro wq hq; (try dsimp only at hq); obtain ⟨hq1, hq2, hq3, hq4, hq5, hq6, hq7, hq8, hq9, hq10, hq11, hq12⟩ := hq; go_simp; try with_reducible rfl
              simp only [List.setIfInBounds_toArray, List.set_cons_zero, List.set_cons_succ]
              refine wpAnyH_takes (i := 24) (d := 29) (v := ?_) rfl rfl (by kernel_rfl) (fun _ _ _ h => h) (Or.inl ⟨by rfl, ?_⟩) hS ?_
              rotate_left
              · intro wq hq; (try dsimp only at hq); obtain ⟨hq1, hq2, hq3, hq4, hq5, hq6, hq7, hq8, hq9, hq10, hq11, hq12⟩ := hq; go_simp; try with_reducible rfl
              simp only [List.setIfInBounds_toArray, List.set_cons_zero, List.set_cons_succ]
              refine wpAnyH_takes (i := 25) (d := 30) (v := ?_) rfl rfl (by kernel_rfl) (fun _ _ _ h => h) (Or.inl ⟨by rfl, ?_⟩) hS ?_
              rotate_left
              · intro wq hq; (try dsimp only at hq); obtain ⟨hq1, hq2, hq3, hq4, hq5, hq6, hq7, hq8, hq9, hq10, hq11, hq12⟩ := hq; go_simp; try with_reducible rfl
              simp only [List.setIfInBounds_toArray, List.set_cons_zero, List.set_cons_succ]
              refine wpAnyH_takes (i := 26) (d := 31) (v := ?_) rfl rfl (by kernel_rfl) (fun _ _ _ h => h) (Or.inl ⟨by rfl, ?_⟩) hS ?_
              rotate_left
              · intro wq hq; (try dsimp only at hq); obtain ⟨hq1, hq2, hq3, hq4, hq5, hq6, hq7, hq8, hq9, hq10, hq11, hq12⟩ := hq; go_simp; try with_reducible rfl
              simp only [List.setIfInBounds_toArray, List.set_cons_zero, List.set_cons_succ]
              refine wpAnyH_takes (i := 27) (d := 32) (v := ?_) rfl rfl (by kernel_rfl) (fun _ _ _ h => h) (Or.inl ⟨by rfl, ?_⟩) hS ?_
              rotate_left
              · intro wq hq; (try dsimp only at hq); obtain ⟨hq1, hq2, hq3, hq4, hq5, hq6, hq7, hq8, hq9, hq10, hq11, hq12⟩ := hq; go_simp; try with_reducible rfl
              simp only [List.setIfInBounds_toArray, List.set_cons_zero, List.set_cons_succ]
              refine wpAnyH_takes (i := 28) (d := 33) (v := ?_) rfl rfl (by kernel_rfl) (fun _ _ _ h => h) (Or.inl ⟨by rfl, ?_⟩) hS ?_
              rotate_left
              · intro wq hq; (try dsimp only at hq); obtain ⟨hq1, hq2, hq3, hq4, hq5, hq6, hq7, hq8, hq9, hq10, hq11, hq12⟩ := hq; go_simp; try with_reducible rfl
              simp only [List.setIfInBounds_toArray, List.set_cons_zero, List.set_cons_succ]
              refine wpAnyH_takes (i := 29) (d := 34) (v := ?_) rfl rfl (by kernel_rfl) (fun _ _ _ h => h) (Or.inl ⟨by rfl, ?_⟩) hS ?_
              rotate_left
              · intro wq hq; (try dsimp only at hq); obtain ⟨hq1, hq2, hq3, hq4, hq5, hq6, hq7, hq8, hq9, hq10, hq11, hq12⟩ := hq; go_simp; try with_reducible rfl
              simp only [List.setIfInBounds_toArray, List.set_cons_zero, List.set_cons_succ]
              refine wpAnyH_takes (i := 30) (d := 35) (v := ?_) rfl rfl (by kernel_rfl) (fun _ _ _ h => h) (Or.inl ⟨by rfl, ?_⟩) hS ?_
              rotate_left
              · intro wq hq; (try dsimp only at hq); obtain ⟨hq1, hq2, hq3, hq4, hq5, hq6, hq7, hq8, hq9, hq10, hq11, hq12⟩ := hq; go_simp; try with_reducible rfl
              simp only [List.setIfInBounds_toArray, List.set_cons_zero, List.set_cons_succ]
              refine wpAnyH_takes (i := 31) (d := 36) (v := ?_) rfl rfl (by kernel_rfl) (fun _ _ _ h => h) (Or.inl ⟨by rfl, ?_⟩) hS ?_
              rotate_left
              · intro wq hq; (try dsimp only at hq); obtain ⟨hq1, hq2, hq3, hq4, hq5, hq6, hq7, hq8, hq9, hq10, hq11, hq12⟩ := hq; go_simp; try with_reducible rfl
              simp only [List.setIfInBounds_toArray, List.set_cons_zero, List.set_cons_succ]
              refine wpAnyH_takes (i := 32) (d := 37) (v := ?_) rfl rfl (by kernel_rfl) (fun _ _ _ h => h) (Or.inl ⟨by rfl, ?_⟩) hS ?_
              rotate_left
              · intro wq hq; (try dsimp only at hq); obtain ⟨hq1, hq2, hq3, hq4, hq5, hq6, hq7, hq8, hq9, hq10, hq11, hq12⟩ := hq; go_simp; try with_reducible rfl
              simp only [List.setIfInBounds_toArray, List.set_cons_zero, List.set_cons_succ]
              refine wpAnyH_takes (i := 33) (d := 38) (v := ?_) rfl rfl (by kernel_rfl) (fun _ _ _ h => h) (Or.inl ⟨by rfl, ?_⟩) hS ?_
              rotate_left
              · intro wq hq; (try dsimp only at hq); obtain ⟨hq1, hq2, hq3, hq4, hq5, hq6, hq7, hq8, hq9, hq10, hq11, hq12⟩ := hq; go_simp; try with_reducible rfl
              simp only [List.setIfInBounds_toArray, List.set_cons_zero, List.set_cons_succ]
              refine wpAnyH_takes (i := 34) (d := 39) (v := ?_) rfl rfl (by kernel_rfl) (fun _ _ _ h => h) (Or.inl ⟨by rfl, ?_⟩) hS ?_
              rotate_left
              · intro wq hq; (try dsimp only at hq); obtain ⟨hq1, hq2, hq3, hq4, hq5, hq6, hq7, hq8, hq9, hq10, hq11, hq12⟩ := hq; go_simp; try with_reducible rfl
              simp only [List.setIfInBounds_toArray, List.set_cons_zero, List.set_cons_succ]
              refine wpAnyH_takes (i := 35) (d := 40) (v := ?_) rfl rfl (by kernel_rfl) (fun _ _ _ h => h) (Or.inl ⟨by rfl, ?_⟩) hS ?_
              rotate_left
              · intro wq hq; (try dsimp only at hq); obtain ⟨hq1, hq2, hq3, hq4, hq5, hq6, hq7, hq8, hq9, hq10, hq11, hq12⟩ := hq; go_simp; try with_reducible rfl
              simp only [List.setIfInBounds_toArray, List.set_cons_zero, List.set_cons_succ]
              refine wpAnyH_takes (i := 36) (d := 41) (v := ?_) rfl rfl (by kernel_rfl) (fun _ _ _ h => h) (Or.inl ⟨by rfl, ?_⟩) hS ?_
              rotate_left
              · intro wq hq; (try dsimp only at hq); obtain ⟨hq1, hq2, hq3, hq4, hq5, hq6, hq7, hq8, hq9, hq10, hq11, hq12⟩ := hq; go_simp; try with_reducible rfl
              simp only [List.setIfInBounds_toArray, List.set_cons_zero, List.set_cons_succ]
              refine wpAnyH_takes (i := 37) (d := 42) (v := ?_) rfl rfl (by kernel_rfl) (fun _ _ _ h => h) (Or.inl ⟨by rfl, ?_⟩) hS ?_
              rotate_left
              · intro wq hq; (try dsimp only at hq); obtain ⟨hq1, hq2, hq3, hq4, hq5, hq6, hq7, hq8, hq9, hq10, hq11, hq12⟩ := hq; go_simp; try with_reducible rfl
              simp only [List.setIfInBounds_toArray, List.set_cons_zero, List.set_cons_succ]
              refine wpAnyH_takes (i := 38) (d := 43) (v := ?_) rfl rfl (by kernel_rfl) (fun _ _ _ h => h) (Or.inl ⟨by rfl, ?_⟩) hS ?_
              rotate_left
              · intro wq hq; (try dsimp only at hq); obtain ⟨hq1, hq2, hq3, hq4, hq5, hq6, hq7, hq8, hq9, hq10, hq11, hq12⟩ := hq; go_simp; try with_reducible rfl
              simp only [List.setIfInBounds_toArray, List.set_cons_zero, List.set_cons_succ]
              refine wpAnyH_takes (i := 39) (d := 44) (v := ?_) rfl rfl (by kernel_rfl) (fun _ _ _ h => h) (Or.inl ⟨by rfl, ?_⟩) hS ?_
              rotate_left
              · intro wq hq; (try dsimp only at hq); obtain ⟨hq1, hq2, hq3, hq4, hq5, hq6, hq7, hq8, hq9, hq10, hq11, hq12⟩ := hq; go_simp; try with_reducible rfl
              simp only [List.setIfInBounds_toArray, List.set_cons_zero, List.set_cons_succ]
              refine wpAnyH_one (i := 40) (by kernel_rfl) rfl (by rfl) (fun K hK => ?_)
              simp only [List.getElem_toArray, List.getElem_cons_succ, List.getElem_cons_zero]
              go_simp
              refine (HOFF.out rfl _).mono ?_
              rintro e wc ⟨rfl, hb⟩
              have HTc := Lib.hid (HTb.out.thru hb)
              refine hK.out _ _ HTc.out.held ?_
              clear hK K hb hS
              have hS := HTc.out.held
              try simp only [Act.put, List.setIfInBounds_toArray, List.set_cons_zero, List.set_cons_succ]
              refine wpAnyH_takes (i := 41) (d := 46) (v := ?_) rfl rfl (by kernel_rfl) (fun _ _ _ h => h) (Or.inl ⟨by rfl, ?_⟩) hS ?_
              rotate_left
              · intro wq hq; (try dsimp only at hq); obtain ⟨hq1, hq2, hq3, hq4, hq5, hq6, hq7, hq8, hq9, hq10, hq11, hq12⟩ := hq; go_simp; try with_reducible rfl
              simp only [List.setIfInBounds_toArray, List.set_cons_zero, List.set_cons_succ]
              refine wpAnyH_takes (i := 42) (d := 47) (v := ?_) rfl rfl (by kernel_rfl) (fun _ _ _ h => h) (Or.inl ⟨by rfl, ?_⟩) hS ?_
              rotate_left
              · intro wq hq; (try dsimp only at hq); obtain ⟨hq1, hq2, hq3, hq4, hq5, hq6, hq7, hq8, hq9, hq10, hq11, hq12⟩ := hq; go_simp; try with_reducible rfl
              simp only [List.setIfInBounds_toArray, List.set_cons_zero, List.set_cons_succ]
              refine wpAnyH_takes (i := 43) (d := 4) (v := ?_) rfl rfl (by kernel_rfl) (fun _ _ _ h => h) (Or.inl ⟨by rfl, ?_⟩) hS ?_
              rotate_left
              · intro wq hq; (try dsimp only at hq); obtain ⟨hq1, hq2, hq3, hq4, hq5, hq6, hq7, hq8, hq9, hq10, hq11, hq12⟩ := hq; go_simp; try with_reducible rfl
              simp only [List.setIfInBounds_toArray, List.set_cons_zero, List.set_cons_succ]
              refine wpAnyH_done (by kernel_rfl) ?_ _
              go_wp2
              go_ret
              exact ⟨ret_goes (by rw [HG.out]; simp_all), HTc.out.low⟩
            · have p5 : (a4 == b4) = false := by rw [beq_eq_false_iff_ne]; exact q5
              clear q5
              try simp only [Array.replicate, List.replicate, List.setIfInBounds_toArray]
              refine wpAnyH_takes (i := 0) (d := 5) (v := ?_) rfl rfl (by kernel_rfl) (fun _ _ _ h => h) (Or.inl ⟨by rfl, ?_⟩) hS ?_
              rotate_left
              · intro wq hq; (try dsimp only at hq); obtain ⟨hq1, hq2, hq3, hq4, hq5, hq6, hq7, hq8, hq9, hq10, hq11, hq12⟩ := hq; go_simp; try with_reducible rfl
              simp only [List.setIfInBounds_toArray, List.set_cons_zero, List.set_cons_succ]
              refine wpAnyH_one (i := 1) (by kernel_rfl) rfl (by rfl) (fun K hK => ?_)
              simp only [List.getElem_toArray, List.getElem_cons_succ, List.getElem_cons_zero]
              go_simp
              refine (HFA.out _).mono ?_
              rintro e wa ⟨rfl, hb⟩
              have HTa := Lib.hid (HT.out.thru hb)
              refine hK.out _ _ HTa.out.held ?_
              clear hK K hb hS
              have hS := HTa.out.held
              try simp only [Act.put, List.setIfInBounds_toArray, List.set_cons_zero, List.set_cons_succ]
              refine wpAnyH_takes (i := 2) (d := 7) (v := ?_) rfl rfl (by kernel_rfl) (fun _ _ _ h => h) (Or.inl ⟨by rfl, ?_⟩) hS ?_
              rotate_left
              · intro wq hq; (try dsimp only at hq); obtain ⟨hq1, hq2, hq3, hq4, hq5, hq6, hq7, hq8, hq9, hq10, hq11, hq12⟩ := hq; go_simp; try with_reducible rfl
              simp only [List.setIfInBounds_toArray, List.set_cons_zero, List.set_cons_succ]
              refine wpAnyH_takes (i := 3) (d := 8) (v := ?_) rfl rfl (by kernel_rfl) (fun _ _ _ h => h) (Or.inl ⟨by rfl, ?_⟩) hS ?_
              rotate_left
              · intro wq hq; (try dsimp only at hq); obtain ⟨hq1, hq2, hq3, hq4, hq5, hq6, hq7, hq8, hq9, hq10, hq11, hq12⟩ := hq; go_simp; try with_reducible rfl
              simp only [List.setIfInBounds_toArray, List.set_cons_zero, List.set_cons_succ]
              refine wpAnyH_one (i := 4) (by kernel_rfl) rfl (by rfl) (fun K hK => ?_)
              simp only [List.getElem_toArray, List.getElem_cons_succ, List.getElem_cons_zero]
              go_simp
              refine (HFB.out _).mono ?_
              rintro e wb ⟨rfl, hb⟩
              have HTb := Lib.hid (HTa.out.thru hb)
              refine hK.out _ _ HTb.out.held ?_
              clear hK K hb hS
              have hS := HTb.out.held
              try simp only [Act.put, List.setIfInBounds_toArray, List.set_cons_zero, List.set_cons_succ]
              refine wpAnyH_takes (i := 5) (d := 10) (v := ?_) rfl rfl (by kernel_rfl) (fun _ _ _ h => h) (Or.inl ⟨by rfl, ?_⟩) hS ?_
              rotate_left
              · intro wq hq; (try dsimp only at hq); obtain ⟨hq1, hq2, hq3, hq4, hq5, hq6, hq7, hq8, hq9, hq10, hq11, hq12⟩ := hq; go_simp; try with_reducible rfl
              simp only [List.setIfInBounds_toArray, List.set_cons_zero, List.set_cons_succ]
              refine wpAnyH_takes (i := 6) (d := 11) (v := ?_) rfl rfl (by kernel_rfl) (fun _ _ _ h => h) (Or.inl ⟨by rfl, ?_⟩) hS ?_
              rotate_left
              · intro wq hq; (try dsimp only at hq); obtain ⟨hq1, hq2, hq3, hq4, hq5, hq6, hq7, hq8, hq9, hq10, hq11, hq12⟩ := hq; go_simp; try with_reducible rfl
              simp only [List.setIfInBounds_toArray, List.set_cons_zero, List.set_cons_succ]
              refine wpAnyH_takes (i := 7) (d := 12) (v := ?_) rfl rfl (by kernel_rfl) (fun _ _ _ h => h) (Or.inl ⟨by rfl, ?_⟩) hS ?_
              rotate_left
              · intro wq hq; (try dsimp only at hq); obtain ⟨hq1, hq2, hq3, hq4, hq5, hq6, hq7, hq8, hq9, hq10, hq11, hq12⟩ := hq; go_simp; try with_reducible rfl
              simp only [List.setIfInBounds_toArray, List.set_cons_zero, List.set_cons_succ]
              refine wpAnyH_takes (i := 8) (d := 13) (v := ?_) rfl rfl (by kernel_rfl) (fun _ _ _ h => h) (Or.inl ⟨by rfl, ?_⟩) hS ?_
              rotate_left
              · intro wq hq; (try dsimp only at hq); obtain ⟨hq1, hq2, hq3, hq4, hq5, hq6, hq7, hq8, hq9, hq10, hq11, hq12⟩ := hq; go_simp; try with_reducible rfl
              simp only [List.setIfInBounds_toArray, List.set_cons_zero, List.set_cons_succ]
              refine wpAnyH_takes (i := 9) (d := 14) (v := ?_) rfl rfl (by kernel_rfl) (fun _ _ _ h => h) (Or.inl ⟨by rfl, ?_⟩) hS ?_
              rotate_left
              · intro wq hq; (try dsimp only at hq); obtain ⟨hq1, hq2, hq3, hq4, hq5, hq6, hq7, hq8, hq9, hq10, hq11, hq12⟩ := hq; go_simp; try with_reducible rfl
              simp only [List.setIfInBounds_toArray, List.set_cons_zero, List.set_cons_succ]
              refine wpAnyH_takes (i := 10) (d := 15) (v := ?_) rfl rfl (by kernel_rfl) (fun _ _ _ h => h) (Or.inl ⟨by rfl, ?_⟩) hS ?_
              rotate_left
              · intro wq hq; (try dsimp only at hq); obtain ⟨hq1, hq2, hq3, hq4, hq5, hq6, hq7, hq8, hq9, hq10, hq11, hq12⟩ := hq; go_simp; try with_reducible rfl
              simp only [List.setIfInBounds_toArray, List.set_cons_zero, List.set_cons_succ]
              refine wpAnyH_takes (i := 11) (d := 16) (v := ?_) rfl rfl (by kernel_rfl) (fun _ _ _ h => h) (Or.inl ⟨by rfl, ?_⟩) hS ?_
              rotate_left
              · intro wq hq; (try dsimp only at hq); obtain ⟨hq1, hq2, hq3, hq4, hq5, hq6, hq7, hq8, hq9, hq10, hq11, hq12⟩ := hq; go_simp; try with_reducible rfl
              simp only [List.setIfInBounds_toArray, List.set_cons_zero, List.set_cons_succ]
              refine wpAnyH_takes (i := 12) (d := 17) (v := ?_) rfl rfl (by kernel_rfl) (fun _ _ _ h => h) (Or.inl ⟨by rfl, ?_⟩) hS ?_
              rotate_left
              · intro wq hq; (try dsimp only at hq); obtain ⟨hq1, hq2, hq3, hq4, hq5, hq6, hq7, hq8, hq9, hq10, hq11, hq12⟩ := hq; go_simp; try with_reducible rfl
              simp only [List.setIfInBounds_toArray, List.set_cons_zero, List.set_cons_succ]
              refine wpAnyH_takes (i := 13) (d := 18) (v := ?_) rfl rfl (by kernel_rfl) (fun _ _ _ h => h) (Or.inl ⟨by rfl, ?_⟩) hS ?_
              rotate_left
              · intro wq hq; (try dsimp only at hq); obtain ⟨hq1, hq2, hq3, hq4, hq5, hq6, hq7, hq8, hq9, hq10, hq11, hq12⟩ := hq; go_simp; try with_reducible rfl
              simp only [List.setIfInBounds_toArray, List.set_cons_zero, List.set_cons_succ]
              refine wpAnyH_takes (i := 14) (d := 19) (v := ?_) rfl rfl (by kernel_rfl) (fun _ _ _ h => h) (Or.inl ⟨by rfl, ?_⟩) hS ?_
              rotate_left
              · intro wq hq; (try dsimp only at hq); obtain ⟨hq1, hq2, hq3, hq4, hq5, hq6, hq7, hq8, hq9, hq10, hq11, hq12⟩ := hq; go_simp; try with_reducible rfl
              simp only [List.setIfInBounds_toArray, List.set_cons_zero, List.set_cons_succ]
              refine wpAnyH_takes (i := 15) (d := 20) (v := ?_) rfl rfl (by kernel_rfl) (fun _ _ _ h => h) (Or.inl ⟨by rfl, ?_⟩) hS ?_
              rotate_left
              · intro wq hq; (try dsimp only at hq); obtain ⟨hq1, hq2, hq3, hq4, hq5, hq6, hq7, hq8, hq9, hq10, hq11, hq12⟩ := hq; go_simp; try with_reducible rfl
              simp only [List.setIfInBounds_toArray, List.set_cons_zero, List.set_cons_succ]
              refine wpAnyH_takes (i := 16) (d := 21) (v := ?_) rfl rfl (by kernel_rfl) (fun _ _ _ h => h) (Or.inl ⟨by rfl, ?_⟩) hS ?_
              rotate_left
              · intro wq hq; (try dsimp only at hq); obtain ⟨hq1, hq2, hq3, hq4, hq5, hq6, hq7, hq8, hq9, hq10, hq11, hq12⟩ := hq; go_simp; try with_reducible rfl
              simp only [List.setIfInBounds_toArray, List.set_cons_zero, List.set_cons_succ]
              refine wpAnyH_takes (i := 17) (d := 22) (v := ?_) rfl rfl (by kernel_rfl) (fun _ _ _ h => h) (Or.inl ⟨by rfl, ?_⟩) hS ?_
              rotate_left
              · intro wq hq; (try dsimp only at hq); obtain ⟨hq1, hq2, hq3, hq4, hq5, hq6, hq7, hq8, hq9, hq10, hq11, hq12⟩ := hq; go_simp; try with_reducible rfl
              simp only [List.setIfInBounds_toArray, List.set_cons_zero, List.set_cons_succ]
              refine wpAnyH_takes (i := 18) (d := 23) (v := ?_) rfl rfl (by kernel_rfl) (fun _ _ _ h => h) (Or.inl ⟨by rfl, ?_⟩) hS ?_
              rotate_left
              · intro wq hq; (try dsimp only at hq); obtain ⟨hq1, hq2, hq3, hq4, hq5, hq6, hq7, hq8, hq9, hq10, hq11, hq12⟩ := hq; go_simp; try with_reducible rfl
              simp only [List.setIfInBounds_toArray, List.set_cons_zero, List.set_cons_succ]
              refine wpAnyH_takes (i := 19) (d := 24) (v := ?_) rfl rfl (by kernel_rfl) (fun _ _ _ h => h) (Or.inl ⟨by rfl, ?_⟩) hS ?_
              rotate_left
              · intro wq hq; (try dsimp only at hq); obtain ⟨hq1, hq2, hq3, hq4, hq5, hq6, hq7, hq8, hq9, hq10, hq11, hq12⟩ := hq; go_simp; try with_reducible rfl
              simp only [List.setIfInBounds_toArray, List.set_cons_zero, List.set_cons_succ]
              refine wpAnyH_takes (i := 20) (d := 25) (v := ?_) rfl rfl (by kernel_rfl) (fun _ _ _ h => h) (Or.inl ⟨by rfl, ?_⟩) hS ?_
              rotate_left
              · intro wq hq; (try dsimp only at hq); obtain ⟨hq1, hq2, hq3, hq4, hq5, hq6, hq7, hq8, hq9, hq10, hq11, hq12⟩ := hq; go_simp; try with_reducible rfl
              simp only [List.setIfInBounds_toArray, List.set_cons_zero, List.set_cons_succ]
              refine wpAnyH_takes (i := 21) (d := 26) (v := ?_) rfl rfl (by kernel_rfl) (fun _ _ _ h => h) (Or.inl ⟨by rfl, ?_⟩) hS ?_
              rotate_left
              · intro wq hq; (try dsimp only at hq); obtain ⟨hq1, hq2, hq3, hq4, hq5, hq6, hq7, hq8, hq9, hq10, hq11, hq12⟩ := hq; go_simp; try with_reducible rfl
              simp only [List.setIfInBounds_toArray, List.set_cons_zero, List.set_cons_succ]
              refine wpAnyH_takes (i := 22) (d := 27) (v := ?_) rfl rfl (by kernel_rfl) (fun _ _ _ h => h) (Or.inl ⟨by rfl, ?_⟩) hS ?_
              rotate_left
              · intro wq hq; (try dsimp only at hq); obtain ⟨hq1, hq2, hq3, hq4, hq5, hq6, hq7, hq8, hq9, hq10, hq11, hq12⟩ := hq; go_simp; try with_reducible rfl
              simp only [List.setIfInBounds_toArray, List.set_cons_zero, List.set_cons_succ]
              refine wpAnyH_takes (i := 23) (d := 28) (v := ?_) rfl rfl (by kernel_rfl) (fun _ _ _ h => h) (Or.inl ⟨by rfl, ?_⟩) hS ?_
              rotate_left
              · intro wq hq; (try dsimp only at hq); obtain ⟨hq1, hq2, hq3, hq4, hq5, hq6, hq7, hq8, hq9, hq10, hq11, hq12⟩ := hq; go_simp; try with_reducible rfl
              simp only [List.setIfInBounds_toArray, List.set_cons_zero, List.set_cons_succ]
              refine wpAnyH_takes (i := 24) (d := 29) (v := ?_) rfl rfl (by kernel_rfl) (fun _ _ _ h => h) (Or.inl ⟨by rfl, ?_⟩) hS ?_
              rotate_left
              · intro wq hq; (try dsimp only at hq); obtain ⟨hq1, hq2, hq3, hq4, hq5, hq6, hq7, hq8, hq9, hq10, hq11, hq12⟩ := hq; go_simp; try with_reducible rfl
              simp only [List.setIfInBounds_toArray, List.set_cons_zero, List.set_cons_succ]
              refine wpAnyH_takes (i := 25) (d := 30) (v := ?_) rfl rfl (by kernel_rfl) (fun _ _ _ h => h) (Or.inl ⟨by rfl, ?_⟩) hS ?_
              rotate_left
              · intro wq hq; (try dsimp only at hq); obtain ⟨hq1, hq2, hq3, hq4, hq5, hq6, hq7, hq8, hq9, hq10, hq11, hq12⟩ := hq; go_simp; try with_reducible rfl
              simp only [List.setIfInBounds_toArray, List.set_cons_zero, List.set_cons_succ]
              refine wpAnyH_takes (i := 26) (d := 31) (v := ?_) rfl rfl (by kernel_rfl) (fun _ _ _ h => h) (Or.inl ⟨by rfl, ?_⟩) hS ?_
              rotate_left
              · intro wq hq; (try dsimp only at hq); obtain ⟨hq1, hq2, hq3, hq4, hq5, hq6, hq7, hq8, hq9, hq10, hq11, hq12⟩ := hq; go_simp; try with_reducible rfl
              simp only [List.setIfInBounds_toArray, List.set_cons_zero, List.set_cons_succ]
              refine wpAnyH_takes (i := 27) (d := 32) (v := ?_) rfl rfl (by kernel_rfl) (fun _ _ _ h => h) (Or.inl ⟨by rfl, ?_⟩) hS ?_
              rotate_left
              · intro wq hq; (try dsimp only at hq); obtain ⟨hq1, hq2, hq3, hq4, hq5, hq6, hq7, hq8, hq9, hq10, hq11, hq12⟩ := hq; go_simp; try with_reducible rfl
              simp only [List.setIfInBounds_toArray, List.set_cons_zero, List.set_cons_succ]
              refine wpAnyH_takes (i := 28) (d := 33) (v := ?_) rfl rfl (by kernel_rfl) (fun _ _ _ h => h) (Or.inl ⟨by rfl, ?_⟩) hS ?_
              rotate_left
              · intro wq hq; (try dsimp only at hq); obtain ⟨hq1, hq2, hq3, hq4, hq5, hq6, hq7, hq8, hq9, hq10, hq11, hq12⟩ := hq; go_simp; try with_reducible rfl
              simp only [List.setIfInBounds_toArray, List.set_cons_zero, List.set_cons_succ]
              refine wpAnyH_takes (i := 29) (d := 34) (v := ?_) rfl rfl (by kernel_rfl) (fun _ _ _ h => h) (Or.inl ⟨by rfl, ?_⟩) hS ?_
              rotate_left
              · intro wq hq; (try dsimp only at hq); obtain ⟨hq1, hq2, hq3, hq4, hq5, hq6, hq7, hq8, hq9, hq10, hq11, hq12⟩ := hq; go_simp; try with_reducible rfl
              simp only [List.setIfInBounds_toArray, List.set_cons_zero, List.set_cons_succ]
              refine wpAnyH_takes (i := 30) (d := 35) (v := ?_) rfl rfl (by kernel_rfl) (fun _ _ _ h => h) (Or.inl ⟨by rfl, ?_⟩) hS ?_
              rotate_left
              · intro wq hq; (try dsimp only at hq); obtain ⟨hq1, hq2, hq3, hq4, hq5, hq6, hq7, hq8, hq9, hq10, hq11, hq12⟩ := hq; go_simp; try with_reducible rfl
              simp only [List.setIfInBounds_toArray, List.set_cons_zero, List.set_cons_succ]
              refine wpAnyH_takes (i := 31) (d := 36) (v := ?_) rfl rfl (by kernel_rfl) (fun _ _ _ h => h) (Or.inl ⟨by rfl, ?_⟩) hS ?_
              rotate_left
              · intro wq hq; (try dsimp only at hq); obtain ⟨hq1, hq2, hq3, hq4, hq5, hq6, hq7, hq8, hq9, hq10, hq11, hq12⟩ := hq; go_simp; try with_reducible rfl
              simp only [List.setIfInBounds_toArray, List.set_cons_zero, List.set_cons_succ]
              refine wpAnyH_takes (i := 32) (d := 37) (v := ?_) rfl rfl (by kernel_rfl) (fun _ _ _ h => h) (Or.inl ⟨by rfl, ?_⟩) hS ?_
              rotate_left
              · intro wq hq; (try dsimp only at hq); obtain ⟨hq1, hq2, hq3, hq4, hq5, hq6, hq7, hq8, hq9, hq10, hq11, hq12⟩ := hq; go_simp; try with_reducible rfl
              simp only [List.setIfInBounds_toArray, List.set_cons_zero, List.set_cons_succ]
              refine wpAnyH_takes (i := 33) (d := 38) (v := ?_) rfl rfl (by kernel_rfl) (fun _ _ _ h => h) (Or.inl ⟨by rfl, ?_⟩) hS ?_
              rotate_left
              · intro wq hq; (try dsimp only at hq); obtain ⟨hq1, hq2, hq3, hq4, hq5, hq6, hq7, hq8, hq9, hq10, hq11, hq12⟩ := hq; go_simp; try with_reducible rfl
              simp only [List.setIfInBounds_toArray, List.set_cons_zero, List.set_cons_succ]
              refine wpAnyH_takes (i := 34) (d := 39) (v := ?_) rfl rfl (by kernel_rfl) (fun _ _ _ h => h) (Or.inl ⟨by rfl, ?_⟩) hS ?_
              rotate_left
              · intro wq hq; (try dsimp only at hq); obtain ⟨hq1, hq2, hq3, hq4, hq5, hq6, hq7, hq8, hq9, hq10, hq11, hq12⟩ := hq; go_simp; try with_reducible rfl
              simp only [List.setIfInBounds_toArray, List.set_cons_zero, List.set_cons_succ]
              refine wpAnyH_takes (i := 35) (d := 40) (v := undef) rfl rfl (by kernel_rfl) (fun _ _ _ h => h) (Or.inr ⟨by rfl, by rfl⟩) hS ?_
              simp only [List.setIfInBounds_toArray, List.set_cons_zero, List.set_cons_succ]
              refine wpAnyH_takes (i := 36) (d := 41) (v := undef) rfl rfl (by kernel_rfl) (fun _ _ _ h => h) (Or.inr ⟨by rfl, by rfl⟩) hS ?_
              simp only [List.setIfInBounds_toArray, List.set_cons_zero, List.set_cons_succ]
              refine wpAnyH_takes (i := 37) (d := 42) (v := undef) rfl rfl (by kernel_rfl) (fun _ _ _ h => h) (Or.inr ⟨by rfl, by rfl⟩) hS ?_
              simp only [List.setIfInBounds_toArray, List.set_cons_zero, List.set_cons_succ]
              refine wpAnyH_takes (i := 38) (d := 43) (v := undef) rfl rfl (by kernel_rfl) (fun _ _ _ h => h) (Or.inr ⟨by rfl, by rfl⟩) hS ?_
              simp only [List.setIfInBounds_toArray, List.set_cons_zero, List.set_cons_succ]
              refine wpAnyH_takes (i := 39) (d := 44) (v := undef) rfl rfl (by kernel_rfl) (fun _ _ _ h => h) (Or.inr ⟨by rfl, by rfl⟩) hS ?_
              simp only [List.setIfInBounds_toArray, List.set_cons_zero, List.set_cons_succ]
              refine wpAnyH_takes (i := 40) (d := 45) (v := undef) rfl rfl (by kernel_rfl) (fun _ _ _ h => h) (Or.inr ⟨by rfl, by rfl⟩) hS ?_
              simp only [List.setIfInBounds_toArray, List.set_cons_zero, List.set_cons_succ]
              refine wpAnyH_takes (i := 41) (d := 46) (v := undef) rfl rfl (by kernel_rfl) (fun _ _ _ h => h) (Or.inr ⟨by rfl, by rfl⟩) hS ?_
              simp only [List.setIfInBounds_toArray, List.set_cons_zero, List.set_cons_succ]
              refine wpAnyH_takes (i := 42) (d := 47) (v := ?_) rfl rfl (by kernel_rfl) (fun _ _ _ h => h) (Or.inl ⟨by rfl, ?_⟩) hS ?_
              rotate_left
              · intro wq hq; (try dsimp only at hq); obtain ⟨hq1, hq2, hq3, hq4, hq5, hq6, hq7, hq8, hq9, hq10, hq11, hq12⟩ := hq; go_simp; try with_reducible rfl
              simp only [List.setIfInBounds_toArray, List.set_cons_zero, List.set_cons_succ]
              refine wpAnyH_takes (i := 43) (d := 4) (v := ?_) rfl rfl (by kernel_rfl) (fun _ _ _ h => h) (Or.inl ⟨by rfl, ?_⟩) hS ?_
              rotate_left
              · intro wq hq; (try dsimp only at hq); obtain ⟨hq1, hq2, hq3, hq4, hq5, hq6, hq7, hq8, hq9, hq10, hq11, hq12⟩ := hq; go_simp; try with_reducible rfl
              simp only [List.setIfInBounds_toArray, List.set_cons_zero, List.set_cons_succ]
              refine wpAnyH_done (by kernel_rfl) ?_ _
              go_wp2
              go_ret
              exact ⟨ret_goes (by rw [HG.out]; simp_all), HTb.out.low⟩
          · have p4 : (a3 == b3) = false := by rw [beq_eq_false_iff_ne]; exact q4
            clear q4
            try simp only [Array.replicate, List.replicate, List.setIfInBounds_toArray]
            refine wpAnyH_takes (i := 0) (d := 5) (v := ?_) rfl rfl (by kernel_rfl) (fun _ _ _ h => h) (Or.inl ⟨by rfl, ?_⟩) hS ?_
            rotate_left
            · intro wq hq; (try dsimp only at hq); obtain ⟨hq1, hq2, hq3, hq4, hq5, hq6, hq7, hq8, hq9, hq10, hq11, hq12⟩ := hq; go_simp; try with_reducible rfl
            simp only [List.setIfInBounds_toArray, List.set_cons_zero, List.set_cons_succ]
            refine wpAnyH_one (i := 1) (by kernel_rfl) rfl (by rfl) (fun K hK => ?_)
            simp only [List.getElem_toArray, List.getElem_cons_succ, List.getElem_cons_zero]
            go_simp
            refine (HFA.out _).mono ?_
            rintro e wa ⟨rfl, hb⟩
            have HTa := Lib.hid (HT.out.thru hb)
            refine hK.out _ _ HTa.out.held ?_
            clear hK K hb hS
            have hS := HTa.out.held
            try simp only [Act.put, List.setIfInBounds_toArray, List.set_cons_zero, List.set_cons_succ]
            refine wpAnyH_takes (i := 2) (d := 7) (v := ?_) rfl rfl (by kernel_rfl) (fun _ _ _ h => h) (Or.inl ⟨by rfl, ?_⟩) hS ?_
            rotate_left
            · intro wq hq; (try dsimp only at hq); obtain ⟨hq1, hq2, hq3, hq4, hq5, hq6, hq7, hq8, hq9, hq10, hq11, hq12⟩ := hq; go_simp; try with_reducible rfl
            simp only [List.setIfInBounds_toArray, List.set_cons_zero, List.set_cons_succ]
            refine wpAnyH_takes (i := 3) (d := 8) (v := ?_) rfl rfl (by kernel_rfl) (fun _ _ _ h => h) (Or.inl ⟨by rfl, ?_⟩) hS ?_
            rotate_left
            · intro wq hq; (try dsimp only at hq); obtain ⟨hq1, hq2, hq3, hq4, hq5, hq6, hq7, hq8, hq9, hq10, hq11, hq12⟩ := hq; go_simp; try with_reducible rfl
            simp only [List.setIfInBounds_toArray, List.set_cons_zero, List.set_cons_succ]
            refine wpAnyH_one (i := 4) (by kernel_rfl) rfl (by rfl) (fun K hK => ?_)
            simp only [List.getElem_toArray, List.getElem_cons_succ, List.getElem_cons_zero]
            go_simp
            refine (HFB.out _).mono ?_
            rintro e wb ⟨rfl, hb⟩
            have HTb := Lib.hid (HTa.out.thru hb)
            refine hK.out _ _ HTb.out.held ?_
            clear hK K hb hS
            have hS := HTb.out.held
            try simp only [Act.put, List.setIfInBounds_toArray, List.set_cons_zero, List.set_cons_succ]
            refine wpAnyH_takes (i := 5) (d := 10) (v := ?_) rfl rfl (by kernel_rfl) (fun _ _ _ h => h) (Or.inl ⟨by rfl, ?_⟩) hS ?_
            rotate_left
            · intro wq hq; (try dsimp only at hq); obtain ⟨hq1, hq2, hq3, hq4, hq5, hq6, hq7, hq8, hq9, hq10, hq11, hq12⟩ := hq; go_simp; try with_reducible rfl
            simp only [List.setIfInBounds_toArray, List.set_cons_zero, List.set_cons_succ]
            refine wpAnyH_takes (i := 6) (d := 11) (v := ?_) rfl rfl (by kernel_rfl) (fun _ _ _ h => h) (Or.inl ⟨by rfl, ?_⟩) hS ?_
            rotate_left
            · intro wq hq; (try dsimp only at hq); obtain ⟨hq1, hq2, hq3, hq4, hq5, hq6, hq7, hq8, hq9, hq10, hq11, hq12⟩ := hq; go_simp; try with_reducible rfl
            simp only [List.setIfInBounds_toArray, List.set_cons_zero, List.set_cons_succ]
            refine wpAnyH_takes (i := 7) (d := 12) (v := ?_) rfl rfl (by kernel_rfl) (fun _ _ _ h => h) (Or.inl ⟨by rfl, ?_⟩) hS ?_
            rotate_left
            · intro wq hq; (try dsimp only at hq); obtain ⟨hq1, hq2, hq3, hq4, hq5, hq6, hq7, hq8, hq9, hq10, hq11, hq12⟩ := hq; go_simp; try with_reducible rfl
            simp only [List.setIfInBounds_toArray, List.set_cons_zero, List.set_cons_succ]
            refine wpAnyH_takes (i := 8) (d := 13) (v := ?_) rfl rfl (by kernel_rfl) (fun _ _ _ h => h) (Or.inl ⟨by rfl, ?_⟩) hS ?_
            rotate_left
            · intro wq hq; (try dsimp only at hq); obtain ⟨hq1, hq2, hq3, hq4, hq5, hq6, hq7, hq8, hq9, hq10, hq11, hq12⟩ := hq; go_simp; try with_reducible rfl
            simp only [List.setIfInBounds_toArray, List.set_cons_zero, List.set_cons_succ]
            refine wpAnyH_takes (i := 9) (d := 14) (v := ?_) rfl rfl (by kernel_rfl) (fun _ _ _ h => h) (Or.inl ⟨by rfl, ?_⟩) hS ?_
            rotate_left
            · intro wq hq; (try dsimp only at hq); obtain ⟨hq1, hq2, hq3, hq4, hq5, hq6, hq7, hq8, hq9, hq10, hq11, hq12⟩ := hq; go_simp; try with_reducible rfl
            simp only [List.setIfInBounds_toArray, List.set_cons_zero, List.set_cons_succ]
            refine wpAnyH_takes (i := 10) (d := 15) (v := ?_) rfl rfl (by kernel_rfl) (fun _ _ _ h => h) (Or.inl ⟨by rfl, ?_⟩) hS ?_
            rotate_left
            · intro wq hq; (try dsimp only at hq); obtain ⟨hq1, hq2, hq3, hq4, hq5, hq6, hq7, hq8, hq9, hq10, hq11, hq12⟩ := hq; go_simp; try with_reducible rfl
            simp only [List.setIfInBounds_toArray, List.set_cons_zero, List.set_cons_succ]
            refine wpAnyH_takes (i := 11) (d := 16) (v := ?_) rfl rfl (by kernel_rfl) (fun _ _ _ h => h) (Or.inl ⟨by rfl, ?_⟩) hS ?_
            rotate_left
            · intro wq hq; (try dsimp only at hq); obtain ⟨hq1, hq2, hq3, hq4, hq5, hq6, hq7, hq8, hq9, hq10, hq11, hq12⟩ := hq; go_simp; try with_reducible rfl
            simp only [List.setIfInBounds_toArray, List.set_cons_zero, List.set_cons_succ]
            refine wpAnyH_takes (i := 12) (d := 17) (v := ?_) rfl rfl (by kernel_rfl) (fun _ _ _ h => h) (Or.inl ⟨by rfl, ?_⟩) hS ?_
            rotate_left
            · intro wq hq; (try dsimp only at hq); obtain ⟨hq1, hq2, hq3, hq4, hq5, hq6, hq7, hq8, hq9, hq10, hq11, hq12⟩ := hq; go_simp; try with_reducible rfl
            simp only [List.setIfInBounds_toArray, List.set_cons_zero, List.set_cons_succ]
            refine wpAnyH_takes (i := 13) (d := 18) (v := ?_) rfl rfl (by kernel_rfl) (fun _ _ _ h => h) (Or.inl ⟨by rfl, ?_⟩) hS ?_
            rotate_left
            · intro wq hq; (try dsimp only at hq); obtain ⟨hq1, hq2, hq3, hq4, hq5, hq6, hq7, hq8, hq9, hq10, hq11, hq12⟩ := hq; go_simp; try with_reducible rfl
            simp only [List.setIfInBounds_toArray, List.set_cons_zero, List.set_cons_succ]
            refine wpAnyH_takes (i := 14) (d := 19) (v := ?_) rfl rfl (by kernel_rfl) (fun _ _ _ h => h) (Or.inl ⟨by rfl, ?_⟩) hS ?_
            rotate_left
            · intro wq hq; (try dsimp only at hq); obtain ⟨hq1, hq2, hq3, hq4, hq5, hq6, hq7, hq8, hq9, hq10, hq11, hq12⟩ := hq; go_simp; try with_reducible rfl
            simp only [List.setIfInBounds_toArray, List.set_cons_zero, List.set_cons_succ]
            refine wpAnyH_takes (i := 15) (d := 20) (v := ?_) rfl rfl (by kernel_rfl) (fun _ _ _ h => h) (Or.inl ⟨by rfl, ?_⟩) hS ?_
            rotate_left
            · intro wq hq; (try dsimp only at hq); obtain ⟨hq1, hq2, hq3, hq4, hq5, hq6, hq7, hq8, hq9, hq10, hq11, hq12⟩ := hq; go_simp; try with_reducible rfl
            simp only [List.setIfInBounds_toArray, List.set_cons_zero, List.set_cons_succ]
            refine wpAnyH_takes (i := 16) (d := 21) (v := ?_) rfl rfl (by kernel_rfl) (fun _ _ _ h => h) (Or.inl ⟨by rfl, ?_⟩) hS ?_
            rotate_left
            · intro wq hq; (try dsimp only at hq); obtain ⟨hq1, hq2, hq3, hq4, hq5, hq6, hq7, hq8, hq9, hq10, hq11, hq12⟩ := hq; go_simp; try with_reducible rfl
            simp only [List.setIfInBounds_toArray, List.set_cons_zero, List.set_cons_succ]
            refine wpAnyH_takes (i := 17) (d := 22) (v := ?_) rfl rfl (by kernel_rfl) (fun _ _ _ h => h) (Or.inl ⟨by rfl, ?_⟩) hS ?_
            rotate_left
            · intro wq hq; (try dsimp only at hq); obtain ⟨hq1, hq2, hq3, hq4, hq5, hq6, hq7, hq8, hq9, hq10, hq11, hq12⟩ := hq; go_simp; try with_reducible rfl
            simp only [List.setIfInBounds_toArray, List.set_cons_zero, List.set_cons_succ]
            refine wpAnyH_takes (i := 18) (d := 23) (v := ?_) rfl rfl (by kernel_rfl) (fun _ _ _ h => h) (Or.inl ⟨by rfl, ?_⟩) hS ?_
            rotate_left
            · intro wq hq; (try dsimp only at hq); obtain ⟨hq1, hq2, hq3, hq4, hq5, hq6, hq7, hq8, hq9, hq10, hq11, hq12⟩ := hq; go_simp; try with_reducible rfl
            simp only [List.setIfInBounds_toArray, List.set_cons_zero, List.set_cons_succ]
            refine wpAnyH_takes (i := 19) (d := 24) (v := ?_) rfl rfl (by kernel_rfl) (fun _ _ _ h => h) (Or.inl ⟨by rfl, ?_⟩) hS ?_
            rotate_left
            · intro wq hq; (try dsimp only at hq); obtain ⟨hq1, hq2, hq3, hq4, hq5, hq6, hq7, hq8, hq9, hq10, hq11, hq12⟩ := hq; go_simp; try with_reducible rfl
            simp only [List.setIfInBounds_toArray, List.set_cons_zero, List.set_cons_succ]
            refine wpAnyH_takes (i := 20) (d := 25) (v := ?_) rfl rfl (by kernel_rfl) (fun _ _ _ h => h) (Or.inl ⟨by rfl, ?_⟩) hS ?_
            rotate_left
            · intro wq hq; (try dsimp only at hq); obtain ⟨hq1, hq2, hq3, hq4, hq5, hq6, hq7, hq8, hq9, hq10, hq11, hq12⟩ := hq; go_simp; try with_reducible rfl
            simp only [List.setIfInBounds_toArray, List.set_cons_zero, List.set_cons_succ]
            refine wpAnyH_takes (i := 21) (d := 26) (v := ?_) rfl rfl (by kernel_rfl) (fun _ _ _ h => h) (Or.inl ⟨by rfl, ?_⟩) hS ?_
            rotate_left
            · intro wq hq; (try dsimp only at hq); obtain ⟨hq1, hq2, hq3, hq4, hq5, hq6, hq7, hq8, hq9, hq10, hq11, hq12⟩ := hq; go_simp; try with_reducible rfl
            simp only [List.setIfInBounds_toArray, List.set_cons_zero, List.set_cons_succ]
            refine wpAnyH_takes (i := 22) (d := 27) (v := ?_) rfl rfl (by kernel_rfl) (fun _ _ _ h => h) (Or.inl ⟨by rfl, ?_⟩) hS ?_
            rotate_left
            · intro wq hq; (try dsimp only at hq); obtain ⟨hq1, hq2, hq3, hq4, hq5, hq6, hq7, hq8, hq9, hq10, hq11, hq12⟩ := hq; go_simp; try with_reducible rfl
            simp only [List.setIfInBounds_toArray, List.set_cons_zero, List.set_cons_succ]
            refine wpAnyH_takes (i := 23) (d := 28) (v := ?_) rfl rfl (by kernel_rfl) (fun _ _ _ h => h) (Or.inl ⟨by rfl, ?_⟩) hS ?_
            rotate_left
            · intro wq hq; (try dsimp only at hq); obtain ⟨hq1, hq2, hq3, hq4, hq5, hq6, hq7, hq8, hq9, hq10, hq11, hq12⟩ := hq; go_simp; try with_reducible rfl
            simp only [List.setIfInBounds_toArray, List.set_cons_zero, List.set_cons_succ]
            refine wpAnyH_takes (i := 24) (d := 29) (v := ?_) rfl rfl (by kernel_rfl) (fun _ _ _ h => h) (Or.inl ⟨by rfl, ?_⟩) hS ?_
            rotate_left
            · intro wq hq; (try dsimp only at hq); obtain ⟨hq1, hq2, hq3, hq4, hq5, hq6, hq7, hq8, hq9, hq10, hq11, hq12⟩ := hq; go_simp; try with_reducible rfl
            simp only [List.setIfInBounds_toArray, List.set_cons_zero, List.set_cons_succ]
            refine wpAnyH_takes (i := 25) (d := 30) (v := ?_) rfl rfl (by kernel_rfl) (fun _ _ _ h => h) (Or.inl ⟨by rfl, ?_⟩) hS ?_
            rotate_left
            · intro wq hq; (try dsimp only at hq); obtain ⟨hq1, hq2, hq3, hq4, hq5, hq6, hq7, hq8, hq9, hq10, hq11, hq12⟩ := hq; go_simp; try with_reducible rfl
            simp only [List.setIfInBounds_toArray, List.set_cons_zero, List.set_cons_succ]
            refine wpAnyH_takes (i := 26) (d := 31) (v := ?_) rfl rfl (by kernel_rfl) (fun _ _ _ h => h) (Or.inl ⟨by rfl, ?_⟩) hS ?_
            rotate_left
            · intro wq hq; (try dsimp only at hq); obtain ⟨hq1, hq2, hq3, hq4, hq5, hq6, hq7, hq8, hq9, hq10, hq11, hq12⟩ := hq; go_simp; try with_reducible rfl
            simp only [List.setIfInBounds_toArray, List.set_cons_zero, List.set_cons_succ]
            refine wpAnyH_takes (i := 27) (d := 32) (v := ?_) rfl rfl (by kernel_rfl) (fun _ _ _ h => h) (Or.inl ⟨by rfl, ?_⟩) hS ?_
            rotate_left
            · intro wq hq; (try dsimp only at hq); obtain ⟨hq1, hq2, hq3, hq4, hq5, hq6, hq7, hq8, hq9, hq10, hq11, hq12⟩ := hq; go_simp; try with_reducible rfl
            simp only [List.setIfInBounds_toArray, List.set_cons_zero, List.set_cons_succ]
            refine wpAnyH_takes (i := 28) (d := 33) (v := undef) rfl rfl (by kernel_rfl) (fun _ _ _ h => h) (Or.inr ⟨by rfl, by rfl⟩) hS ?_
            simp only [List.setIfInBounds_toArray, List.set_cons_zero, List.set_cons_succ]
            refine wpAnyH_takes (i := 29) (d := 34) (v := undef) rfl rfl (by kernel_rfl) (fun _ _ _ h => h) (Or.inr ⟨by rfl, by rfl⟩) hS ?_
            simp only [List.setIfInBounds_toArray, List.set_cons_zero, List.set_cons_succ]
            refine wpAnyH_takes (i := 30) (d := 35) (v := undef) rfl rfl (by kernel_rfl) (fun _ _ _ h => h) (Or.inr ⟨by rfl, by rfl⟩) hS ?_
            simp only [List.setIfInBounds_toArray, List.set_cons_zero, List.set_cons_succ]
            refine wpAnyH_takes (i := 31) (d := 36) (v := undef) rfl rfl (by kernel_rfl) (fun _ _ _ h => h) (Or.inr ⟨by rfl, by rfl⟩) hS ?_
            simp only [List.setIfInBounds_toArray, List.set_cons_zero, List.set_cons_succ]
            refine wpAnyH_takes (i := 32) (d := 37) (v := undef) rfl rfl (by kernel_rfl) (fun _ _ _ h => h) (Or.inr ⟨by rfl, by rfl⟩) hS ?_
            simp only [List.setIfInBounds_toArray, List.set_cons_zero, List.set_cons_succ]
            refine wpAnyH_takes (i := 33) (d := 38) (v := ?_) rfl rfl (by kernel_rfl) (fun _ _ _ h => h) (Or.inl ⟨by rfl, ?_⟩) hS ?_
            rotate_left
            · intro wq hq; (try dsimp only at hq); obtain ⟨hq1, hq2, hq3, hq4, hq5, hq6, hq7, hq8, hq9, hq10, hq11, hq12⟩ := hq; go_simp; try with_reducible rfl
            simp only [List.setIfInBounds_toArray, List.set_cons_zero, List.set_cons_succ]
            refine wpAnyH_takes (i := 34) (d := 39) (v := ?_) rfl rfl (by kernel_rfl) (fun _ _ _ h => h) (Or.inl ⟨by rfl, ?_⟩) hS ?_
            rotate_left
            · intro wq hq; (try dsimp only at hq); obtain ⟨hq1, hq2, hq3, hq4, hq5, hq6, hq7, hq8, hq9, hq10, hq11, hq12⟩ := hq; go_simp; try with_reducible rfl
            simp only [List.setIfInBounds_toArray, List.set_cons_zero, List.set_cons_succ]
            refine wpAnyH_takes (i := 35) (d := 40) (v := undef) rfl rfl (by kernel_rfl) (fun _ _ _ h => h) (Or.inr ⟨by rfl, by rfl⟩) hS ?_
            simp only [List.setIfInBounds_toArray, List.set_cons_zero, List.set_cons_succ]
            refine wpAnyH_takes (i := 36) (d := 41) (v := undef) rfl rfl (by kernel_rfl) (fun _ _ _ h => h) (Or.inr ⟨by rfl, by rfl⟩) hS ?_
            simp only [List.setIfInBounds_toArray, List.set_cons_zero, List.set_cons_succ]
            refine wpAnyH_takes (i := 37) (d := 42) (v := undef) rfl rfl (by kernel_rfl) (fun _ _ _ h => h) (Or.inr ⟨by rfl, by rfl⟩) hS ?_
            simp only [List.setIfInBounds_toArray, List.set_cons_zero, List.set_cons_succ]
            refine wpAnyH_takes (i := 38) (d := 43) (v := undef) rfl rfl (by kernel_rfl) (fun _ _ _ h => h) (Or.inr ⟨by rfl, by rfl⟩) hS ?_
            simp only [List.setIfInBounds_toArray, List.set_cons_zero, List.set_cons_succ]
            refine wpAnyH_takes (i := 39) (d := 44) (v := undef) rfl rfl (by kernel_rfl) (fun _ _ _ h => h) (Or.inr ⟨by rfl, by rfl⟩) hS ?_
            simp only [List.setIfInBounds_toArray, List.set_cons_zero, List.set_cons_succ]
            refine wpAnyH_takes (i := 40) (d := 45) (v := undef) rfl rfl (by kernel_rfl) (fun _ _ _ h => h) (Or.inr ⟨by rfl, by rfl⟩) hS ?_
            simp only [List.setIfInBounds_toArray, List.set_cons_zero, List.set_cons_succ]
            refine wpAnyH_takes (i := 41) (d := 46) (v := undef) rfl rfl (by kernel_rfl) (fun _ _ _ h => h) (Or.inr ⟨by rfl, by rfl⟩) hS ?_
            simp only [List.setIfInBounds_toArray, List.set_cons_zero, List.set_cons_succ]
            refine wpAnyH_takes (i := 42) (d := 47) (v := ?_) rfl rfl (by kernel_rfl) (fun _ _ _ h => h) (Or.inl ⟨by rfl, ?_⟩) hS ?_
            rotate_left
            · intro wq hq; (try dsimp only at hq); obtain ⟨hq1, hq2, hq3, hq4, hq5, hq6, hq7, hq8, hq9, hq10, hq11, hq12⟩ := hq; go_simp; try with_reducible rfl
            simp only [List.setIfInBounds_toArray, List.set_cons_zero, List.set_cons_succ]
            refine wpAnyH_takes (i := 43) (d := 4) (v := ?_) rfl rfl (by kernel_rfl) (fun _ _ _ h => h) (Or.inl ⟨by rfl, ?_⟩) hS ?_
            rotate_left
            · intro wq hq; (try dsimp only at hq); obtain ⟨hq1, hq2, hq3, hq4, hq5, hq6, hq7, hq8, hq9, hq10, hq11, hq12⟩ := hq; go_simp; try with_reducible rfl
            simp only [List.setIfInBounds_toArray, List.set_cons_zero, List.set_cons_succ]
            refine wpAnyH_done (by kernel_rfl) ?_ _
            go_wp2
            go_ret
            exact ⟨ret_goes (by rw [HG.out]; simp_all), HTb.out.low⟩
        · have p3 : (a2 == b2) = false := by rw [beq_eq_false_iff_ne]; exact q3
          clear q3
          try simp only [Array.replicate, List.replicate, List.setIfInBounds_toArray]
          refine wpAnyH_takes (i := 0) (d := 5) (v := ?_) rfl rfl (by kernel_rfl) (fun _ _ _ h => h) (Or.inl ⟨by rfl, ?_⟩) hS ?_
          rotate_left
          · intro wq hq; (try dsimp only at hq); obtain ⟨hq1, hq2, hq3, hq4, hq5, hq6, hq7, hq8, hq9, hq10, hq11, hq12⟩ := hq; go_simp; try with_reducible rfl
          simp only [List.setIfInBounds_toArray, List.set_cons_zero, List.set_cons_succ]
          refine wpAnyH_one (i := 1) (by kernel_rfl) rfl (by rfl) (fun K hK => ?_)
          simp only [List.getElem_toArray, List.getElem_cons_succ, List.getElem_cons_zero]
          go_simp
          refine (HFA.out _).mono ?_
          rintro e wa ⟨rfl, hb⟩
          have HTa := Lib.hid (HT.out.thru hb)
          refine hK.out _ _ HTa.out.held ?_
          clear hK K hb hS
          have hS := HTa.out.held
          try simp only [Act.put, List.setIfInBounds_toArray, List.set_cons_zero, List.set_cons_succ]
          refine wpAnyH_takes (i := 2) (d := 7) (v := ?_) rfl rfl (by kernel_rfl) (fun _ _ _ h => h) (Or.inl ⟨by rfl, ?_⟩) hS ?_
          rotate_left
          · intro wq hq; (try dsimp only at hq); obtain ⟨hq1, hq2, hq3, hq4, hq5, hq6, hq7, hq8, hq9, hq10, hq11, hq12⟩ := hq; go_simp; try with_reducible rfl
          simp only [List.setIfInBounds_toArray, List.set_cons_zero, List.set_cons_succ]
          refine wpAnyH_takes (i := 3) (d := 8) (v := ?_) rfl rfl (by kernel_rfl) (fun _ _ _ h => h) (Or.inl ⟨by rfl, ?_⟩) hS ?_
          rotate_left
          · intro wq hq; (try dsimp only at hq); obtain ⟨hq1, hq2, hq3, hq4, hq5, hq6, hq7, hq8, hq9, hq10, hq11, hq12⟩ := hq; go_simp; try with_reducible rfl
          simp only [List.setIfInBounds_toArray, List.set_cons_zero, List.set_cons_succ]
          refine wpAnyH_one (i := 4) (by kernel_rfl) rfl (by rfl) (fun K hK => ?_)
          simp only [List.getElem_toArray, List.getElem_cons_succ, List.getElem_cons_zero]
          go_simp
          refine (HFB.out _).mono ?_
          rintro e wb ⟨rfl, hb⟩
          have HTb := Lib.hid (HTa.out.thru hb)
          refine hK.out _ _ HTb.out.held ?_
          clear hK K hb hS
          have hS := HTb.out.held
          try simp only [Act.put, List.setIfInBounds_toArray, List.set_cons_zero, List.set_cons_succ]
          refine wpAnyH_takes (i := 5) (d := 10) (v := ?_) rfl rfl (by kernel_rfl) (fun _ _ _ h => h) (Or.inl ⟨by rfl, ?_⟩) hS ?_
          rotate_left
          · intro wq hq; (try dsimp only at hq); obtain ⟨hq1, hq2, hq3, hq4, hq5, hq6, hq7, hq8, hq9, hq10, hq11, hq12⟩ := hq; go_simp; try with_reducible rfl
          simp only [List.setIfInBounds_toArray, List.set_cons_zero, List.set_cons_succ]
          refine wpAnyH_takes (i := 6) (d := 11) (v := ?_) rfl rfl (by kernel_rfl) (fun _ _ _ h => h) (Or.inl ⟨by rfl, ?_⟩) hS ?_
          rotate_left
          · intro wq hq; (try dsimp only at hq); obtain ⟨hq1, hq2, hq3, hq4, hq5, hq6, hq7, hq8, hq9, hq10, hq11, hq12⟩ := hq; go_simp; try with_reducible rfl
          simp only [List.setIfInBounds_toArray, List.set_cons_zero, List.set_cons_succ]
          refine wpAnyH_takes (i := 7) (d := 12) (v := ?_) rfl rfl (by kernel_rfl) (fun _ _ _ h => h) (Or.inl ⟨by rfl, ?_⟩) hS ?_
          rotate_left
          · intro wq hq; (try dsimp only at hq); obtain ⟨hq1, hq2, hq3, hq4, hq5, hq6, hq7, hq8, hq9, hq10, hq11, hq12⟩ := hq; go_simp; try with_reducible rfl
          simp only [List.setIfInBounds_toArray, List.set_cons_zero, List.set_cons_succ]
          refine wpAnyH_takes (i := 8) (d := 13) (v := ?_) rfl rfl (by kernel_rfl) (fun _ _ _ h => h) (Or.inl ⟨by rfl, ?_⟩) hS ?_
          rotate_left
          · intro wq hq; (try dsimp only at hq); obtain ⟨hq1, hq2, hq3, hq4, hq5, hq6, hq7, hq8, hq9, hq10, hq11, hq12⟩ := hq; go_simp; try with_reducible rfl
          simp only [List.setIfInBounds_toArray, List.set_cons_zero, List.set_cons_succ]
          refine wpAnyH_takes (i := 9) (d := 14) (v := ?_) rfl rfl (by kernel_rfl) (fun _ _ _ h => h) (Or.inl ⟨by rfl, ?_⟩) hS ?_
          rotate_left
          · intro wq hq; (try dsimp only at hq); obtain ⟨hq1, hq2, hq3, hq4, hq5, hq6, hq7, hq8, hq9, hq10, hq11, hq12⟩ := hq; go_simp; try with_reducible rfl
          simp only [List.setIfInBounds_toArray, List.set_cons_zero, List.set_cons_succ]
          refine wpAnyH_takes (i := 10) (d := 15) (v := ?_) rfl rfl (by kernel_rfl) (fun _ _ _ h => h) (Or.inl ⟨by rfl, ?_⟩) hS ?_
          rotate_left
          · intro wq hq; (try dsimp only at hq); obtain ⟨hq1, hq2, hq3, hq4, hq5, hq6, hq7, hq8, hq9, hq10, hq11, hq12⟩ := hq; go_simp; try with_reducible rfl
          simp only [List.setIfInBounds_toArray, List.set_cons_zero, List.set_cons_succ]
          refine wpAnyH_takes (i := 11) (d := 16) (v := ?_) rfl rfl (by kernel_rfl) (fun _ _ _ h => h) (Or.inl ⟨by rfl, ?_⟩) hS ?_
          rotate_left
          · intro wq hq; (try dsimp only at hq); obtain ⟨hq1, hq2, hq3, hq4, hq5, hq6, hq7, hq8, hq9, hq10, hq11, hq12⟩ := hq; go_simp; try with_reducible rfl
          simp only [List.setIfInBounds_toArray, List.set_cons_zero, List.set_cons_succ]
          refine wpAnyH_takes (i := 12) (d := 17) (v := ?_) rfl rfl (by kernel_rfl) (fun _ _ _ h => h) (Or.inl ⟨by rfl, ?_⟩) hS ?_
          rotate_left
          · intro wq hq; (try dsimp only at hq); obtain ⟨hq1, hq2, hq3, hq4, hq5, hq6, hq7, hq8, hq9, hq10, hq11, hq12⟩ := hq; go_simp; try with_reducible rfl
          simp only [List.setIfInBounds_toArray, List.set_cons_zero, List.set_cons_succ]
          refine wpAnyH_takes (i := 13) (d := 18) (v := ?_) rfl rfl (by kernel_rfl) (fun _ _ _ h => h) (Or.inl ⟨by rfl, ?_⟩) hS ?_
          rotate_left
          · intro wq hq; (try dsimp only at hq); obtain ⟨hq1, hq2, hq3, hq4, hq5, hq6, hq7, hq8, hq9, hq10, hq11, hq12⟩ := hq; go_simp; try with_reducible rfl
          simp only [List.setIfInBounds_toArray, List.set_cons_zero, List.set_cons_succ]
          refine wpAnyH_takes (i := 14) (d := 19) (v := ?_) rfl rfl (by kernel_rfl) (fun _ _ _ h => h) (Or.inl ⟨by rfl, ?_⟩) hS ?_
          rotate_left
          · intro wq hq; (try dsimp only at hq); obtain ⟨hq1, hq2, hq3, hq4, hq5, hq6, hq7, hq8, hq9, hq10, hq11, hq12⟩ := hq; go_simp; try with_reducible rfl
          simp only [List.setIfInBounds_toArray, List.set_cons_zero, List.set_cons_succ]
          refine wpAnyH_takes (i := 15) (d := 20) (v := ?_) rfl rfl (by kernel_rfl) (fun _ _ _ h => h) (Or.inl ⟨by rfl, ?_⟩) hS ?_
          rotate_left
          · intro wq hq; (try dsimp only at hq); obtain ⟨hq1, hq2, hq3, hq4, hq5, hq6, hq7, hq8, hq9, hq10, hq11, hq12⟩ := hq; go_simp; try with_reducible rfl
          simp only [List.setIfInBounds_toArray, List.set_cons_zero, List.set_cons_succ]
          refine wpAnyH_takes (i := 16) (d := 21) (v := ?_) rfl rfl (by kernel_rfl) (fun _ _ _ h => h) (Or.inl ⟨by rfl, ?_⟩) hS ?_
          rotate_left
          · intro wq hq; (try dsimp only at hq); obtain ⟨hq1, hq2, hq3, hq4, hq5, hq6, hq7, hq8, hq9, hq10, hq11, hq12⟩ := hq; go_simp; try with_reducible rfl
          simp only [List.setIfInBounds_toArray, List.set_cons_zero, List.set_cons_succ]
          refine wpAnyH_takes (i := 17) (d := 22) (v := ?_) rfl rfl (by kernel_rfl) (fun _ _ _ h => h) (Or.inl ⟨by rfl, ?_⟩) hS ?_
          rotate_left
          · intro wq hq; (try dsimp only at hq); obtain ⟨hq1, hq2, hq3, hq4, hq5, hq6, hq7, hq8, hq9, hq10, hq11, hq12⟩ := hq; go_simp; try with_reducible rfl
          simp only [List.setIfInBounds_toArray, List.set_cons_zero, List.set_cons_succ]
          refine wpAnyH_takes (i := 18) (d := 23) (v := ?_) rfl rfl (by kernel_rfl) (fun _ _ _ h => h) (Or.inl ⟨by rfl, ?_⟩) hS ?_
          rotate_left
          · intro wq hq; (try dsimp only at hq); obtain ⟨hq1, hq2, hq3, hq4, hq5, hq6, hq7, hq8, hq9, hq10, hq11, hq12⟩ := hq; go_simp; try with_reducible rfl
          simp only [List.setIfInBounds_toArray, List.set_cons_zero, List.set_cons_succ]
          refine wpAnyH_takes (i := 19) (d := 24) (v := ?_) rfl rfl (by kernel_rfl) (fun _ _ _ h => h) (Or.inl ⟨by rfl, ?_⟩) hS ?_
          rotate_left
          · intro wq hq; (try dsimp only at hq); obtain ⟨hq1, hq2, hq3, hq4, hq5, hq6, hq7, hq8, hq9, hq10, hq11, hq12⟩ := hq; go_simp; try with_reducible rfl
          simp only [List.setIfInBounds_toArray, List.set_cons_zero, List.set_cons_succ]
          refine wpAnyH_takes (i := 20) (d := 25) (v := ?_) rfl rfl (by kernel_rfl) (fun _ _ _ h => h) (Or.inl ⟨by rfl, ?_⟩) hS ?_
          rotate_left
          · intro wq hq; (try dsimp only at hq); obtain ⟨hq1, hq2, hq3, hq4, hq5, hq6, hq7, hq8, hq9, hq10, hq11, hq12⟩ := hq; go_simp; try with_reducible rfl
          simp only [List.setIfInBounds_toArray, List.set_cons_zero, List.set_cons_succ]
          refine wpAnyH_takes (i := 21) (d := 26) (v := undef) rfl rfl (by kernel_rfl) (fun _ _ _ h => h) (Or.inr ⟨by rfl, by rfl⟩) hS ?_
          simp only [List.setIfInBounds_toArray, List.set_cons_zero, List.set_cons_succ]
          refine wpAnyH_takes (i := 22) (d := 27) (v := undef) rfl rfl (by kernel_rfl) (fun _ _ _ h => h) (Or.inr ⟨by rfl, by rfl⟩) hS ?_
          simp only [List.setIfInBounds_toArray, List.set_cons_zero, List.set_cons_succ]
          refine wpAnyH_takes (i := 23) (d := 28) (v := undef) rfl rfl (by kernel_rfl) (fun _ _ _ h => h) (Or.inr ⟨by rfl, by rfl⟩) hS ?_
          simp only [List.setIfInBounds_toArray, List.set_cons_zero, List.set_cons_succ]
          refine wpAnyH_takes (i := 24) (d := 29) (v := undef) rfl rfl (by kernel_rfl) (fun _ _ _ h => h) (Or.inr ⟨by rfl, by rfl⟩) hS ?_
          simp only [List.setIfInBounds_toArray, List.set_cons_zero, List.set_cons_succ]
          refine wpAnyH_takes (i := 25) (d := 30) (v := undef) rfl rfl (by kernel_rfl) (fun _ _ _ h => h) (Or.inr ⟨by rfl, by rfl⟩) hS ?_
          simp only [List.setIfInBounds_toArray, List.set_cons_zero, List.set_cons_succ]
          refine wpAnyH_takes (i := 26) (d := 31) (v := ?_) rfl rfl (by kernel_rfl) (fun _ _ _ h => h) (Or.inl ⟨by rfl, ?_⟩) hS ?_
          rotate_left
          · intro wq hq; (try dsimp only at hq); obtain ⟨hq1, hq2, hq3, hq4, hq5, hq6, hq7, hq8, hq9, hq10, hq11, hq12⟩ := hq; go_simp; try with_reducible rfl
          simp only [List.setIfInBounds_toArray, List.set_cons_zero, List.set_cons_succ]
          refine wpAnyH_takes (i := 27) (d := 32) (v := ?_) rfl rfl (by kernel_rfl) (fun _ _ _ h => h) (Or.inl ⟨by rfl, ?_⟩) hS ?_
          rotate_left
          · intro wq hq; (try dsimp only at hq); obtain ⟨hq1, hq2, hq3, hq4, hq5, hq6, hq7, hq8, hq9, hq10, hq11, hq12⟩ := hq; go_simp; try with_reducible rfl
          simp only [List.setIfInBounds_toArray, List.set_cons_zero, List.set_cons_succ]
          refine wpAnyH_takes (i := 28) (d := 33) (v := undef) rfl rfl (by kernel_rfl) (fun _ _ _ h => h) (Or.inr ⟨by rfl, by rfl⟩) hS ?_
          simp only [List.setIfInBounds_toArray, List.set_cons_zero, List.set_cons_succ]
          refine wpAnyH_takes (i := 29) (d := 34) (v := undef) rfl rfl (by kernel_rfl) (fun _ _ _ h => h) (Or.inr ⟨by rfl, by rfl⟩) hS ?_
          simp only [List.setIfInBounds_toArray, List.set_cons_zero, List.set_cons_succ]
          refine wpAnyH_takes (i := 30) (d := 35) (v := undef) rfl rfl (by kernel_rfl) (fun _ _ _ h => h) (Or.inr ⟨by rfl, by rfl⟩) hS ?_
          simp only [List.setIfInBounds_toArray, List.set_cons_zero, List.set_cons_succ]
          refine wpAnyH_takes (i := 31) (d := 36) (v := undef) rfl rfl (by kernel_rfl) (fun _ _ _ h => h) (Or.inr ⟨by rfl, by rfl⟩) hS ?_
          simp only [List.setIfInBounds_toArray, List.set_cons_zero, List.set_cons_succ]
          refine wpAnyH_takes (i := 32) (d := 37) (v := undef) rfl rfl (by kernel_rfl) (fun _ _ _ h => h) (Or.inr ⟨by rfl, by rfl⟩) hS ?_
          simp only [List.setIfInBounds_toArray, List.set_cons_zero, List.set_cons_succ]
          refine wpAnyH_takes (i := 33) (d := 38) (v := ?_) rfl rfl (by kernel_rfl) (fun _ _ _ h => h) (Or.inl ⟨by rfl, ?_⟩) hS ?_
          rotate_left
          · intro wq hq; (try dsimp only at hq); obtain ⟨hq1, hq2, hq3, hq4, hq5, hq6, hq7, hq8, hq9, hq10, hq11, hq12⟩ := hq; go_simp; try with_reducible rfl
          simp only [List.setIfInBounds_toArray, List.set_cons_zero, List.set_cons_succ]
          refine wpAnyH_takes (i := 34) (d := 39) (v := ?_) rfl rfl (by kernel_rfl) (fun _ _ _ h => h) (Or.inl ⟨by rfl, ?_⟩) hS ?_
          rotate_left
          · intro wq hq; (try dsimp only at hq); obtain ⟨hq1, hq2, hq3, hq4, hq5, hq6, hq7, hq8, hq9, hq10, hq11, hq12⟩ := hq; go_simp; try with_reducible rfl
          simp only [List.setIfInBounds_toArray, List.set_cons_zero, List.set_cons_succ]
          refine wpAnyH_takes (i := 35) (d := 40) (v := undef) rfl rfl (by kernel_rfl) (fun _ _ _ h => h) (Or.inr ⟨by rfl, by rfl⟩) hS ?_
          simp only [List.setIfInBounds_toArray, List.set_cons_zero, List.set_cons_succ]
          refine wpAnyH_takes (i := 36) (d := 41) (v := undef) rfl rfl (by kernel_rfl) (fun _ _ _ h => h) (Or.inr ⟨by rfl, by rfl⟩) hS ?_
          simp only [List.setIfInBounds_toArray, List.set_cons_zero, List.set_cons_succ]
          refine wpAnyH_takes (i := 37) (d := 42) (v := undef) rfl rfl (by kernel_rfl) (fun _ _ _ h => h) (Or.inr ⟨by rfl, by rfl⟩) hS ?_
          simp only [List.setIfInBounds_toArray, List.set_cons_zero, List.set_cons_succ]
          refine wpAnyH_takes (i := 38) (d := 43) (v := undef) rfl rfl (by kernel_rfl) (fun _ _ _ h => h) (Or.inr ⟨by rfl, by rfl⟩) hS ?_
          simp only [List.setIfInBounds_toArray, List.set_cons_zero, List.set_cons_succ]
          refine wpAnyH_takes (i := 39) (d := 44) (v := undef) rfl rfl (by kernel_rfl) (fun _ _ _ h => h) (Or.inr ⟨by rfl, by rfl⟩) hS ?_
          simp only [List.setIfInBounds_toArray, List.set_cons_zero, List.set_cons_succ]
          refine wpAnyH_takes (i := 40) (d := 45) (v := undef) rfl rfl (by kernel_rfl) (fun _ _ _ h => h) (Or.inr ⟨by rfl, by rfl⟩) hS ?_
          simp only [List.setIfInBounds_toArray, List.set_cons_zero, List.set_cons_succ]
          refine wpAnyH_takes (i := 41) (d := 46) (v := undef) rfl rfl (by kernel_rfl) (fun _ _ _ h => h) (Or.inr ⟨by rfl, by rfl⟩) hS ?_
          simp only [List.setIfInBounds_toArray, List.set_cons_zero, List.set_cons_succ]
          refine wpAnyH_takes (i := 42) (d := 47) (v := ?_) rfl rfl (by kernel_rfl) (fun _ _ _ h => h) (Or.inl ⟨by rfl, ?_⟩) hS ?_
          rotate_left
          · intro wq hq; (try dsimp only at hq); obtain ⟨hq1, hq2, hq3, hq4, hq5, hq6, hq7, hq8, hq9, hq10, hq11, hq12⟩ := hq; go_simp; try with_reducible rfl
          simp only [List.setIfInBounds_toArray, List.set_cons_zero, List.set_cons_succ]
          refine wpAnyH_takes (i := 43) (d := 4) (v := ?_) rfl rfl (by kernel_rfl) (fun _ _ _ h => h) (Or.inl ⟨by rfl, ?_⟩) hS ?_
          rotate_left
          · intro wq hq; (try dsimp only at hq); obtain ⟨hq1, hq2, hq3, hq4, hq5, hq6, hq7, hq8, hq9, hq10, hq11, hq12⟩ := hq; go_simp; try with_reducible rfl
          simp only [List.setIfInBounds_toArray, List.set_cons_zero, List.set_cons_succ]
          refine wpAnyH_done (by kernel_rfl) ?_ _
          go_wp2
          go_ret
          exact ⟨ret_goes (by rw [HG.out]; simp_all), HTb.out.low⟩
      · have p2 : (a1 == b0) = false := by rw [beq_eq_false_iff_ne]; exact q2
        clear q2
        try simp only [Array.replicate, List.replicate, List.setIfInBounds_toArray]
        refine wpAnyH_takes (i := 0) (d := 5) (v := ?_) rfl rfl (by kernel_rfl) (fun _ _ _ h => h) (Or.inl ⟨by rfl, ?_⟩) hS ?_
        rotate_left
        · intro wq hq; (try dsimp only at hq); obtain ⟨hq1, hq2, hq3, hq4, hq5, hq6, hq7, hq8, hq9, hq10, hq11, hq12⟩ := hq; go_simp; try with_reducible rfl
        simp only [List.setIfInBounds_toArray, List.set_cons_zero, List.set_cons_succ]
        refine wpAnyH_one (i := 1) (by kernel_rfl) rfl (by rfl) (fun K hK => ?_)
        simp only [List.getElem_toArray, List.getElem_cons_succ, List.getElem_cons_zero]
        go_simp
        refine (HFA.out _).mono ?_
        rintro e wa ⟨rfl, hb⟩
        have HTa := Lib.hid (HT.out.thru hb)
        refine hK.out _ _ HTa.out.held ?_
        clear hK K hb hS
        have hS := HTa.out.held
        try simp only [Act.put, List.setIfInBounds_toArray, List.set_cons_zero, List.set_cons_succ]
        refine wpAnyH_takes (i := 2) (d := 7) (v := ?_) rfl rfl (by kernel_rfl) (fun _ _ _ h => h) (Or.inl ⟨by rfl, ?_⟩) hS ?_
        rotate_left
        · intro wq hq; (try dsimp only at hq); obtain ⟨hq1, hq2, hq3, hq4, hq5, hq6, hq7, hq8, hq9, hq10, hq11, hq12⟩ := hq; go_simp; try with_reducible rfl
        simp only [List.setIfInBounds_toArray, List.set_cons_zero, List.set_cons_succ]
        refine wpAnyH_takes (i := 3) (d := 8) (v := ?_) rfl rfl (by kernel_rfl) (fun _ _ _ h => h) (Or.inl ⟨by rfl, ?_⟩) hS ?_
        rotate_left
        · intro wq hq; (try dsimp only at hq); obtain ⟨hq1, hq2, hq3, hq4, hq5, hq6, hq7, hq8, hq9, hq10, hq11, hq12⟩ := hq; go_simp; try with_reducible rfl
        simp only [List.setIfInBounds_toArray, List.set_cons_zero, List.set_cons_succ]
        refine wpAnyH_one (i := 4) (by kernel_rfl) rfl (by rfl) (fun K hK => ?_)
        simp only [List.getElem_toArray, List.getElem_cons_succ, List.getElem_cons_zero]
        go_simp
        refine (HFB.out _).mono ?_
        rintro e wb ⟨rfl, hb⟩
        have HTb := Lib.hid (HTa.out.thru hb)
        refine hK.out _ _ HTb.out.held ?_
        clear hK K hb hS
        have hS := HTb.out.held
        try simp only [Act.put, List.setIfInBounds_toArray, List.set_cons_zero, List.set_cons_succ]
        refine wpAnyH_takes (i := 5) (d := 10) (v := ?_) rfl rfl (by kernel_rfl) (fun _ _ _ h => h) (Or.inl ⟨by rfl, ?_⟩) hS ?_
        rotate_left
        · intro wq hq; (try dsimp only at hq); obtain ⟨hq1, hq2, hq3, hq4, hq5, hq6, hq7, hq8, hq9, hq10, hq11, hq12⟩ := hq; go_simp; try with_reducible rfl
        simp only [List.setIfInBounds_toArray, List.set_cons_zero, List.set_cons_succ]
        refine wpAnyH_takes (i := 6) (d := 11) (v := ?_) rfl rfl (by kernel_rfl) (fun _ _ _ h => h) (Or.inl ⟨by rfl, ?_⟩) hS ?_
        rotate_left
        · intro wq hq; (try dsimp only at hq); obtain ⟨hq1, hq2, hq3, hq4, hq5, hq6, hq7, hq8, hq9, hq10, hq11, hq12⟩ := hq; go_simp; try with_reducible rfl
        simp only [List.setIfInBounds_toArray, List.set_cons_zero, List.set_cons_succ]
        refine wpAnyH_takes (i := 7) (d := 12) (v := ?_) rfl rfl (by kernel_rfl) (fun _ _ _ h => h) (Or.inl ⟨by rfl, ?_⟩) hS ?_
        rotate_left
        · intro wq hq; (try dsimp only at hq); obtain ⟨hq1, hq2, hq3, hq4, hq5, hq6, hq7, hq8, hq9, hq10, hq11, hq12⟩ := hq; go_simp; try with_reducible rfl
        simp only [List.setIfInBounds_toArray, List.set_cons_zero, List.set_cons_succ]
        refine wpAnyH_takes (i := 8) (d := 13) (v := ?_) rfl rfl (by kernel_rfl) (fun _ _ _ h => h) (Or.inl ⟨by rfl, ?_⟩) hS ?_
        rotate_left
        · intro wq hq; (try dsimp only at hq); obtain ⟨hq1, hq2, hq3, hq4, hq5, hq6, hq7, hq8, hq9, hq10, hq11, hq12⟩ := hq; go_simp; try with_reducible rfl
        simp only [List.setIfInBounds_toArray, List.set_cons_zero, List.set_cons_succ]
        refine wpAnyH_takes (i := 9) (d := 14) (v := ?_) rfl rfl (by kernel_rfl) (fun _ _ _ h => h) (Or.inl ⟨by rfl, ?_⟩) hS ?_
        rotate_left
        · intro wq hq; (try dsimp only at hq); obtain ⟨hq1, hq2, hq3, hq4, hq5, hq6, hq7, hq8, hq9, hq10, hq11, hq12⟩ := hq; go_simp; try with_reducible rfl
        simp only [List.setIfInBounds_toArray, List.set_cons_zero, List.set_cons_succ]
        refine wpAnyH_takes (i := 10) (d := 15) (v := ?_) rfl rfl (by kernel_rfl) (fun _ _ _ h => h) (Or.inl ⟨by rfl, ?_⟩) hS ?_
        rotate_left
        · intro wq hq; (try dsimp only at hq); obtain ⟨hq1, hq2, hq3, hq4, hq5, hq6, hq7, hq8, hq9, hq10, hq11, hq12⟩ := hq; go_simp; try with_reducible rfl
        simp only [List.setIfInBounds_toArray, List.set_cons_zero, List.set_cons_succ]
        refine wpAnyH_takes (i := 11) (d := 16) (v := ?_) rfl rfl (by kernel_rfl) (fun _ _ _ h => h) (Or.inl ⟨by rfl, ?_⟩) hS ?_
        rotate_left
        · intro wq hq; (try dsimp only at hq); obtain ⟨hq1, hq2, hq3, hq4, hq5, hq6, hq7, hq8, hq9, hq10, hq11, hq12⟩ := hq; go_simp; try with_reducible rfl
        simp only [List.setIfInBounds_toArray, List.set_cons_zero, List.set_cons_succ]
        refine wpAnyH_takes (i := 12) (d := 17) (v := ?_) rfl rfl (by kernel_rfl) (fun _ _ _ h => h) (Or.inl ⟨by rfl, ?_⟩) hS ?_
        rotate_left
        · intro wq hq; (try dsimp only at hq); obtain ⟨hq1, hq2, hq3, hq4, hq5, hq6, hq7, hq8, hq9, hq10, hq11, hq12⟩ := hq; go_simp; try with_reducible rfl
        simp only [List.setIfInBounds_toArray, List.set_cons_zero, List.set_cons_succ]
        refine wpAnyH_takes (i := 13) (d := 18) (v := ?_) rfl rfl (by kernel_rfl) (fun _ _ _ h => h) (Or.inl ⟨by rfl, ?_⟩) hS ?_
        rotate_left
        · intro wq hq; (try dsimp only at hq); obtain ⟨hq1, hq2, hq3, hq4, hq5, hq6, hq7, hq8, hq9, hq10, hq11, hq12⟩ := hq; go_simp; try with_reducible rfl
        simp only [List.setIfInBounds_toArray, List.set_cons_zero, List.set_cons_succ]
        refine wpAnyH_takes (i := 14) (d := 19) (v := undef) rfl rfl (by kernel_rfl) (fun _ _ _ h => h) (Or.inr ⟨by rfl, by rfl⟩) hS ?_
        simp only [List.setIfInBounds_toArray, List.set_cons_zero, List.set_cons_succ]
        refine wpAnyH_takes (i := 15) (d := 20) (v := undef) rfl rfl (by kernel_rfl) (fun _ _ _ h => h) (Or.inr ⟨by rfl, by rfl⟩) hS ?_
        simp only [List.setIfInBounds_toArray, List.set_cons_zero, List.set_cons_succ]
        refine wpAnyH_takes (i := 16) (d := 21) (v := undef) rfl rfl (by kernel_rfl) (fun _ _ _ h => h) (Or.inr ⟨by rfl, by rfl⟩) hS ?_
        simp only [List.setIfInBounds_toArray, List.set_cons_zero, List.set_cons_succ]
        refine wpAnyH_takes (i := 17) (d := 22) (v := undef) rfl rfl (by kernel_rfl) (fun _ _ _ h => h) (Or.inr ⟨by rfl, by rfl⟩) hS ?_
        simp only [List.setIfInBounds_toArray, List.set_cons_zero, List.set_cons_succ]
        refine wpAnyH_takes (i := 18) (d := 23) (v := undef) rfl rfl (by kernel_rfl) (fun _ _ _ h => h) (Or.inr ⟨by rfl, by rfl⟩) hS ?_
        simp only [List.setIfInBounds_toArray, List.set_cons_zero, List.set_cons_succ]
        refine wpAnyH_takes (i := 19) (d := 24) (v := ?_) rfl rfl (by kernel_rfl) (fun _ _ _ h => h) (Or.inl ⟨by rfl, ?_⟩) hS ?_
        rotate_left
        · intro wq hq; (try dsimp only at hq); obtain ⟨hq1, hq2, hq3, hq4, hq5, hq6, hq7, hq8, hq9, hq10, hq11, hq12⟩ := hq; go_simp; try with_reducible rfl
        simp only [List.setIfInBounds_toArray, List.set_cons_zero, List.set_cons_succ]
        refine wpAnyH_takes (i := 20) (d := 25) (v := ?_) rfl rfl (by kernel_rfl) (fun _ _ _ h => h) (Or.inl ⟨by rfl, ?_⟩) hS ?_
        rotate_left
        · intro wq hq; (try dsimp only at hq); obtain ⟨hq1, hq2, hq3, hq4, hq5, hq6, hq7, hq8, hq9, hq10, hq11, hq12⟩ := hq; go_simp; try with_reducible rfl
        simp only [List.setIfInBounds_toArray, List.set_cons_zero, List.set_cons_succ]
        refine wpAnyH_takes (i := 21) (d := 26) (v := undef) rfl rfl (by kernel_rfl) (fun _ _ _ h => h) (Or.inr ⟨by rfl, by rfl⟩) hS ?_
        simp only [List.setIfInBounds_toArray, List.set_cons_zero, List.set_cons_succ]
        refine wpAnyH_takes (i := 22) (d := 27) (v := undef) rfl rfl (by kernel_rfl) (fun _ _ _ h => h) (Or.inr ⟨by rfl, by rfl⟩) hS ?_
        simp only [List.setIfInBounds_toArray, List.set_cons_zero, List.set_cons_succ]
        refine wpAnyH_takes (i := 23) (d := 28) (v := undef) rfl rfl (by kernel_rfl) (fun _ _ _ h => h) (Or.inr ⟨by rfl, by rfl⟩) hS ?_
        simp only [List.setIfInBounds_toArray, List.set_cons_zero, List.set_cons_succ]
        refine wpAnyH_takes (i := 24) (d := 29) (v := undef) rfl rfl (by kernel_rfl) (fun _ _ _ h => h) (Or.inr ⟨by rfl, by rfl⟩) hS ?_
        simp only [List.setIfInBounds_toArray, List.set_cons_zero, List.set_cons_succ]
        refine wpAnyH_takes (i := 25) (d := 30) (v := undef) rfl rfl (by kernel_rfl) (fun _ _ _ h => h) (Or.inr ⟨by rfl, by rfl⟩) hS ?_
        simp only [List.setIfInBounds_toArray, List.set_cons_zero, List.set_cons_succ]
        refine wpAnyH_takes (i := 26) (d := 31) (v := ?_) rfl rfl (by kernel_rfl) (fun _ _ _ h => h) (Or.inl ⟨by rfl, ?_⟩) hS ?_
        rotate_left
        · intro wq hq; (try dsimp only at hq); obtain ⟨hq1, hq2, hq3, hq4, hq5, hq6, hq7, hq8, hq9, hq10, hq11, hq12⟩ := hq; go_simp; try with_reducible rfl
        simp only [List.setIfInBounds_toArray, List.set_cons_zero, List.set_cons_succ]
        refine wpAnyH_takes (i := 27) (d := 32) (v := ?_) rfl rfl (by kernel_rfl) (fun _ _ _ h => h) (Or.inl ⟨by rfl, ?_⟩) hS ?_
        rotate_left
        · intro wq hq; (try dsimp only at hq); obtain ⟨hq1, hq2, hq3, hq4, hq5, hq6, hq7, hq8, hq9, hq10, hq11, hq12⟩ := hq; go_simp; try with_reducible rfl
        simp only [List.setIfInBounds_toArray, List.set_cons_zero, List.set_cons_succ]
        refine wpAnyH_takes (i := 28) (d := 33) (v := undef) rfl rfl (by kernel_rfl) (fun _ _ _ h => h) (Or.inr ⟨by rfl, by rfl⟩) hS ?_
        simp only [List.setIfInBounds_toArray, List.set_cons_zero, List.set_cons_succ]
        refine wpAnyH_takes (i := 29) (d := 34) (v := undef) rfl rfl (by kernel_rfl) (fun _ _ _ h => h) (Or.inr ⟨by rfl, by rfl⟩) hS ?_
        simp only [List.setIfInBounds_toArray, List.set_cons_zero, List.set_cons_succ]
        refine wpAnyH_takes (i := 30) (d := 35) (v := undef) rfl rfl (by kernel_rfl) (fun _ _ _ h => h) (Or.inr ⟨by rfl, by rfl⟩) hS ?_
        simp only [List.setIfInBounds_toArray, List.set_cons_zero, List.set_cons_succ]
        refine wpAnyH_takes (i := 31) (d := 36) (v := undef) rfl rfl (by kernel_rfl) (fun _ _ _ h => h) (Or.inr ⟨by rfl, by rfl⟩) hS ?_
        simp only [List.setIfInBounds_toArray, List.set_cons_zero, List.set_cons_succ]
        refine wpAnyH_takes (i := 32) (d := 37) (v := undef) rfl rfl (by kernel_rfl) (fun _ _ _ h => h) (Or.inr ⟨by rfl, by rfl⟩) hS ?_
        simp only [List.setIfInBounds_toArray, List.set_cons_zero, List.set_cons_succ]
        refine wpAnyH_takes (i := 33) (d := 38) (v := ?_) rfl rfl (by kernel_rfl) (fun _ _ _ h => h) (Or.inl ⟨by rfl, ?_⟩) hS ?_
        rotate_left
        · intro wq hq; (try dsimp only at hq); obtain ⟨hq1, hq2, hq3, hq4, hq5, hq6, hq7, hq8, hq9, hq10, hq11, hq12⟩ := hq; go_simp; try with_reducible rfl
        simp only [List.setIfInBounds_toArray, List.set_cons_zero, List.set_cons_succ]
        refine wpAnyH_takes (i := 34) (d := 39) (v := ?_) rfl rfl (by kernel_rfl) (fun _ _ _ h => h) (Or.inl ⟨by rfl, ?_⟩) hS ?_
        rotate_left
        · intro wq hq; (try dsimp only at hq); obtain ⟨hq1, hq2, hq3, hq4, hq5, hq6, hq7, hq8, hq9, hq10, hq11, hq12⟩ := hq; go_simp; try with_reducible rfl
        simp only [List.setIfInBounds_toArray, List.set_cons_zero, List.set_cons_succ]
        refine wpAnyH_takes (i := 35) (d := 40) (v := undef) rfl rfl (by kernel_rfl) (fun _ _ _ h => h) (Or.inr ⟨by rfl, by rfl⟩) hS ?_
        simp only [List.setIfInBounds_toArray, List.set_cons_zero, List.set_cons_succ]
        refine wpAnyH_takes (i := 36) (d := 41) (v := undef) rfl rfl (by kernel_rfl) (fun _ _ _ h => h) (Or.inr ⟨by rfl, by rfl⟩) hS ?_
        simp only [List.setIfInBounds_toArray, List.set_cons_zero, List.set_cons_succ]
        refine wpAnyH_takes (i := 37) (d := 42) (v := undef) rfl rfl (by kernel_rfl) (fun _ _ _ h => h) (Or.inr ⟨by rfl, by rfl⟩) hS ?_
        simp only [List.setIfInBounds_toArray, List.set_cons_zero, List.set_cons_succ]
        refine wpAnyH_takes (i := 38) (d := 43) (v := undef) rfl rfl (by kernel_rfl) (fun _ _ _ h => h) (Or.inr ⟨by rfl, by rfl⟩) hS ?_
        simp only [List.setIfInBounds_toArray, List.set_cons_zero, List.set_cons_succ]
        refine wpAnyH_takes (i := 39) (d := 44) (v := undef) rfl rfl (by kernel_rfl) (fun _ _ _ h => h) (Or.inr ⟨by rfl, by rfl⟩) hS ?_
        simp only [List.setIfInBounds_toArray, List.set_cons_zero, List.set_cons_succ]
        refine wpAnyH_takes (i := 40) (d := 45) (v := undef) rfl rfl (by kernel_rfl) (fun _ _ _ h => h) (Or.inr ⟨by rfl, by rfl⟩) hS ?_
        simp only [List.setIfInBounds_toArray, List.set_cons_zero, List.set_cons_succ]
        refine wpAnyH_takes (i := 41) (d := 46) (v := undef) rfl rfl (by kernel_rfl) (fun _ _ _ h => h) (Or.inr ⟨by rfl, by rfl⟩) hS ?_
        simp only [List.setIfInBounds_toArray, List.set_cons_zero, List.set_cons_succ]
        refine wpAnyH_takes (i := 42) (d := 47) (v := ?_) rfl rfl (by kernel_rfl) (fun _ _ _ h => h) (Or.inl ⟨by rfl, ?_⟩) hS ?_
        rotate_left
        · intro wq hq; (try dsimp only at hq); obtain ⟨hq1, hq2, hq3, hq4, hq5, hq6, hq7, hq8, hq9, hq10, hq11, hq12⟩ := hq; go_simp; try with_reducible rfl
        simp only [List.setIfInBounds_toArray, List.set_cons_zero, List.set_cons_succ]
        refine wpAnyH_takes (i := 43) (d := 4) (v := ?_) rfl rfl (by kernel_rfl) (fun _ _ _ h => h) (Or.inl ⟨by rfl, ?_⟩) hS ?_
        rotate_left
        · intro wq hq; (try dsimp only at hq); obtain ⟨hq1, hq2, hq3, hq4, hq5, hq6, hq7, hq8, hq9, hq10, hq11, hq12⟩ := hq; go_simp; try with_reducible rfl
        simp only [List.setIfInBounds_toArray, List.set_cons_zero, List.set_cons_succ]
        refine wpAnyH_done (by kernel_rfl) ?_ _
        go_wp2
        go_ret
        exact ⟨ret_goes (by rw [HG.out]; simp_all), HTb.out.low⟩
end Go.Proofs.Ytohidmkfpaiklaa
