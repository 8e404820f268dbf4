/- WalkGoes, walked. -/
import Derived.Test.YtldccemgfjmcdaaFinds17
import Derived.Test.YtldccemgfjmcdaaDown17
namespace Go.Proofs.Ytldccemgfjmcdaa
open Go.RowKit
set_option linter.unusedSimpArgs false
set_option linter.unusedVariables false

/-- What was got: two rows. -/
structure Got (w : World) (es : List EntV) (ns : List Int) (EA : Option Addr) (ec : Nat) (NA : Option Addr) (nc : Nat) : Prop where
  oe : w.ownsRow 0 47 3 (.slice EA es.length ec) es.length (es.flatMap entCells)
  on : w.ownsRow 0 2 1 (.slice NA ns.length nc) ns.length (i64s ns)
  wn : ∀ x ∈ ns, WfI x
section
variable {w w' : World} {es : List EntV} {ns : List Int} {EA NA : Option Addr} {ec nc : Nat}
theorem Got.thru (h : Got w es ns EA ec NA nc) (hb : Below w.heap.size w w') : Got w' es ns EA ec NA nc := ⟨own_thru h.oe hb, own_thru h.on hb, h.wn⟩
theorem Got.ints (h : Got w es ns EA ec NA nc) : Ints w NA ns.length nc ns := own_ints h.on h.wn
theorem entCells_len (e : EntV) : (entCells e).length = 3 := rfl
theorem Got.ent (h : Got w es ns EA ec NA nc) {i : Nat} (hi : i < es.length) : ∃ g e, EA = some ⟨g, 0, none⟩ ∧ es[i]? = some e ∧ w.cell? ⟨g, i * 3, none⟩ = some (.int .i64 e.lo) ∧ w.cell? ⟨g, i * 3 + 1, none⟩ = some (.int .i64 e.stop) ∧ w.cell? ⟨g, i * 3 + 2, none⟩ = some (.int .i64 e.h) := by
  obtain ⟨h1, -⟩ := Rows'.ofOwn h.oe
  rcases h1 with ⟨-, hn, -⟩ | ⟨g, cap, hv, hr⟩
  · omega
  · injection hv with e1 e2 e3
    have he : es[i]? = some es[i] := List.getElem?_eq_getElem hi
    refine ⟨g, es[i], e1, he, ?_, ?_, ?_⟩
    · have := hr.cell (j := i * 3 + 0) (u := .int .i64 es[i].lo) (by rw [flat_get entCells_len es i es[i] 0 he (by omega)]; rfl)
      exact this
    · exact hr.cell (j := i * 3 + 1) (u := .int .i64 es[i].stop) (by rw [flat_get entCells_len es i es[i] 1 he (by omega)]; rfl)
    · exact hr.cell (j := i * 3 + 2) (u := .int .i64 es[i].h) (by rw [flat_get entCells_len es i es[i] 2 he (by omega)]; rfl)
end
theorem TreeAt.got {w w0 : World} {tb : Nat} {es : List EntV} {ns : List Int} {n : Nat} {EA NA : Option Addr} {ec nc : Nat} (h : TreeAt w w0 tb es ns n EA ec NA nc) : Got w es ns EA ec NA nc := ⟨h.oe.mono (Nat.zero_le _), h.on.mono (Nat.zero_le _), h.wn⟩
set_option maxRecDepth 100000 in
set_option maxHeartbeats 4000000 in
theorem goes17 (a : Option Addr) (len cap : Nat) (rs : List (RowV Int)) (root : Int) (w : World) (ha : ArgOf RowV.cells 1 (fun r => ArgInts .i64 w r.a r.len r.cap r.zs) w a len cap rs) (hr : (Lit.int .i64 root).wf = true) :
    Calls Try.prog 4 #[.slice a len cap, .int .i64 root] w fun e w' => e = .returned (.bool true) ∧ Below w.heap.size w w' := by
  have HA := Lib.hid awake17
  have HB := Lib.hid (Below.refl w.heap.size w)
  have HWR := Lib.hid (show WfI root from hr)
  have HFW := Lib.hid (fun w1 (h1 : Below w.heap.size w w1) => few17 a len cap rs w1 ((RowsL.ofArg ha).below h1))
  have HWD := Lib.hid (fun w1 (h1 : Below w.heap.size w w1) (hl : len ≤ 8) => words17 a len cap rs w1 ((RowsL.ofArg ha).below h1) hl)
  clear ha hr
  go_enter Try.func4, Try.ntmps4
  go_wp2_with fail
  refine (HA.out _).mono ?_
  rintro e w1 ⟨rfl, hb⟩
  replace HB := Lib.hid (below_thru HB.out hb)
  clear hb
  go_wp2_with fail
  refine (HFW.out w1 HB.out).mono ?_
  rintro e w2 ⟨rfl, b, rfl, hb8⟩
  clear HFW
  cases b with
  | false =>
    clear hb8 HWD
    go_wp2_with fail
    refine (HA.out _).mono ?_
    rintro e w9 ⟨rfl, hb⟩
    replace HB := Lib.hid (below_thru HB.out hb)
    clear hb
    go_wp2
    go_ret
    exact ⟨rfl, HB.out⟩
  | true =>
    replace hb8 := hb8 rfl
    have HWW := Lib.hid (HWD.out w2 HB.out hb8)
    clear HWD
    go_wp2_with fail
    refine HWW.out.mono ?_
    rintro e w3 ⟨A, c, rows, rfl, hws, hmap, hlen⟩
    have HN := Lib.hid (show rows.length ≤ 8 by omega)
    have HP := Lib.hid (pads_len hmap)
    have HR3 := Lib.hid hws.rowsL
    have HL3 := Lib.hid (show LandOf w w3 A c rows w3 from ⟨below_thru HB.out hws.low, Below.refl _ _, hws.rowsL⟩)
    have HG3 := Lib.hid HL3.out.low.size
    have H28 := Lib.hid (fun r hr => (hws.each r hr).1)
    clear hws hmap hlen hb8 HWW HB
    have HSL := Lib.hid (slots16' A rows.length c rows w3 HR3.out H28.out (by have := HN.out; omega))
    go_wp2_with fail
    refine (HSL.out).mono ?_
    rintro e w4 ⟨rfl, hb, hland⟩
    replace HL3 := Lib.hid (HL3.out.thru hb)
    clear hb
    have HLA := Lib.hid hland
    clear hland HSL
    obtain ⟨xs, hxs⟩ : ∃ xs, rows.map (·.zs) = xs := ⟨_, rfl⟩
    have HXL := Lib.hid (show xs.length ≤ 8 by rw [← hxs, List.length_map]; exact HN.out)
    rw [hxs] at HLA HP
    have HXS := Lib.hid hxs
    obtain ⟨st, k, hk, h80, ht, -⟩ := tells_goAll (xs := xs) HP.out (by have := HXL.out; omega) root
    have HDN := Lib.hid (fun w0 (h0 : RowsL w0 A rows.length c rows) => down17 xs HP.out A rows.length c rows w0 h0 H28.out (by have := HN.out; omega) HXS.out 8 (Nat.le_refl _) root [] [] 0)
    unfold allP at ht
    obtain ⟨Q, hQ⟩ : ∃ Q, downP xs 8 root [] [] = Q := ⟨_, rfl⟩
    simp only [hQ] at ht h80 HDN
    clear hQ hxs
    obtain ⟨qb, qe, qn, qk⟩ := Q
    simp only at ht h80
    have HT := Lib.hid (alone_tells root 0 true (goAllR root) (goAll_free _) (runsAll root 0 HWR.out) _ _ _ _ (land16 xs) none w4 HLA.out ht (by omega) (by rw [land16_count]; omega) (by rw [land16_count]; have := HXL.out; omega))
    have HQ := Lib.hid h80
    obtain ⟨es, hes⟩ : ∃ es, (allAns (qb, qe, qn)).1 = es := ⟨_, rfl⟩
    obtain ⟨ns, hns⟩ : ∃ ns, (allAns (qb, qe, qn)).2.1 = ns := ⟨_, rfl⟩
    simp only [hes, hns] at HT
    have HES := Lib.hid hes
    have HNS := Lib.hid hns
    clear ht h80 hk hes hns
    go_wp2_with fail
    refine HT.out.mono ?_
    rintro e w5 ⟨cs, σ2, rfl, ⟨EA, ec, NA, nc, rfl, hoe, hon, hwg⟩, -, -, -, -, hu⟩
    have HL5 := Lib.hid (HL3.out.run hu HG3.out (by omega))
    have HGT := Lib.hid (show Got w5 es ns EA ec NA nc from ⟨hoe, hon, hwg.2.1⟩)
    have h512 : es.length ≤ 512 := hwg.2.2.2.2
    clear hu HT HLA HL3 HR3 hoe hon hwg
    simp only
    replace HL5 := Lib.hid (HL5.out.thru (below_alloc0 w5 (.cells #[.int .i64 0, .bool qb, .slice EA es.length ec, .slice NA ns.length nc] 33)))
    replace HGT := Lib.hid (HGT.out.thru (below_alloc0 w5 (.cells #[.int .i64 0, .bool qb, .slice EA es.length ec, .slice NA ns.length nc] 33)))
    have HRB := Lib.hid (Blk.new w5 33 #[.int .i64 0, .bool qb, .slice EA es.length ec, .slice NA ns.length nc])
    go_upto_region 6 with fail
    have HZ := Lib.hid (World.size_alloc w5 (.cells #[.int .i64 0, .bool qb, .slice EA es.length ec, .slice NA ns.length nc] 33))
    obtain ⟨rb, hrb⟩ : ∃ x, w5.heap.size = x := ⟨_, rfl⟩
    simp only [hrb] at HRB HZ ⊢
    replace hrb := Lib.hid hrb
    generalize w5.alloc (.cells #[.int .i64 0, .bool qb, .slice EA es.length ec, .slice NA ns.length nc] 33) = w6 at *
    have HLE := Lib.hid HL5.out.low.size
    have HT7 := Lib.hid (show TreeAt (w6.alloc (.cells #[.slice none 0 0, .slice none 0 0, .int .i64 0] 43)) w6 w6.heap.size [] [] 0 none 0 none 0 from ⟨Blk.new _ _ _, World.ownsRow_nil _ _ _ _, World.ownsRow_nil _ _ _ _, Nat.le_refl _, below_alloc0 _ _, by simp, by simp⟩)
    have HDD := Lib.hid (HDN.out w6 HL5.out.at_ w6.heap.size none none 0 0 _ HT7.out (by simp) (by simp) (by simp) HWR.out)
    clear HDN HT7
    go_upto_region 7 with fail
    go_wp2_with fail
    refine HDD.out.mono ?_
    rintro e w8 ⟨n', EA', ec', NA', nc', rfl, hn', htr, -⟩
    simp only [Nat.zero_add] at hn'
    subst hn'
    simp only at htr
    have HTR := Lib.hid htr
    have HL8 := Lib.hid (HL5.out.thru htr.low)
    have HG8 := Lib.hid (HGT.out.thru htr.low)
    have HR8 := Lib.hid (HRB.out.thru htr.low)
    have hk64 : (n' : Int) ≤ 1664 := by have := HQ.out; omega
    obtain ⟨tb, htb⟩ : ∃ tb, w6.heap.size = tb := ⟨_, rfl⟩
    simp only [htb] at HTR ⊢
    clear htr hrb htb HDD HL5 HGT HRB HLE HZ
    obtain ⟨r0, r1, r2, r3⟩ := HR8.out.at4
    obtain ⟨t0, t1, t2⟩ := HTR.out.blk.at3
    cases qb with
    | false =>
      obtain rfl : es = [] := by rw [← HES.out]; simp [allAns]
      obtain rfl : ns = [] := by rw [← HNS.out]; simp [allAns]
      have HE := Lib.hid HL8.out.low
      clear HL8 HG8 HR8 HTR HES HNS
      go_wp2
      go_ret
      exact ⟨rfl, HE.out⟩
    | true =>
      obtain rfl : qe = es := by rw [← HES.out]; simp [allAns]
      obtain rfl : qn = ns := by rw [← HNS.out]; simp [allAns]
      have HSM := Lib.hid (ref15_same NA NA' qn.length qn.length nc nc' qn qn w8 HG8.out.ints HTR.out.got.ints)
      rw [decide_eq_true rfl] at HSM
      clear HES HNS
      go_wp2_with fail
      refine HSM.out.mono ?_
      rintro e w9 ⟨rfl, kq, rfl⟩
      have HE := Lib.hid (fun k => below_drewN HL8.out.low k)
      have HGA := Lib.hid HG8.out
      have HGB := Lib.hid HTR.out.got
      clear HSM HL8 HG8 HR8 HTR
      go_wp2_with fail
      go_loopw [13] (fun v wr => ∃ i k : Nat, i ≤ qe.length ∧ v = .int .i64 i ∧ wr = w8.drewN k) (fun v _ => qe.length - (intOf v).toNat)
      case atStart => exact ⟨0, kq, Nat.zero_le _, rfl, rfl⟩
      case round =>
        obtain ⟨i, k, hi, rfl, rfl⟩ := hrel
        by_cases hlt : i < qe.length
        · obtain ⟨ga, e, ea, he, x0, x1, x2⟩ := HGA.out.ent hlt
          obtain ⟨gb, e', eb, he', y0, y1, y2⟩ := HGB.out.ent hlt
          obtain rfl : e' = e := by rw [he] at he'; injection he' with h; exact h.symm
          subst ea eb
          have hii : (0 : Int) ≤ i := by omega
          have hij : (i : Int) < qe.length := by omega
          clear he he'
          go_upto_region 17 with fail
          go_quiet (fail)
          go_wp2
          go_roundw
          case rel => exact ⟨i + 1, _, by omega, by go_num, rfl⟩
          case measure => simp [intOf]; omega
        · obtain rfl : i = qe.length := by omega
          go_wp2
          go_ret
          exact ⟨rfl, HE.out k⟩
end Go.Proofs.Ytldccemgfjmcdaa
