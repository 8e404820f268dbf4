/- Law 16: the land that is looked into; awake. -/
import Derived.Test.YtldccemgfjmcdaaRef16
import Derived.Test.YtldccemgfjmcdaaArea4
namespace Go.Proofs.Ytldccemgfjmcdaa
open Go.RowKit
set_option linter.unusedSimpArgs false
set_option linter.unusedVariables false

def land16 (xs : List (List Int)) : LandS := ⟨slotMem (flat28 xs) (28 * xs.length), slotAr xs.length xs.length⟩
theorem hand_one {s : Int} (h0 : 0 ≤ s) (h1 : s < 65536) : hand 1 s = 65536 + s := by unfold hand wrap64; omega
theorem land_right {xs : List (List Int)} {i : Nat} (hi : i < xs.length) (hN : xs.length ≤ 100) : (land16 xs).ar.right (65536 + ((i : Int) + 1)) = true := by
  have hs : slotOf (65536 + ((i : Int) + 1)) = (i : Int) + 1 := by unfold slotOf; rw [if_neg (by omega)]; omega
  have hat : (slotAr xs.length xs.length).at_ ((i : Int) + 1) = (1, true) := by
    rw [ArS.at_succ]
    simp [slotAr, hi]
  unfold ArS.right ArS.handle
  rw [hs]
  simp only [land16]
  rw [hat]
  simp only [Bool.and_eq_true, Bool.and_true, beq_iff_eq]
  refine ⟨?_, hand_one (by omega) (by omega)⟩
  simp only [ArS.has, Bool.and_eq_true, decide_eq_true_eq, slotAr, List.length_append, List.length_replicate]
  omega
theorem land_slot {xs : List (List Int)} {i : Nat} {x : List Int} {hd : Int} (hx : xs[i]? = some x) (hN : xs.length ≤ 100) (hs : slotOf hd = (i : Int) + 1) : HasSlot (land16 xs) hd (pad28 x) := by
  have hi : i < xs.length := (List.getElem?_eq_some_iff.1 hx).1
  have hlen : (land16 xs).mu.cells.length = 3 + 28 * xs.length := by
    simp only [land16]
    rw [slotMem_len _ _ (by rw [flatI_len]; omega), flatI_len]
    omega
  refine ⟨pad28_len x, fun k hk => ?_⟩
  have hcell : (land16 xs).ar.cell hd (k : Int) = ((3 + (28 * i + k) : Nat) : Int) := by
    unfold ArS.cell
    rw [hs, if_pos]
    · simp only [land16, slotAr]
      omega
    · simp only [land16, ArS.has, Bool.and_eq_true, decide_eq_true_eq, slotAr, List.length_append, List.length_replicate]
      omega
  have hthere : (land16 xs).there hd (k : Int) = true := by
    unfold LandS.there MemS.has
    rw [hcell, hlen]
    simp only [Bool.and_eq_true, decide_eq_true_eq]
    omega
  refine ⟨hthere, ?_⟩
  unfold LandS.there at hthere
  unfold LandS.word MemS.load
  rw [if_pos hthere, hcell]
  simp only [MemS.get, Int.toNat_natCast, land16, slotMem]
  rw [List.getD_eq_getElem?_getD, List.getElem?_append_right (by simp), show 3 + (28 * i + k) - [(0 : Int), 0, 0].length = 28 * i + k by simp,
    List.getElem?_append_left (by simp [flatI_len]; omega), List.getElem?_take, if_pos (by omega), flatI_get xs i k x hx hk, List.getD_eq_getElem?_getD]
/-- What comes of a task that reads, alone. -/
def TellsPost {β : Type} (R : World → β → Array Value → Prop) (w : World) (m c a b : Nat) (σ : LandS) (v : β) (n k : Nat) (st : Bool) (e : Ending) (w' : World) : Prop :=
  ∃ cs σ2, e = .returned (.tuple #[.agg cs, .int .i64 n, .bool true]) ∧ R w' v cs ∧ LandAt w' m c a b σ2 ∧ Same σ σ2 ∧ σ2.mu.count = σ.mu.count + k ∧ σ2.ar.stale = (σ.ar.stale || st) ∧ Upd [m, c, a, b] w w'
theorem all_tells (hd addr kind : Int) (r : Res LandS ResV) (hf : r.free) (hr : RunsL 64 (fun a pb => lookArg a pb hd addr kind) r 59 14 RR) (m c a b : Nat) (σ : LandS) (g : Option Addr) (w : World) (h : LandAt w m c a b σ)
    {v : ResV} {n k : Nat} {st : Bool} (ht : Tells σ r v n k st) (hn : n < 60) (h0 : 0 ≤ σ.mu.count) (hk : σ.mu.count + k ≤ 4611686018427387904) :
    Calls Try.prog 28 #[.pointer (some ⟨m, 0, none⟩), .agg #[.pointer (some ⟨a, 0, none⟩), .int .i64 hd, .int .i64 addr, .int .i64 kind, .pointer g]] w (TellsPost RR w m c a b σ v n k st) := by
  obtain ⟨σ2, he, hs, hc, hst, -⟩ := ht σ (Same.refl σ) h0 hk
  refine (all16 hd addr kind r hf hr m c a b σ g w h (by rw [he]; exact hn)).mono ?_
  rintro e w' ⟨cs, rfl, hR, hl, hu⟩
  rw [he] at hR hl ⊢
  exact ⟨cs, σ2, rfl, hR, hl, hs, hc, hst, hu⟩
theorem Tells.map {β γ : Type} {σ : LandS} {r : Res LandS β} {v : β} {n c : Nat} {st : Bool} (h : Tells σ r v n c st) (f : β → γ) : Tells σ (r.bind fun q => .ret (f q)) (f v) n c st :=
  (h.bind (f := fun q => Res.ret (f q)) (Tells.ret σ (f v))).eq rfl (by omega) (by omega) (by simp)
theorem tells_look0 {σ : LandS} {hd addr : Int} {x : List Int} (h : HasSlot σ hd x) : ∃ st, (st = false ∨ st = !σ.ar.right hd) ∧ Tells σ (look0R hd addr) ⟨(lookP x addr).1, (lookP x addr).2.1, (lookP x addr).2.2.1, zeroArea, none⟩ (lookP x addr).2.2.2 (lookP x addr).2.2.2 st := by
  obtain ⟨st, hst, ht⟩ := Tells.look h addr
  exact ⟨st, hst, ht.map (fun q : Int × Bool × Bool => (⟨q.1, q.2.1, q.2.2, zeroArea, none⟩ : ResV))⟩
theorem tells_look1 {σ : LandS} {hd : Int} {x : List Int} (h : HasSlot σ hd x) : ∃ st, (st = false ∨ st = !σ.ar.right hd) ∧ Tells σ (look1R hd) ⟨0, (areaAns (x.take 8)).2.1, (areaAns (x.take 8)).2.2, (areaAns (x.take 8)).1, none⟩ 8 8 st := by
  obtain ⟨st, hst, ht⟩ := Tells.area h
  exact ⟨st, hst, ht.map (fun q : AreaV × Bool × Bool => (⟨0, q.2.1, q.2.2, q.1, none⟩ : ResV))⟩
theorem tells_look2 {σ : LandS} {hd : Int} {x : List Int} (h : HasSlot σ hd x) : ∃ st, (st = false ∨ st = !σ.ar.right hd) ∧ Tells σ (look2R hd) ⟨0, false, (nodeP x).1.isSome, zeroArea, (nodeP x).1⟩ (nodeP x).2 (nodeP x).2 st := by
  obtain ⟨st, hst, ht⟩ := Tells.node h
  exact ⟨st, hst, ht.map (fun q : Option NodeV => (⟨0, false, q.isSome, zeroArea, q⟩ : ResV))⟩
theorem runs0 (hd addr : Int) (hh : hd < 9223372036854775808) : RunsL 64 (fun a pb => lookArg a pb hd addr 0) (look0R hd addr) 59 14 RR :=
  fun pb cs0 hc p σ s F n w h hi hn hov hp hpf => look_run0 hd addr pb cs0 hc p σ s F n w h hi hn hov hh hp hpf
theorem runs1 (hd addr : Int) (hh : hd < 9223372036854775808) : RunsL 64 (fun a pb => lookArg a pb hd addr 1) (look1R hd) 59 14 RR :=
  fun pb cs0 hc p σ s F n w h hi hn hov hp hpf => look_run1 hd addr pb cs0 hc p σ s F n w h hi hn hov hh hp hpf
theorem runs2 (hd addr : Int) (hh : hd < 9223372036854775808) : RunsL 64 (fun a pb => lookArg a pb hd addr 2) (look2R hd) 59 14 RR :=
  fun pb cs0 hc p σ s F n w h hi hn hov hp hpf => look_run2 hd addr pb cs0 hc p σ s F n w h hi hn hov hh hp hpf
theorem runs3 (hd addr : Int) (hh : hd < 9223372036854775808) : RunsL 64 (fun a pb => lookArg a pb hd addr 3) (look3R hd addr) 59 14 RR :=
  fun pb cs0 hc p σ s F n w h hi hn hov hp hpf => look_run3 hd addr pb cs0 hc p σ s F n w h hi hn hov hh hp hpf
theorem free0 (hd addr : Int) : (look0R hd addr).free := Res.bind_free (look_free _ _) fun _ => trivial
theorem free1 (hd : Int) : (look1R hd).free := Res.bind_free (area_free _) fun _ => trivial
theorem free2 (hd : Int) : (look2R hd).free := Res.bind_free (node_free _) fun _ => trivial
theorem free3 (hd word : Int) : (look3R hd word).free := Res.bind_free (readR_free _ _) fun _ => trivial
theorem rowsL_one {w : World} {b : Nat} {ty : TypeId} {a : Option Addr} {n c : Nat} {zs : List Int} (h : Blk w b ty #[.slice a n c]) (hz : Ints w a n c zs) : RowsL w (some ⟨b, 0, none⟩) 1 1 [⟨a, n, c, zs⟩] := by
  refine ⟨⟨rfl, Nat.le_refl _, by unfold maxLen; omega, by simp, .inr ⟨b, 0, rfl, h.lt, fun i x hx j u hu => ?_⟩⟩, by simpa using hz⟩
  match i, hx with
  | 0, hx =>
    simp at hx
    subst hx
    match j, hu with
    | 0, hu =>
      simp [RowV.cells] at hu
      subst hu
      exact h.at_ rfl
    | j + 1, hu => simp [RowV.cells] at hu
  | i + 1, hx => simp at hx
theorem slots16' (a : Option Addr) (len cap : Nat) (rows : List (RowV Int)) (w : World) (h : RowsL w a len cap rows) (h28 : ∀ r ∈ rows, r.len = 28) (hlen : len ≤ 100) :
    Calls Try.prog 18 #[.slice a len cap] w fun e w' => e = .returned (.tuple #[.pointer (some ⟨w.heap.size + 1, 0, none⟩), .pointer (some ⟨w.heap.size + 3, 0, none⟩)]) ∧ Below w.heap.size w w' ∧
      LandAt w' (w.heap.size + 1) w.heap.size (w.heap.size + 3) (w.heap.size + 2) (land16 (rows.map (·.zs))) := slots16 a len cap rows w h h28 hlen

def wakeArea : AreaV := ⟨65536, 69632, 1, false, 0, 0⟩
theorem wakeArea_ans : areaAns ((pad28 (wakeArea.pack false)).take 8) = (wakeArea, false, true) := by decide
set_option maxRecDepth 100000 in
set_option maxHeartbeats 2000000 in
theorem awake16 (w : World) : Calls Try.prog 26 #[] w fun e w' => e = .returned (.bool true) ∧ Below w.heap.size w w' := by
  have HP := Lib.hid (ref15_packArea wakeArea false w ⟨rfl, rfl, rfl, rfl, rfl⟩)
  have HB := Lib.hid (Below.refl w.heap.size w)
  simp only [areaCells, wakeArea] at HP
  go_enter Try.func26, Try.ntmps26
  go_wp2_with fail
  refine (HP.out).mono ?_
  rintro e w1 ⟨g, rfl, hg, hrow, hb⟩
  replace HB := Lib.hid (below_thru HB.out hb)
  clear hb
  have HR := Lib.hid hrow
  clear hrow
  replace HB := Lib.hid (below_thru HB.out (below_alloc0 w1 (.cells #[.slice (some ⟨g, 0, none⟩) 28 28] 31)))
  replace HR := Lib.hid (HR.out.thru (below_alloc0 w1 (.cells #[.slice (some ⟨g, 0, none⟩) 28 28] 31)))
  have HS := Lib.hid (Blk.new w1 31 #[.slice (some ⟨g, 0, none⟩) 28 28])
  go_wp2_with fail
  have HZ := Lib.hid (World.size_alloc w1 (.cells #[.slice (some ⟨g, 0, none⟩) 28 28] 31))
  obtain ⟨sb, hsb⟩ : ∃ x, w1.heap.size = x := ⟨_, rfl⟩
  simp only [hsb] at HS HZ ⊢
  replace hsb := Lib.hid hsb
  generalize w1.alloc (.cells #[.slice (some ⟨g, 0, none⟩) 28 28] 31) = w2 at *
  have HSL := Lib.hid (slots16' (some ⟨sb, 0, none⟩) 1 1 [⟨some ⟨g, 0, none⟩, 28, 28, wakeArea.pack false⟩] w2 (rowsL_one HS.out (ArgInts.ofRow HR.out (AreaV.pack_i64 (by decide) false))) (by simp) (by omega))
  clear HZ
  have HZ2 := Lib.hid HB.out.size
  refine (HSL.out).mono ?_
  rintro e w3 ⟨rfl, hb, hland⟩
  replace HB := Lib.hid (below_thru HB.out hb)
  replace HR := Lib.hid (HR.out.thru hb)
  replace HS := Lib.hid (HS.out.thru hb)
  clear hb
  have HLA := Lib.hid hland
  clear hland
  obtain ⟨st, -, ht⟩ := tells_look1 (hd := 65537) (land_slot (xs := [wakeArea.pack false]) (i := 0) (x := wakeArea.pack false) rfl (by decide) (by decide))
  have HT := Lib.hid (all_tells 65537 0 1 (look1R 65537) (free1 _) (runs1 65537 0 (by decide)) _ _ _ _ (land16 [wakeArea.pack false]) none w3 HLA.out ht (by decide) (by decide) (by decide))
  rw [wakeArea_ans] at HT
  clear ht
  go_wp2_with fail
  refine HT.out.mono ?_
  rintro e w4 ⟨cs, σ2, rfl, ⟨d0, d1, d2, d3, d4, rfl, hnd⟩, -, -, -, -, hu⟩
  have HB4 := Lib.hid (below_upd HB.out hu (Nat.le_refl _) (by
    have := HZ2.out
    intro x hx
    simp only [List.mem_cons, List.not_mem_nil, or_false] at hx
    omega))
  clear hu HB HT HLA HR HS HSL
  rcases hnd with ⟨-, rfl, rfl, rfl, rfl, rfl⟩ | ⟨m, _, _, _, _, _, _, hm, -⟩
  · simp only [wakeArea]
    go_wp2
    go_ret
    exact ⟨rfl, HB4.out.alloc (HB4.out.size) _⟩
  · cases hm
end Go.Proofs.Ytldccemgfjmcdaa
