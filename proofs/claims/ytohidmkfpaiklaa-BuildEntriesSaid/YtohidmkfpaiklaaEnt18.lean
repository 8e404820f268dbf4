/- Layer 18: handles above 0; law 10's Some; law 18's Handles. -/
import Derived.Test.YtohidmkfpaiklaaMade7
import Derived.Test.YtohidmkfpaiklaaMadeP7
namespace Go.Proofs.Ytohidmkfpaiklaa
open Go.RowKit
set_option linter.unusedSimpArgs false
set_option linter.unusedVariables false

def aboveB (l : List Int) : Bool := l.all fun h => decide (0 < h)
theorem aboveB_all {l : List Int} {n : Nat} (hn : l.length = n) (h : ∀ k, k < n → 0 < l.getD k 0) : aboveB l = true := by
  unfold aboveB
  rw [List.all_eq_true]
  intro x hx
  obtain ⟨i, hi, rfl⟩ := List.getElem_of_mem hx
  have := h i (by omega)
  rw [List.getD_eq_getElem?_getD, List.getElem?_eq_getElem hi] at this
  simpa using this
theorem aboveB_bad {l : List Int} {i : Nat} (hi : i < l.length) (h : l.getD i 0 ≤ 0) : aboveB l = false := by
  unfold aboveB
  rw [List.all_eq_false]
  refine ⟨l[i], List.getElem_mem _, ?_⟩
  rw [List.getD_eq_getElem?_getD, List.getElem?_eq_getElem hi] at h
  simp at h ⊢
  omega
theorem above_one (x : Int) (w : World) : Calls Try.prog 69 #[.int .i64 x] w fun e w' => e = .returned (.bool (decide (x ≤ 0))) ∧ w = w' := by
  go_enter Try.func69, Try.ntmps69
  go_wp2
  go_ret
  exact ⟨rfl, rfl⟩
set_option maxRecDepth 100000 in
theorem ref18_above (a : Option Addr) (len cap : Nat) (zs : List Int) (w : World) (hz : ArgInts .i64 w a len cap zs) :
    Calls Try.prog 41 #[.slice a len cap] w fun e w' => e = .returned (.bool (aboveB zs)) ∧ w = w' := by
  have hzl := hz.hl
  have hle := hz.le
  have hzm := hz.hm
  unfold maxLen at hzm
  have HZ := Lib.hid hz
  clear hz
  go_enter Try.func41, Try.ntmps41
  go_wp2_with fail
  go_loopw [3] (fun v wr => ∃ i : Nat, i ≤ len ∧ v = .int .i64 i ∧ (∀ k, k < i → 0 < zs.getD k 0) ∧ w = wr) (fun v _ => len - (intOf v).toNat)
  case atStart => exact ⟨0, by omega, rfl, by omega, rfl⟩
  case round =>
    obtain ⟨i, hi, rfl, hall, rfl⟩ := hrel
    by_cases hlt : i < len
    · have hlti : (i : Int) < len := by omega
      obtain ⟨b, off, rfl, hlb, hc⟩ := HZ.out.at_ hlt
      obtain ⟨x, hx⟩ : ∃ x, zs.getD i 0 = x := ⟨_, rfl⟩
      rw [hx] at hc
      have HA := Lib.hid hall
      clear hall
      by_cases hp : 0 < x
      · have hp1 : ¬ x < 1 := by omega
        have HN := Lib.hid (fun k (hk : k < i + 1) => if e : k = i then (show 0 < zs.getD k 0 by rw [e, hx]; exact hp) else HA.out k (by omega))
        clear hx
        go_wp2
        go_roundw
        case rel => exact ⟨i + 1, by omega, by go_num, HN.out, by trivial⟩
        case measure => simp [intOf]; omega
      · have hp1 : x < 1 := by omega
        have HN := Lib.hid (aboveB_bad (l := zs) (i := i) (by omega) (by rw [hx]; omega))
        clear hx
        go_wp2
        go_ret
        exact ⟨ret_goes (by rw [HN.out]), by trivial⟩
    · obtain rfl : i = len := by omega
      have HE := Lib.hid (aboveB_all hzl hall)
      go_wp2
      go_ret
      exact ⟨ret_goes (by rw [HE.out]), by trivial⟩
set_option maxRecDepth 100000 in
theorem idx_above (a : Option Addr) (len cap : Nat) (zs : List Int) (w : World) (hz : ArgInts .i64 w a len cap zs) :
    Calls Try.prog 86 #[.slice a len cap, .func (.func 69) #[] #[]] w fun e w' => ∃ v, e = .returned (.int .i64 v) ∧ decide (0 ≤ v) = !aboveB zs ∧ w = w' := by
  have hzl := hz.hl
  have hle := hz.le
  have hzm := hz.hm
  unfold maxLen at hzm
  have HZ := Lib.hid hz
  clear hz
  go_enter Try.func86, Try.ntmps86
  go_wp2_with fail
  go_loopw [8] (fun v wr => ∃ i : Nat, i ≤ len ∧ v = .int .i64 i ∧ (∀ k, k < i → 0 < zs.getD k 0) ∧ w = wr) (fun v _ => len - (intOf v).toNat)
  case atStart => exact ⟨0, by omega, rfl, by omega, rfl⟩
  case round =>
    obtain ⟨i, hi, rfl, hall, rfl⟩ := hrel
    by_cases hlt : i < len
    · have hlti : (i : Int) < len := by omega
      obtain ⟨b, off, rfl, hlb, hc⟩ := HZ.out.at_ hlt
      obtain ⟨x, hx⟩ : ∃ x, zs.getD i 0 = x := ⟨_, rfl⟩
      rw [hx] at hc
      have HA := Lib.hid hall
      clear hall
      go_wp2_with fail
      refine (above_one x w).mono ?_
      rintro e w1 ⟨rfl, rfl⟩
      by_cases hp : 0 < x
      · have hp1 : decide (x ≤ 0) = false := by simp; omega
        have HN := Lib.hid (fun k (hk : k < i + 1) => if e : k = i then (show 0 < zs.getD k 0 by rw [e, hx]; exact hp) else HA.out k (by omega))
        clear hx
        rw [hp1]
        go_wp2
        go_roundw
        case rel => exact ⟨i + 1, by omega, by go_num, HN.out, by trivial⟩
        case measure => simp [intOf]; omega
      · have hp1 : decide (x ≤ 0) = true := by simp; omega
        have HN := Lib.hid (aboveB_bad (l := zs) (i := i) (by omega) (by rw [hx]; omega))
        clear hx
        rw [hp1]
        go_wp2
        go_ret
        exact ⟨_, rfl, by rw [HN.out]; simp, by trivial⟩
    · obtain rfl : i = len := by omega
      have HE := Lib.hid (aboveB_all hzl hall)
      go_wp2
      go_ret
      exact ⟨_, rfl, by rw [HE.out]; rfl, by trivial⟩
theorem build_above (a : Option Addr) (len cap : Nat) (zs : List Int) (w : World) (hz : ArgInts .i64 w a len cap zs) :
    Calls Try.prog 39 #[.slice a len cap] w fun e w' => e = .returned (.bool (aboveB zs)) ∧ w = w' := by
  have HI := Lib.hid (idx_above a len cap zs w hz)
  have HC : Calls Try.prog 68 #[.slice a len cap, .func (.func 69) #[] #[]] w fun e w' => e = .returned (.bool (!aboveB zs)) ∧ w = w' := by
    go_enter Try.func68, Try.ntmps68
    go_wp2_with fail
    refine HI.out.mono ?_
    rintro e w1 ⟨v, rfl, hv, rfl⟩
    have HV := Lib.hid hv
    clear hv
    go_wp2
    go_ret
    exact ⟨ret_goes HV.out, rfl⟩
  have HCC := Lib.hid HC
  clear HC
  go_enter Try.func39, Try.ntmps39
  go_wp2_with fail
  refine HCC.out.mono ?_
  rintro e w1 ⟨rfl, rfl⟩
  go_wp2
  go_ret
  exact ⟨ret_goes (by simp), rfl⟩
theorem ArgOf.ofOwn {E : Type} {f : E → List Value} {z : Nat} (hz : ∀ x, (f x).length = z) {ok : E → Prop} {w : World} {B : Nat} {ty : TypeId} {A : Option Addr} {c n : Nat} {l : List E}
    (h : w.ownsRow B ty z (.slice A n c) n (l.flatMap f)) (hn : l.length = n) (hok : ∀ x ∈ l, ok x) : ArgOf f z ok w A n c l := by
  obtain ⟨h1, h2⟩ := own_cap h
  refine ⟨hn, h1, h2, hok, ?_⟩
  by_cases h0 : l = []
  · exact .inl h0
  · cases A with
    | none =>
      have := (own_none h).1
      exact absurd (List.eq_nil_of_length_eq_zero (hn.trans this)) h0
    | some a =>
      obtain ⟨g, rfl⟩ := own_someG h
      refine .inr ⟨g, 0, rfl, ownsRow_blockLt h g (by simp [blockOf]), fun i x hx j u hu => ?_⟩
      have hj : j < z := by rw [← hz x]; exact (List.getElem?_eq_some_iff.1 hu).1
      obtain ⟨g', e, hc, -⟩ := own_at h (j := i * z + j) (u := u) (by rw [flat_get hz l i x j hx hj]; exact hu)
      injection e with e
      injection e with e
      subst e
      rw [Nat.zero_add]
      exact hc
theorem ArgOf.take {E : Type} {f : E → List Value} {z : Nat} {ok : E → Prop} {w : World} {A : Option Addr} {len cap m : Nat} {l : List E} (h : ArgOf f z ok w A len cap l) (hm : m ≤ len) : ArgOf f z ok w A m cap (l.take m) := by
  refine ⟨by rw [List.length_take, h.hl]; omega, Nat.le_trans hm h.le, h.hm, fun x hx => h.good x (List.mem_of_mem_take hx), ?_⟩
  rcases h.reads with h0 | ⟨b, off, ha, hlt, hc⟩
  · left; rw [h0]; simp
  · right
    refine ⟨b, off, ha, hlt, fun i x hx => hc i x ?_⟩
    rw [List.getElem?_take] at hx
    split at hx
    · exact hx
    · cases hx
theorem madeS_fine (l : List AreaV) : SpcFine (madeS l) := by
  have : ∀ (l : List AreaV) (s : Spc), SpcFine s → SpcFine (l.foldl madeStep s) := by
    intro l
    induction l with
    | nil => intro s h; exact h
    | cons a l ih =>
      intro s h
      refine ih _ ?_
      unfold madeStep
      split
      · rename_i hf
        intro p x hx
        unfold ofA ofTo at hx
        split at hx
        · rename_i hr
          injection hx with hx
          subst hx
          exact at_fine hf hr.1 hr.2
        · exact h p x hx
      · exact h
  exact this _ _ (fun p x h => by simp [Spc.none] at h)
/-- Law 10's Some. -/
def someL (l : List AreaV) : List AreaV := (listR (madeS l)).take 24
theorem someL_right (l : List AreaV) : rightB (someL l) = true := right_take (listR_right (madeS_fine l)) 24
theorem someL_len (l : List AreaV) : (someL l).length ≤ 24 := by unfold someL; rw [List.length_take]; omega
theorem law10_some (la : Option Addr) (len cap : Nat) (zs : List AreaV) (w : World) (hz : ArgOf AreaV.cells 6 AreaV.Ok w la len cap zs) :
    Calls Try.prog 9 #[.slice la len cap] w fun e w' => ∃ A c, e = .returned (.slice A (someL zs).length c) ∧ ArgOf AreaV.cells 6 AreaV.Ok w' A (someL zs).length c (someL zs) ∧ (∀ b ∈ blockOf A, w.heap.size ≤ b) ∧ Below w.heap.size w w' := by
  have HM := Lib.hid (law07_made la len cap zs w hz)
  have HR := Lib.hid (listR_right (madeS_fine zs))
  have HLN := Lib.hid (show (someL zs).length = min 24 (listR (madeS zs)).length by unfold someL; rw [List.length_take])
  have HTK := Lib.hid (show someL zs = (listR (madeS zs)).take 24 from rfl)
  clear hz
  obtain ⟨R, hR⟩ : ∃ R, listR (madeS zs) = R := ⟨_, rfl⟩
  simp only [hR] at HM HR HLN HTK
  obtain ⟨S, hS⟩ : ∃ S, someL zs = S := ⟨_, rfl⟩
  simp only [hS] at HLN HTK ⊢
  clear hR hS
  go_enter Try.func9, Try.ntmps9
  go_wp2_with fail
  refine HM.out.mono ?_
  rintro e w1 ⟨A, c, rfl, ho, hb⟩
  have HO := Lib.hid ho
  have HB := Lib.hid hb
  obtain ⟨hc1, hc2⟩ := own_cap ho
  unfold maxLen at hc2
  have hlo := own_lo ho
  have HA := Lib.hid (ArgOf.ofOwn AreaV.cells_len (ok := AreaV.Ok) ho rfl (fun x hx => formed_ok (right_formed HR.out x hx)))
  have HLO := Lib.hid hlo
  clear ho hb hlo
  have hmn : (min (R.length : Int) 24).toNat = S.length := by rw [HLN.out]; omega
  have HA2 := Lib.hid (show ArgOf AreaV.cells 6 AreaV.Ok w1 A S.length c S by
    have := HA.out.take (m := S.length) (by rw [HLN.out]; omega)
    rwa [show R.take S.length = S by rw [HLN.out, HTK.out]; rcases Nat.lt_or_ge 24 R.length with h | h; (· rw [Nat.min_eq_left (by omega)]); (· rw [Nat.min_eq_right h, List.take_of_length_le h, List.take_of_length_le (Nat.le_refl _)])] at this)
  have HMN := Lib.hid hmn
  clear hmn
  have hmm : (min (R.length : Int) 24) ≤ c := by omega
  go_wp2
  go_ret
  exact ⟨A, c, by rw [← HMN.out]; rfl, HA2.out, HLO.out, HB.out⟩
/-! ### Handles -/
def handlesL (from_ : Int) (n : Nat) : List Int := (List.range n).map fun i => 65536 + (from_ + (i : Nat))
theorem handlesL_snoc (f : Int) (n : Nat) : handlesL f (n + 1) = handlesL f n ++ [65536 + (f + n)] := by
  unfold handlesL
  rw [List.range_succ, List.map_append]
  rfl
theorem handlesL_len (f : Int) (n : Nat) : (handlesL f n).length = n := by simp [handlesL]
theorem handlesL_at (f : Int) {n k : Nat} (h : k < n) : (handlesL f n).getD k 0 = 65536 + (f + k) := by
  rw [List.getD_eq_getElem?_getD]
  simp [handlesL, List.getElem?_map, List.getElem?_range h]
theorem i64s_snoc0 (xs : List Int) (v : Int) : i64s xs ++ [.int .i64 v] = i64s (xs ++ [v]) := by simp [i64s]
theorem ArgInts.ofOwn {w : World} {B : Nat} {ty : TypeId} {A : Option Addr} {c n : Nat} {l : List Int} (h : w.ownsRow B ty 1 (.slice A n c) n (i64s l)) (hn : l.length = n) (hok : ∀ x ∈ l, (Lit.int .i64 x).wf = true) : ArgInts .i64 w A n c l := by
  obtain ⟨h1, h2⟩ := own_cap h
  refine ⟨hn, h1, h2, hok, ?_⟩
  by_cases h0 : l = []
  · left; rw [h0]; rfl
  · cases A with
    | none =>
      have := (own_none h).1
      exact absurd (List.eq_nil_of_length_eq_zero (hn.trans this)) h0
    | some a =>
      obtain ⟨g, rfl⟩ := own_someG h
      refine .inr ⟨g, 0, rfl, ownsRow_blockLt h g (by simp [blockOf]), fun j u hu => ?_⟩
      obtain ⟨g', e, hc, -⟩ := own_at h (j := j) (u := u) hu
      injection e with e
      injection e with e
      subst e
      rw [Nat.zero_add]
      exact hc
set_option maxRecDepth 100000 in
theorem law18_handles (f : Int) (n : Nat) (w : World) (hf : 0 ≤ f) (hf2 : f ≤ 1000) (hn : n ≤ 1000) :
    Calls Try.prog 10 #[.int .i64 f, .int .i64 n] w fun e w' => ∃ A c, e = .returned (.slice A n c) ∧ w'.ownsRow w.heap.size 2 1 (.slice A n c) n (i64s (handlesL f n)) ∧ Below w.heap.size w w' := by
  have HB := Lib.hid (Below.refl w.heap.size w)
  go_enter Try.func10, Try.ntmps10
  go_wp2_with fail
  go_loopw [5, 6] (fun v vi wr => ∃ (i : Nat) (A : Option Addr) (c : Nat), i ≤ n ∧ vi = .int .i64 i ∧ v = .slice A i c ∧ wr.ownsRow w.heap.size 2 1 (.slice A i c) i (i64s (handlesL f i)) ∧ Below w.heap.size w wr) (fun _ vi _ => n - (intOf vi).toNat)
  case atStart => exact ⟨0, none, 0, by omega, rfl, rfl, World.ownsRow_nil _ _ _ _, HB.out⟩
  case round =>
    clear HB
    obtain ⟨i, A, c, hi, rfl, rfl, hown, hlow⟩ := hrel
    have HO := Lib.hid hown
    have HLOW := Lib.hid hlow
    clear hown hlow
    by_cases hlt : i < n
    · have hlti : (i : Int) < n := by omega
      have ew1 : IntKind.i64.wrap (f + (i : Int)) = f + i := IntWalk.i64_in _ (by omega)
      have ew2 : IntKind.i64.wrap (65536 + (f + (i : Int))) = 65536 + (f + i) := IntWalk.i64_in _ (by omega)
      obtain ⟨i0, hi0, hz0, hz1, hz2⟩ := info_parts info_i64
      have hmx : i + 1 ≤ maxLen := by unfold maxLen; omega
      have hsz := HLOW.out.size
      go_wp2_with (at_builtin; refine wpList_append_loc (P := Try.prog) wr rfl (.tmp 12) (.tmp 17) 23 rfl w.heap.size 2 i0 _ 1 8 Try.underlying23 hi0 hz0 hz1 hz2 rfl (by decide) A i c (i64s (handlesL f i)) rfl HO.out #[.int .i64 (65536 + (f + (i : Int)))] rfl rfl (by simp [Value.oneCell']) hmx (by omega) hsz ?_)
      intro g c' w4 hown' hu
      have HO4 := Lib.hid (show w4.ownsRow w.heap.size 2 1 (.slice (some ⟨g, 0, none⟩) (i + 1) c') (i + 1) (i64s (handlesL f (i + 1))) by rw [handlesL_snoc, ← i64s_snoc0]; exact hown')
      have HB4 := Lib.hid (below_upd HLOW.out hu (Nat.le_refl _) (own_lo HO.out))
      clear hown' hu HO HLOW
      go_wp2
      go_roundw
      case rel => exact ⟨i + 1, some ⟨g, 0, none⟩, c', by omega, by go_num, rfl, HO4.out, HB4.out⟩
      case measure => simp [intOf]; omega
    · obtain rfl : i = n := by omega
      go_wp2
      go_ret
      exact ⟨A, c, rfl, HO.out, HLOW.out⟩
end Go.Proofs.Ytohidmkfpaiklaa
