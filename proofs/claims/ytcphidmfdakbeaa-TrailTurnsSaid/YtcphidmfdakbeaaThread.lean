/- Programs of accesses, by their places: what is left of a program, and the sum. No program is named here but through the texts below. -/
import Derived.Test.YtcphidmfdakbeaaOps
import Derived.Test.YtcphidmfdakbeaaBare
namespace Go.Proofs.Ytcphidmfdakbeaa
open Go.RowKit
set_option linter.unusedSimpArgs false
set_option linter.unusedVariables false

theorem wrap_wrap (x : Int) : wrap64 (wrap64 x) = wrap64 x := by unfold wrap64; omega
/-- What an op's access does, and what it adds to the sum. -/
def OpV.acc (o : OpV) (sum : Int) : MemS → Int × Bool × MemS :=
  if o.k = 0 then dLoad o.i
  else if o.k = 1 then dStore o.i (o.val sum)
  else if o.k = 2 then dAdd o.i (o.val sum)
  else if o.k = 3 then dSwap o.i o.old (o.val sum)
  else dWait o.i o.old
def OpV.got (o : OpV) (v : Int) : Int :=
  if o.k = 0 then v
  else if o.k = 1 then 0
  else if o.k = 2 then v
  else if o.k = 3 then (bif v == 1 then 1 else 0)
  else o.old
def OpV.isMark (o : OpV) : Bool := o.k == 5
def skip : List OpV → List OpV
  | [] => []
  | o :: l => bif o.isMark then skip l else o :: l
def kindsOf : List OpV → List Int
  | [] => []
  | o :: l => bif o.isMark then o.i :: kindsOf l else []

theorem prog_acc (o : OpV) (l : List OpV) (sum : Int) (hok : o.Ok) (h : o.isMark = false) : progR (o :: l) sum = .acc (o.acc sum) fun v => progR l (wrap64 (sum + o.got v)) := by
  have hk := o.k_cases hok
  have h5 : o.k ≠ 5 := by intro e; simp [OpV.isMark, e] at h
  rcases hk with hk | hk | hk | hk | hk | hk
  · simp [progR, opR, OpV.acc, OpV.got, hk, loadR, Res.bind]
  · simp [progR, opR, OpV.acc, OpV.got, hk, storeR, Res.bind]
  · simp [progR, opR, OpV.acc, OpV.got, hk, addR, Res.bind]
  · simp [progR, opR, OpV.acc, OpV.got, hk, swapR, Res.bind]
  · simp [progR, opR, OpV.acc, OpV.got, hk, waitR, Res.bind]
  · exact absurd hk h5
theorem prog_mark (o : OpV) (l : List OpV) (sum : Int) (hok : o.Ok) (h : o.isMark = true) : progR (o :: l) sum = .mark o.i (progR l (wrap64 sum)) := by
  have hk : o.k = 5 := by simpa [OpV.isMark] using h
  simp [progR, opR, hk, markR, Res.bind]
theorem prog_next : ∀ (l : List OpV) (sum : Int), (∀ o ∈ l, o.Ok) → wrap64 sum = sum → (progR l sum).next = progR (skip l) sum ∧ (progR l sum).kinds = kindsOf l
  | [], sum, _, _ => ⟨rfl, rfl⟩
  | o :: l, sum, hok, hs => by
    cases hm : o.isMark with
    | true =>
      rw [prog_mark o l sum (hok o (by simp)) hm, hs]
      have ih := prog_next l sum (fun o ho => hok o (by simp [ho])) hs
      simp only [skip, kindsOf, hm, cond_true, Res.next, Res.kinds]
      exact ⟨ih.1, by rw [ih.2]⟩
    | false =>
      rw [prog_acc o l sum (hok o (by simp)) hm]
      simp only [skip, kindsOf, hm, cond_false, Res.next, Res.kinds]
      exact ⟨(prog_acc o l sum (hok o (by simp)) hm).symm, trivial⟩
theorem skip_ok {l : List OpV} (h : ∀ o ∈ l, o.Ok) : ∀ o ∈ skip l, o.Ok := by
  induction l with
  | nil => exact h
  | cons x l ih =>
    intro o ho
    simp only [skip] at ho
    cases hm : x.isMark with
    | true =>
      rw [hm] at ho
      exact ih (fun o ho => h o (by simp [ho])) o ho
    | false =>
      rw [hm] at ho
      exact h o ho
theorem skip_head {l : List OpV} {o : OpV} {l' : List OpV} (h : skip l = o :: l') : o.isMark = false := by
  induction l with
  | nil => simp [skip] at h
  | cons x l ih =>
    simp only [skip] at h
    cases hm : x.isMark with
    | true => rw [hm] at h; exact ih h
    | false =>
      rw [hm] at h
      simp at h
      rw [← h.1]
      exact hm
theorem skip_skip (l : List OpV) : skip (skip l) = skip l := by
  induction l with
  | nil => rfl
  | cons x l ih =>
    cases hm : x.isMark with
    | true => simp only [skip, hm, cond_true]; exact ih
    | false => simp only [skip, hm, cond_false]
theorem prog_ret (l : List OpV) (sum : Int) (h : ∀ o ∈ l, o.Ok) (hl : skip l = l) : (progR l sum).isRet = l.isEmpty := by
  cases l with
  | nil => rfl
  | cons o l =>
    rw [prog_acc o l sum (h o (by simp)) (skip_head hl)]
    rfl

/-- How many accesses are left. -/
def accesses (l : List OpV) : Nat := (l.filter fun o => !o.isMark).length
theorem accesses_skip (l : List OpV) : accesses (skip l) = accesses l := by
  induction l with
  | nil => rfl
  | cons o l ih =>
    cases hm : o.isMark with
    | true => simp only [skip, hm, cond_true]; rw [ih]; simp [accesses, hm]
    | false => simp only [skip, hm, cond_false]
theorem accesses_cons (o : OpV) (l : List OpV) (h : o.isMark = false) : accesses (o :: l) = accesses l + 1 := by simp [accesses, h]
theorem skip_nil_iff (l : List OpV) : skip l = [] ↔ accesses l = 0 := by
  rw [← accesses_skip l]
  constructor
  · intro h; rw [h]; rfl
  · intro h
    cases hs : skip l with
    | nil => rfl
    | cons o l' =>
      rw [hs, accesses_cons o l' (skip_head hs)] at h
      omega
end Go.Proofs.Ytcphidmfdakbeaa
