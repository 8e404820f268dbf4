/- Write, plainly. -/
import Derived.Test.YtldccemgfjmcdaaAwake19
namespace Go.Proofs.Ytldccemgfjmcdaa
open Go.RowKit
set_option linter.unusedSimpArgs false
set_option linter.unusedVariables false

theorem touch_first (α : ArS) (h : Int) : (α.touch h).first = α.first ∧ (α.touch h).slots = α.slots := by unfold ArS.touch; split <;> exact ⟨rfl, rfl⟩
theorem touch_cell (α : ArS) (h hd wd : Int) : (α.touch h).cell hd wd = α.cell hd wd := by
  obtain ⟨e1, e2⟩ := touch_first α h
  unfold ArS.cell ArS.has
  rw [e1, e2]
theorem touch_right (α : ArS) (h hd : Int) : (α.touch h).right hd = α.right hd := by
  obtain ⟨e1, e2⟩ := touch_first α h
  unfold ArS.right ArS.handle ArS.at_ ArS.has
  rw [e2]
theorem touch_touch (α : ArS) (h : Int) : (α.touch h).touch h = α.touch h := by
  by_cases hr : α.right h = true
  · have e : α.touch h = α := by unfold ArS.touch; rw [if_pos hr]
    rw [e, e]
  · have hr2 : ¬ (α.touch h).right h = true := by rw [touch_right]; exact hr
    unfold ArS.touch at hr2 ⊢
    rw [if_neg hr] at hr2 ⊢
    rw [if_neg hr2]
/-- The cells behind a writing of words from cell i on. -/
def wroteF (f : Nat → Int) (i : Nat) : List Int → Nat → Int
  | [] => f
  | w :: ws => wroteF (upd1 f i w) (i + 1) ws
theorem wroteF_out (ws : List Int) : ∀ (f : Nat → Int) (i k : Nat), k < i ∨ i + ws.length ≤ k → wroteF f i ws k = f k := by
  induction ws with
  | nil => intro f i k _; rfl
  | cons w ws ih =>
    intro f i k h
    simp only [List.length_cons] at h
    unfold wroteF
    rw [ih _ _ _ (by omega)]
    exact upd1_ne (by omega)
theorem wroteF_in (ws : List Int) : ∀ (f : Nat → Int) (i j : Nat), j < ws.length → wroteF f i ws (i + j) = ws.getD j 0 := by
  induction ws with
  | nil => intro f i j h; simp at h
  | cons w ws ih =>
    intro f i j h
    simp only [List.length_cons] at h
    unfold wroteF
    cases j with
    | zero => rw [wroteF_out _ _ _ _ (by omega), Nat.add_zero, upd1_eq]; rfl
    | succ j => rw [show i + (j + 1) = i + 1 + j by omega, ih _ _ _ (by omega)]; rfl
theorem Ev.write {N s : Nat} {h : Int} (h1 : 1 ≤ s) (h2 : s ≤ N) : ∀ (ws : List Int) (i : Nat) (f : Nat → Int) (α : ArS), i + ws.length ≤ 28 → (∀ wd : Nat, wd < 28 → α.cell h wd = (cl N s wd : Nat)) →
    Ev (24 + 30 * N) f α (writeR h i ws) () ws.length (wroteF f (cl N s i) ws) (if ws = [] then α else α.touch h)
  | [], i, f, α, _, _ => Ev.ret _
  | w :: ws, i, f, α, hi, hc => by
    simp only [List.length_cons] at hi
    have ih := Ev.write h1 h2 ws (i + 1) (upd1 f (cl N s i) w) (α.touch h) (by omega) (fun wd hw => by rw [touch_cell]; exact hc wd hw)
    have e := (Ev.cstTell (f := f) (hc i (by omega)) (cl_lt h1 h2 (by omega)).1 w (fun α => α.touch h)).bind (k := fun _ => writeR h (i + 1) ws) ih
    rw [if_neg (List.cons_ne_nil _ _)]
    rw [touch_touch, ite_self] at e
    exact e.eq rfl (by simp only [List.length_cons]; omega)
end Go.Proofs.Ytldccemgfjmcdaa
