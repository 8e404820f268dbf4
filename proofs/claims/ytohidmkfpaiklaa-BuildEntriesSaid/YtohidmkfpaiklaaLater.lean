/- Regions that draw their order and hold calls that make memory: the world's old blocks stay whatever is done, so one walk in the order of the text serves every order. No program is named here. -/
import Derived.Test.YtohidmkfpaiklaaMem
import Derived.Deep.QuietTactic
import Derived.BigQuiet
namespace Go.Proofs.Ytohidmkfpaiklaa
open Go.RowKit

/-- A world later than w in which w's blocks are as they were. -/
def Later (w : World) := {x : World // Upd [] w x}
instance (w : World) : Nonempty (Later w) := ⟨⟨w, Upd.refl _ _⟩⟩
theorem Later.cell {w : World} {a : Addr} {v : Value} (h : w.cell? a = some v) (q : Later w) : q.1.cell? a = some v := (q.2.cell (World.block_lt_of_cell? w a h) (by simp)).trans h
theorem Later.blk {w : World} {b : Nat} {t : TypeId} {cs : Array Value} (h : Blk w b t cs) (q : Later w) : Blk q.1 b t cs := h.upd q.2 (by simp)
theorem Later.upd' {w : World} (q : Later w) : Upd [] w q.1 := q.2
theorem wp_region_later {P : Program} {id : Nat} {Q : Exit → Act → World → Prop} {a : Act} {w : World} {l : List Oper} (hm : P.follows .mixedOrders = true) (hB : Region.lexB .any l.toArray = true)
    (h : wpQuiet P l.toArray (fun w' => ∃ n : Later w, w' = n.1) (fun a' => ∀ w', (∃ n : Later w, w' = n.1) → Q .normal a' w') l a) : (Code.region id l.toArray true).wp P Q a w :=
  wp_region_quiet (C := fun w' => ∃ n : Later w, w' = n.1) hm hB ⟨⟨w.drew, Upd.drew (Upd.refl _ _)⟩, rfl⟩ (by simpa using h)
/-- A call that makes memory and leaves what there was. -/
theorem Calls.later {P : Program} {f : FuncId} {args : Array Value} {w : World} {q : Later w} {v : Value}
    (h : Calls P f args q.1 fun e w' => e = .returned v ∧ Below q.1.heap.size q.1 w') : Calls P f args q.1 fun e w' => e = .returned v ∧ ∃ m : Later w, w' = m.1 :=
  h.mono fun _ w' ⟨he, hb⟩ => ⟨he, ⟨⟨w', q.2.trans (Upd.of_below hb)⟩, rfl⟩⟩
theorem Calls.later_same {P : Program} {f : FuncId} {args : Array Value} {w : World} {q : Later w} {v : Value}
    (h : Calls P f args q.1 fun e w' => e = .returned v ∧ q.1 = w') : Calls P f args q.1 fun e w' => e = .returned v ∧ ∃ m : Later w, w' = m.1 :=
  h.mono fun _ _ ⟨he, hb⟩ => ⟨he, ⟨q, hb.symm⟩⟩
/-- A load whose run is known in every later world. -/
theorem quiet_load {P : Program} {o : Oper} {a : Act} {w : World} {v : Value} {ty : TypeId} {x : Operand} {ad : Value} (ho : o.op = .load ty x) (hx : a.eval x = ad) (h : ∀ q : Later w, (Instr.loadAt ty ad).run P q.1 = .ok v q.1) :
    ∀ w', (∃ n : Later w, w' = n.1) → o.quietAt P a (fun w' => ∃ n : Later w, w' = n.1) w' v := by
  rintro w' ⟨q, rfl⟩
  unfold Oper.quietAt
  have e : (execOp a.eval o).run P q.1 = .ok (.value v) q.1 := by
    simp [execOp, ho, hx, h q]
  rw [e]
  exact ⟨rfl, rfl⟩
/-- An operation whose run is known in every later world. -/
theorem quiet_op {P : Program} {o : Oper} {a : Act} {w : World} {v : Value} (h : ∀ q : Later w, (execOp a.eval o).run P q.1 = .ok (.value v) q.1) :
    ∀ w', (∃ n : Later w, w' = n.1) → o.quietAt P a (fun w' => ∃ n : Later w, w' = n.1) w' v := by
  rintro w' ⟨q, rfl⟩
  unfold Oper.quietAt
  rw [h q]
  exact ⟨rfl, rfl⟩
end Go.Proofs.Ytohidmkfpaiklaa
