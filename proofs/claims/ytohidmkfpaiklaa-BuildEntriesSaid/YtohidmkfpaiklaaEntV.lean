/- Entries (of a tree, of a node), plainly, and how they lie. -/
import Derived.Test.YtohidmkfpaiklaaOwnRow
import Derived.Test.YtohidmkfpaiklaaCell
namespace Go.Proofs.Ytohidmkfpaiklaa
open Go.RowKit
set_option linter.unusedSimpArgs false
set_option linter.unusedVariables false

structure EntV where
  lo : Int
  stop : Int
  h : Int
def entCells (e : EntV) : List Value := [.int .i64 e.lo, .int .i64 e.stop, .int .i64 e.h]
theorem entCells_len (e : EntV) : (entCells e).length = 3 := rfl
theorem ent_snoc (es : List EntV) (e : EntV) : es.flatMap entCells ++ [.int .i64 e.lo, .int .i64 e.stop, .int .i64 e.h] = (es ++ [e]).flatMap entCells := by simp [entCells]
theorem info_entry : (Try.prog.info? 31).map (fun i => (i.zero, i.size, i.bytes)) = some (some (.agg #[.int .i64 0, .int .i64 0, .int .i64 0]), 3, 24) := by kernel_rfl
theorem under_entries : Try.prog.underlying 27 = some (.slice 31) := by kernel_rfl
end Go.Proofs.Ytohidmkfpaiklaa
