/- A post's cells in a block. -/
import Derived.Test.YtdpmfghlhgfhfaaDoorPlain
set_option linter.unusedVariables false
set_option linter.unusedSimpArgs false
namespace Go.Proofs.YtdpmfghlhgfhfaaDoor
open Go.RowKit

theorem entCells {w : World} {b : Nat} {x : Ent} (h : w.heap[b]? = some (.cells #[.int .i64 x.no, .int .i64 x.user, .string x.text, .int .i64 x.edits, .bool x.gone] 33)) : CellsE w b 0 x :=
  ⟨by simp [World.cell?, h], by simp [World.cell?, h], by simp [World.cell?, h], by simp [World.cell?, h], by simp [World.cell?, h]⟩
end Go.Proofs.YtdpmfghlhgfhfaaDoor
