/- internal/bytealg.MaxLen holds some number in every world that fits the program's shape. -/
import Derived.Test.YtgbfaggnnfoamaaMatch
import Derived.Shelf.Vars
namespace Go.Proofs.Ytgbfaggnnfoamaa
open Go.RowKit

theorem someLen_of_shaped {w : World} (h : w.ShapedOpen Try.prog) : SomeLen w := by
  obtain ⟨m, hm⟩ := Go.Proofs.cell_of_shapedOpen_int (P := Try.prog) (w := w) (g := 0) (t := 3) (zero := #[.int .i64 0]) (k := .i64) h (of_decide_eq_true (by kernel_rfl)) (by kernel_rfl) rfl (by kernel_rfl) (by kernel_rfl) Try.underlying3
  exact ⟨World.block_lt_of_cell? w _ hm, m, hm⟩
end Go.Proofs.Ytgbfaggnnfoamaa
