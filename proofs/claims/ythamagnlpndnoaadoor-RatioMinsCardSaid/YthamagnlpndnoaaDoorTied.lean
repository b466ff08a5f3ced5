/- The frame of a row that lists the library's tables: from the condition to the table's cells; a world that meets it. -/
import Derived.Test.YthamagnlpndnoaaDoorRow
import Derived.Test.YthamagnlpndnoaaDoorFmt
import Derived.LaidLaws
namespace Go.Proofs.YthamagnlpndnoaaDoor
open Go.ChangeShapes Go.WideShapes Go.RowKit

abbrev laidL : List (String × DataW Unit) := [("math/bits.deBruijn32tab", Rows.laid_math_bits_deBruijn32tab), ("math/bits.deBruijn64tab", Rows.laid_math_bits_deBruijn64tab), ("internal/strconv.uint64pow10", Rows.laid_internal_strconv_uint64pow10)]

theorem tab_of_laid {W : World} (h : laidMet Tryd.prog laidL W) : Tab W := by
  obtain ⟨ps, ⟨_, _, _, _, _, _, _, _, _, _, ⟨_, _, _, _, _, _, _, _, _, _, ⟨g, t, cs, fuel, p, q, hg, ht, hvar, hd, _, _⟩, _⟩, _⟩, _⟩ := h
  obtain rfl := Option.some.inj ((show Tryd.prog.globalNamed "internal/strconv.uint64pow10" = some 2 by kernel_rfl).symm.trans hg)
  obtain rfl := Option.some.inj ((show (Tryd.prog.globals[2]?).map (·.type) = some 131 by kernel_rfl).symm.trans ht)
  have e : (Rows.laid_internal_strconv_uint64pow10 : DataW Unit) = Lib.tabData .u64 Lib.pow10Tab := by kernel_rfl
  rw [e] at hd
  unfold Tab Lib.TabIs
  rw [hvar, ← Lib.cells_of_tab Tryd.underlying131 Tryd.underlying22 (by kernel_rfl) (by kernel_rfl) hd]

def litsOf : List (DataW Unit) → List Value
  | .lit (.int k z) :: r => .int k z :: litsOf r
  | _ => []
def cellsOfData : DataW Unit → Array Value
  | .agg l => (litsOf l).toArray
  | _ => #[]
/-- A world that meets the condition: the settled one, the three tables laid. -/
noncomputable def laidWorld (os : Os) : World :=
  let w0 := World.holding Tryd.prog os ⟨#[], #[], []⟩
  { w0 with heap := ((w0.heap.modify 4 fun
      | .cells _ t frozen => .cells (cellsOfData Rows.laid_math_bits_deBruijn32tab) t frozen
      | o => o).modify 5 fun
      | .cells _ t frozen => .cells (cellsOfData Rows.laid_math_bits_deBruijn64tab) t frozen
      | o => o).modify 2 fun
      | .cells _ t frozen => .cells (cellsOfData Rows.laid_internal_strconv_uint64pow10) t frozen
      | o => o }
set_option maxRecDepth 100000 in
theorem laidWorld_met (os : Os) (args : Array Value) : laidMet Tryd.prog laidL ((laidWorld os).forCall (fun _ _ => 0) ⟨#[], args, []⟩).memory :=
  laidMet_of_run' 8 (by kernel_rfl) (by kernel_rfl)
theorem laid_heap {w w' : World} (hh : w.heap = w'.heap) (h : laidMet Tryd.prog laidL w) : laidMet Tryd.prog laidL w' := h.of_heap hh
end Go.Proofs.YthamagnlpndnoaaDoor
