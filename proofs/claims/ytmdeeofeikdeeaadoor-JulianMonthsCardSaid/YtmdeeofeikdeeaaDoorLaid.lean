/-
  The row's list gives the table of lengths: its twelve cells lie in block 0 as the program text lays them.
-/
import Derived.Test.YtmdeeofeikdeeaaDoorRows
import Derived.Test.YtmdeeofeikdeeaaDoorSmall
import Derived.Lib.LaidTab
namespace Go.Proofs.YtmdeeofeikdeeaaDoor
open Go.RowKit
theorem gLens : Tryd.prog.globalNamed "computus/julian.lengths" = some 0 := by kernel_rfl
theorem gLensType : (Tryd.prog.globals[0]?).map (·.type) = some 47 := by kernel_rfl
theorem cells47 : Tryd.prog.cellsOf 47 = 12 := by kernel_rfl
theorem cells3 : Tryd.prog.cellsOf 3 = 1 := by kernel_rfl
theorem cells23 : Tryd.prog.cellsOf 23 = 3 := by kernel_rfl
theorem lensIn_of_laid {W : World} (h : laidMetH Tryd.prog [("computus/julian.lengths", Rows.laid_computus_julian_lengths)] W) : LensIn W := by
  have T : Lib.TabIs Tryd.prog W "computus/julian.lengths" .i64 [31, 28, 31, 30, 31, 30, 31, 31, 30, 31, 30, 31] :=
    Lib.tabIs_of_head (rest := []) gLens gLensType Tryd.underlying47 Tryd.underlying3 cells3 cells47 h
  have c := fun i hi => T.cell gLens i hi
  have c0 := c 0 (by decide)
  exact ⟨World.block_lt_of_cell? W _ c0, c0, c 1 (by decide), c 2 (by decide), c 3 (by decide), c 4 (by decide), c 5 (by decide), c 6 (by decide), c 7 (by decide), c 8 (by decide), c 9 (by decide), c 10 (by decide), c 11 (by decide)⟩
end Go.Proofs.YtmdeeofeikdeeaaDoor
