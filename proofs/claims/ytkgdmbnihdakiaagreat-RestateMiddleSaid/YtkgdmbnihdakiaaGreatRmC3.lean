/- Calls of the program, each told by its own run. -/
import Derived.Test.YtkgdmbnihdakiaaGreatRmD
namespace Go.RvC
open Go Go.Sy Go.E3
set_option maxRecDepth 100000
theorem lawM3_0 : CardOk P 6 (lawM 3 0) := CardOk.of deck22_ok 1 (by kernel_rfl)
theorem lawM3_1 : CardOk P 6 (lawM 3 1) := CardOk.of deck22_ok 1 (by kernel_rfl)
theorem lawM3_2 : CardOk P 6 (lawM 3 2) := CardOk.of deck22_ok 1 (by kernel_rfl)
end Go.RvC
