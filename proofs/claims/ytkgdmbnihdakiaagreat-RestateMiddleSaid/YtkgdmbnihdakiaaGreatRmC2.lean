/- Calls of the program, each told by its own run. -/
import Derived.Test.YtkgdmbnihdakiaaGreatRmD
namespace Go.RvC
open Go Go.Sy Go.E3
set_option maxRecDepth 100000
theorem lawM2_0 : CardOk P 6 (lawM 2 0) := CardOk.of deck22_ok 1 (by kernel_rfl)
theorem lawM2_1 : CardOk P 6 (lawM 2 1) := CardOk.of deck22_ok 1 (by kernel_rfl)
theorem lawM2_2 : CardOk P 6 (lawM 2 2) := CardOk.of deck22_ok 1 (by kernel_rfl)
end Go.RvC
