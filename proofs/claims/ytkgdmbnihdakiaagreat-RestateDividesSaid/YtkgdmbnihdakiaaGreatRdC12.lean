/- Calls of the program, each told by its own run. -/
import Derived.Test.YtkgdmbnihdakiaaGreatRdK
namespace Go.RvC
open Go Go.Sy Go.E3
set_option maxRecDepth 100000
theorem lawD1_2_0 : CardOk P 7 (lawD 1 2 0) := CardOk.of deck22_ok 1 (by kernel_rfl)
theorem lawD1_2_1 : CardOk P 7 (lawD 1 2 1) := CardOk.of deck22_ok 1 (by kernel_rfl)
theorem lawD1_2_2 : CardOk P 7 (lawD 1 2 2) := CardOk.of deck22_ok 1 (by kernel_rfl)
end Go.RvC
