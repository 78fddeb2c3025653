/- Calls of the program, each told by its own run. -/
import Derived.Test.YtkgdmbnihdakiaaGreatEpK
namespace Go.RvC
open Go Go.Sy Go.E3
set_option maxRecDepth 100000
theorem lawP0_2_0 : CardOk P 9 (lawP 0 2 0) := CardOk.of deck21_ok 1 (by kernel_rfl)
theorem lawP0_2_1 : CardOk P 9 (lawP 0 2 1) := CardOk.of deck21_ok 1 (by kernel_rfl)
theorem lawP0_2_2 : CardOk P 9 (lawP 0 2 2) := CardOk.of deck21_ok 1 (by kernel_rfl)
end Go.RvC
