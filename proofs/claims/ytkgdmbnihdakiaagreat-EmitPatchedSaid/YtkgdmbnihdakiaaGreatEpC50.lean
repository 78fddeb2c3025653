/- Calls of the program, each told by its own run. -/
import Derived.Test.YtkgdmbnihdakiaaGreatEpK
namespace Go.RvC
open Go Go.Sy Go.E3
set_option maxRecDepth 100000
theorem lawP5_0_0 : CardOk P 9 (lawP 5 0 0) := CardOk.of deck21_ok 1 (by kernel_rfl)
theorem lawP5_0_2 : CardOk P 9 (lawP 5 0 2) := CardOk.of deck21_ok 1 (by kernel_rfl)
theorem lawP5_1_2 : CardOk P 9 (lawP 5 1 2) := CardOk.of deck21_ok 1 (by kernel_rfl)
end Go.RvC
