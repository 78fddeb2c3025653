/- Calls of the program, each told by its own run. -/
import Derived.Test.YtgnfekfikifgiaaGreatRvD
namespace Go.RvC
open Go Go.Sy Go.E3
set_option maxRecDepth 100000
theorem d1_ok : CardOk P 131 d1 := CardOk.of deck0_ok 1 (by kernel_rfl)
theorem d4_ok : CardOk P 131 d4 := CardOk.of deck0_ok 1 (by kernel_rfl)
theorem d7_ok : CardOk P 131 d7 := CardOk.of deck0_ok 1 (by kernel_rfl)
theorem d10_ok : CardOk P 131 d10 := CardOk.of deck0_ok 1 (by kernel_rfl)
theorem d13_ok : CardOk P 131 d13 := CardOk.of deck0_ok 1 (by kernel_rfl)
theorem d16_ok : CardOk P 131 d16 := CardOk.of deck0_ok 1 (by kernel_rfl)
theorem d19_ok : CardOk P 131 d19 := CardOk.of deck0_ok 1 (by kernel_rfl)
theorem d22_ok : CardOk P 131 d22 := CardOk.of deck0_ok 1 (by kernel_rfl)
theorem d25_ok : CardOk P 131 d25 := CardOk.of deck0_ok 1 (by kernel_rfl)
theorem d28_ok : CardOk P 131 d28 := CardOk.of deck0_ok 1 (by kernel_rfl)
theorem d31_ok : CardOk P 131 d31 := CardOk.of deck0_ok 1 (by kernel_rfl)
theorem d34_ok : CardOk P 131 d34 := CardOk.of deck0_ok 1 (by kernel_rfl)
theorem d37_ok : CardOk P 131 d37 := CardOk.of deck0_ok 1 (by kernel_rfl)
theorem d40_ok : CardOk P 131 d40 := CardOk.of deck0_ok 1 (by kernel_rfl)
theorem d43_ok : CardOk P 131 d43 := CardOk.of deck0_ok 1 (by kernel_rfl)
theorem d46_ok : CardOk P 131 d46 := CardOk.of deck0_ok 1 (by kernel_rfl)
end Go.RvC
