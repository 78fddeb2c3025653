/- Calls of the program, each told by its own run. -/
import Derived.Test.YtbnkhcjmbdcghaaGreatRvD
namespace Go.RvC
open Go Go.Sy Go.E3
set_option maxRecDepth 100000
theorem e1_ok : CardOk P 234 e1 := CardOk.of deck0_ok 1 (by kernel_rfl)
theorem e4_ok : CardOk P 234 e4 := CardOk.of deck0_ok 1 (by kernel_rfl)
theorem e7_ok : CardOk P 234 e7 := CardOk.of deck0_ok 1 (by kernel_rfl)
theorem e10_ok : CardOk P 234 e10 := CardOk.of deck0_ok 1 (by kernel_rfl)
theorem e13_ok : CardOk P 234 e13 := CardOk.of deck0_ok 1 (by kernel_rfl)
theorem e16_ok : CardOk P 234 e16 := CardOk.of deck0_ok 1 (by kernel_rfl)
theorem e19_ok : CardOk P 234 e19 := CardOk.of deck0_ok 1 (by kernel_rfl)
theorem e22_ok : CardOk P 234 e22 := CardOk.of deck0_ok 1 (by kernel_rfl)
theorem e25_ok : CardOk P 234 e25 := CardOk.of deck0_ok 1 (by kernel_rfl)
theorem e28_ok : CardOk P 234 e28 := CardOk.of deck0_ok 1 (by kernel_rfl)
theorem e31_ok : CardOk P 234 e31 := CardOk.of deck0_ok 1 (by kernel_rfl)
theorem e34_ok : CardOk P 234 e34 := CardOk.of deck0_ok 1 (by kernel_rfl)
theorem e37_ok : CardOk P 234 e37 := CardOk.of deck0_ok 1 (by kernel_rfl)
theorem e40_ok : CardOk P 234 e40 := CardOk.of deck0_ok 1 (by kernel_rfl)
theorem e43_ok : CardOk P 234 e43 := CardOk.of deck0_ok 1 (by kernel_rfl)
theorem e46_ok : CardOk P 234 e46 := CardOk.of deck0_ok 1 (by kernel_rfl)
end Go.RvC
