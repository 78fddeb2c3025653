/- Calls of the program, each told by its own run. -/
import Derived.Test.YtgnfekfikifgiaaGreatRvD
namespace Go.RvC
open Go Go.Sy Go.E3
set_option maxRecDepth 100000
theorem e1_ok : CardOk P 214 e1 := CardOk.of deck0_ok 1 (by kernel_rfl)
theorem e4_ok : CardOk P 214 e4 := CardOk.of deck0_ok 1 (by kernel_rfl)
theorem e7_ok : CardOk P 214 e7 := CardOk.of deck0_ok 1 (by kernel_rfl)
theorem e10_ok : CardOk P 214 e10 := CardOk.of deck0_ok 1 (by kernel_rfl)
theorem e13_ok : CardOk P 214 e13 := CardOk.of deck0_ok 1 (by kernel_rfl)
theorem e16_ok : CardOk P 214 e16 := CardOk.of deck0_ok 1 (by kernel_rfl)
theorem e19_ok : CardOk P 214 e19 := CardOk.of deck0_ok 1 (by kernel_rfl)
theorem e22_ok : CardOk P 214 e22 := CardOk.of deck0_ok 1 (by kernel_rfl)
theorem e25_ok : CardOk P 214 e25 := CardOk.of deck0_ok 1 (by kernel_rfl)
theorem e28_ok : CardOk P 214 e28 := CardOk.of deck0_ok 1 (by kernel_rfl)
theorem e31_ok : CardOk P 214 e31 := CardOk.of deck0_ok 1 (by kernel_rfl)
theorem e34_ok : CardOk P 214 e34 := CardOk.of deck0_ok 1 (by kernel_rfl)
theorem e37_ok : CardOk P 214 e37 := CardOk.of deck0_ok 1 (by kernel_rfl)
theorem e40_ok : CardOk P 214 e40 := CardOk.of deck0_ok 1 (by kernel_rfl)
theorem e43_ok : CardOk P 214 e43 := CardOk.of deck0_ok 1 (by kernel_rfl)
theorem e46_ok : CardOk P 214 e46 := CardOk.of deck0_ok 1 (by kernel_rfl)
end Go.RvC
