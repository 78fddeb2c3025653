/- Calls of the program, each told by its own run. -/
import Derived.Test.YtgnfekfikifgiaaGreatRvD
namespace Go.RvC
open Go Go.Sy Go.E3
set_option maxRecDepth 100000
theorem e2_ok : CardOk P 214 e2 := CardOk.of deck0_ok 1 (by kernel_rfl)
theorem e5_ok : CardOk P 214 e5 := CardOk.of deck0_ok 1 (by kernel_rfl)
theorem e8_ok : CardOk P 214 e8 := CardOk.of deck0_ok 1 (by kernel_rfl)
theorem e11_ok : CardOk P 214 e11 := CardOk.of deck0_ok 1 (by kernel_rfl)
theorem e14_ok : CardOk P 214 e14 := CardOk.of deck0_ok 1 (by kernel_rfl)
theorem e17_ok : CardOk P 214 e17 := CardOk.of deck0_ok 1 (by kernel_rfl)
theorem e20_ok : CardOk P 214 e20 := CardOk.of deck0_ok 1 (by kernel_rfl)
theorem e23_ok : CardOk P 214 e23 := CardOk.of deck0_ok 1 (by kernel_rfl)
theorem e26_ok : CardOk P 214 e26 := CardOk.of deck0_ok 1 (by kernel_rfl)
theorem e29_ok : CardOk P 214 e29 := CardOk.of deck0_ok 1 (by kernel_rfl)
theorem e32_ok : CardOk P 214 e32 := CardOk.of deck0_ok 1 (by kernel_rfl)
theorem e35_ok : CardOk P 214 e35 := CardOk.of deck0_ok 1 (by kernel_rfl)
theorem e38_ok : CardOk P 214 e38 := CardOk.of deck0_ok 1 (by kernel_rfl)
theorem e41_ok : CardOk P 214 e41 := CardOk.of deck0_ok 1 (by kernel_rfl)
theorem e44_ok : CardOk P 214 e44 := CardOk.of deck0_ok 1 (by kernel_rfl)
end Go.RvC
