/- Calls of the program, each told by its own run. -/
import Derived.Test.YtgnfekfikifgiaaGreatRvD
namespace Go.RvC
open Go Go.Sy Go.E3
set_option maxRecDepth 100000
theorem d2_ok : CardOk P 131 d2 := CardOk.of deck0_ok 1 (by kernel_rfl)
theorem d5_ok : CardOk P 131 d5 := CardOk.of deck0_ok 1 (by kernel_rfl)
theorem d8_ok : CardOk P 131 d8 := CardOk.of deck0_ok 1 (by kernel_rfl)
theorem d11_ok : CardOk P 131 d11 := CardOk.of deck0_ok 1 (by kernel_rfl)
theorem d14_ok : CardOk P 131 d14 := CardOk.of deck0_ok 1 (by kernel_rfl)
theorem d17_ok : CardOk P 131 d17 := CardOk.of deck0_ok 1 (by kernel_rfl)
theorem d20_ok : CardOk P 131 d20 := CardOk.of deck0_ok 1 (by kernel_rfl)
theorem d23_ok : CardOk P 131 d23 := CardOk.of deck0_ok 1 (by kernel_rfl)
theorem d26_ok : CardOk P 131 d26 := CardOk.of deck0_ok 1 (by kernel_rfl)
theorem d29_ok : CardOk P 131 d29 := CardOk.of deck0_ok 1 (by kernel_rfl)
theorem d32_ok : CardOk P 131 d32 := CardOk.of deck0_ok 1 (by kernel_rfl)
theorem d35_ok : CardOk P 131 d35 := CardOk.of deck0_ok 1 (by kernel_rfl)
theorem d38_ok : CardOk P 131 d38 := CardOk.of deck0_ok 1 (by kernel_rfl)
theorem d41_ok : CardOk P 131 d41 := CardOk.of deck0_ok 1 (by kernel_rfl)
theorem d44_ok : CardOk P 131 d44 := CardOk.of deck0_ok 1 (by kernel_rfl)
end Go.RvC
