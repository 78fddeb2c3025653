/- Calls of the program, each told by its own run. -/
import Derived.Test.YtgnfekfikifgiaaGreatRvD
namespace Go.RvC
open Go Go.Sy Go.E3
set_option maxRecDepth 100000
theorem d3_ok : CardOk P 131 d3 := CardOk.of deck0_ok 1 (by kernel_rfl)
theorem d6_ok : CardOk P 131 d6 := CardOk.of deck0_ok 1 (by kernel_rfl)
theorem d9_ok : CardOk P 131 d9 := CardOk.of deck0_ok 1 (by kernel_rfl)
theorem d12_ok : CardOk P 131 d12 := CardOk.of deck0_ok 1 (by kernel_rfl)
theorem d15_ok : CardOk P 131 d15 := CardOk.of deck0_ok 1 (by kernel_rfl)
theorem d18_ok : CardOk P 131 d18 := CardOk.of deck0_ok 1 (by kernel_rfl)
theorem d21_ok : CardOk P 131 d21 := CardOk.of deck0_ok 1 (by kernel_rfl)
theorem d24_ok : CardOk P 131 d24 := CardOk.of deck0_ok 1 (by kernel_rfl)
theorem d27_ok : CardOk P 131 d27 := CardOk.of deck0_ok 1 (by kernel_rfl)
theorem d30_ok : CardOk P 131 d30 := CardOk.of deck0_ok 1 (by kernel_rfl)
theorem d33_ok : CardOk P 131 d33 := CardOk.of deck0_ok 1 (by kernel_rfl)
theorem d36_ok : CardOk P 131 d36 := CardOk.of deck0_ok 1 (by kernel_rfl)
theorem d39_ok : CardOk P 131 d39 := CardOk.of deck0_ok 1 (by kernel_rfl)
theorem d42_ok : CardOk P 131 d42 := CardOk.of deck0_ok 1 (by kernel_rfl)
theorem d45_ok : CardOk P 131 d45 := CardOk.of deck0_ok 1 (by kernel_rfl)
end Go.RvC
