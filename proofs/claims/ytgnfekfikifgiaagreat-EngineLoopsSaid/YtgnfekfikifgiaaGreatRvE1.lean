/- Calls of the program, each told by its own run. -/
import Derived.Test.YtgnfekfikifgiaaGreatRvD
namespace Go.RvC
open Go Go.Sy Go.E3
set_option maxRecDepth 100000
theorem e3_ok : CardOk P 214 e3 := CardOk.of deck0_ok 1 (by kernel_rfl)
theorem e6_ok : CardOk P 214 e6 := CardOk.of deck0_ok 1 (by kernel_rfl)
theorem e9_ok : CardOk P 214 e9 := CardOk.of deck0_ok 1 (by kernel_rfl)
theorem e12_ok : CardOk P 214 e12 := CardOk.of deck0_ok 1 (by kernel_rfl)
theorem e15_ok : CardOk P 214 e15 := CardOk.of deck0_ok 1 (by kernel_rfl)
theorem e18_ok : CardOk P 214 e18 := CardOk.of deck0_ok 1 (by kernel_rfl)
theorem e21_ok : CardOk P 214 e21 := CardOk.of deck0_ok 1 (by kernel_rfl)
theorem e24_ok : CardOk P 214 e24 := CardOk.of deck0_ok 1 (by kernel_rfl)
theorem e27_ok : CardOk P 214 e27 := CardOk.of deck0_ok 1 (by kernel_rfl)
theorem e30_ok : CardOk P 214 e30 := CardOk.of deck0_ok 1 (by kernel_rfl)
theorem e33_ok : CardOk P 214 e33 := CardOk.of deck0_ok 1 (by kernel_rfl)
theorem e36_ok : CardOk P 214 e36 := CardOk.of deck0_ok 1 (by kernel_rfl)
theorem e39_ok : CardOk P 214 e39 := CardOk.of deck0_ok 1 (by kernel_rfl)
theorem e42_ok : CardOk P 214 e42 := CardOk.of deck0_ok 1 (by kernel_rfl)
theorem e45_ok : CardOk P 214 e45 := CardOk.of deck0_ok 1 (by kernel_rfl)
end Go.RvC
