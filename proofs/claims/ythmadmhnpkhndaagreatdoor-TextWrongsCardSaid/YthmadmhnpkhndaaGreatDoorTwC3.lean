/- Calls of the program, each told by its own run. -/
import Derived.Test.YthmadmhnpkhndaaGreatDoorTwB
namespace Go.TextW
open Go Go.Sy Go.E3
noncomputable section
set_option maxRecDepth 100000
theorem law4_0 : CardOk P 7 (law 4 0) := CardOk.of deck_ok 1 (by kernel_rfl)
theorem law4_1 : CardOk P 7 (law 4 1) := CardOk.of deck_ok 1 (by kernel_rfl)
theorem law4_2 : CardOk P 7 (law 4 2) := CardOk.of deck_ok 1 (by kernel_rfl)
theorem law4_3 : CardOk P 7 (law 4 3) := CardOk.of deck_ok 1 (by kernel_rfl)
theorem law4_4 : CardOk P 7 (law 4 4) := CardOk.of deck_ok 1 (by kernel_rfl)
theorem law5_0 : CardOk P 7 (law 5 0) := CardOk.of deck_ok 1 (by kernel_rfl)
theorem law5_1 : CardOk P 7 (law 5 1) := CardOk.of deck_ok 1 (by kernel_rfl)
theorem law5_2 : CardOk P 7 (law 5 2) := CardOk.of deck_ok 1 (by kernel_rfl)
theorem law5_3 : CardOk P 7 (law 5 3) := CardOk.of deck_ok 1 (by kernel_rfl)
theorem law5_4 : CardOk P 7 (law 5 4) := CardOk.of deck_ok 1 (by kernel_rfl)
end
end Go.TextW
