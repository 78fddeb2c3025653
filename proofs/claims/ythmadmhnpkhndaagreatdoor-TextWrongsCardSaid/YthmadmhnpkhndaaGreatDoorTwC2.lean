/- Calls of the program, each told by its own run. -/
import Derived.Test.YthmadmhnpkhndaaGreatDoorTwB
namespace Go.TextW
open Go Go.Sy Go.E3
noncomputable section
set_option maxRecDepth 100000
theorem law2_0 : CardOk P 7 (law 2 0) := CardOk.of deck_ok 1 (by kernel_rfl)
theorem law2_1 : CardOk P 7 (law 2 1) := CardOk.of deck_ok 1 (by kernel_rfl)
theorem law2_2 : CardOk P 7 (law 2 2) := CardOk.of deck_ok 1 (by kernel_rfl)
theorem law2_3 : CardOk P 7 (law 2 3) := CardOk.of deck_ok 1 (by kernel_rfl)
theorem law2_4 : CardOk P 7 (law 2 4) := CardOk.of deck_ok 1 (by kernel_rfl)
theorem law3_0 : CardOk P 7 (law 3 0) := CardOk.of deck_ok 1 (by kernel_rfl)
theorem law3_1 : CardOk P 7 (law 3 1) := CardOk.of deck_ok 1 (by kernel_rfl)
theorem law3_2 : CardOk P 7 (law 3 2) := CardOk.of deck_ok 1 (by kernel_rfl)
theorem law3_3 : CardOk P 7 (law 3 3) := CardOk.of deck_ok 1 (by kernel_rfl)
theorem law3_4 : CardOk P 7 (law 3 4) := CardOk.of deck_ok 1 (by kernel_rfl)
end
end Go.TextW
