/- Calls of the program, each told by its own run. -/
import Derived.Test.YthmadmhnpkhndaaGreatDoorTwB
namespace Go.TextW
open Go Go.Sy Go.E3
noncomputable section
set_option maxRecDepth 100000
theorem law8_0 : CardOk P 7 (law 8 0) := CardOk.of deck_ok 1 (by kernel_rfl)
theorem law8_1 : CardOk P 7 (law 8 1) := CardOk.of deck_ok 1 (by kernel_rfl)
theorem law8_2 : CardOk P 7 (law 8 2) := CardOk.of deck_ok 1 (by kernel_rfl)
theorem law8_3 : CardOk P 7 (law 8 3) := CardOk.of deck_ok 1 (by kernel_rfl)
theorem law8_4 : CardOk P 7 (law 8 4) := CardOk.of deck_ok 1 (by kernel_rfl)
theorem law9_0 : CardOk P 7 (law 9 0) := CardOk.of deck_ok 1 (by kernel_rfl)
theorem law9_1 : CardOk P 7 (law 9 1) := CardOk.of deck_ok 1 (by kernel_rfl)
theorem law9_2 : CardOk P 7 (law 9 2) := CardOk.of deck_ok 1 (by kernel_rfl)
theorem law9_3 : CardOk P 7 (law 9 3) := CardOk.of deck_ok 1 (by kernel_rfl)
theorem law9_4 : CardOk P 7 (law 9 4) := CardOk.of deck_ok 1 (by kernel_rfl)
end
end Go.TextW
