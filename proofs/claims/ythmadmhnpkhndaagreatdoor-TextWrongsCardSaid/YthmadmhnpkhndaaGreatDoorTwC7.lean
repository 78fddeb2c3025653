/- Calls of the program, each told by its own run. -/
import Derived.Test.YthmadmhnpkhndaaGreatDoorTwB
namespace Go.TextW
open Go Go.Sy Go.E3
noncomputable section
set_option maxRecDepth 100000
theorem law12_0 : CardOk P 7 (law 12 0) := CardOk.of deck_ok 1 (by kernel_rfl)
theorem law12_1 : CardOk P 7 (law 12 1) := CardOk.of deck_ok 1 (by kernel_rfl)
theorem law12_2 : CardOk P 7 (law 12 2) := CardOk.of deck_ok 1 (by kernel_rfl)
theorem law12_3 : CardOk P 7 (law 12 3) := CardOk.of deck_ok 1 (by kernel_rfl)
theorem law12_4 : CardOk P 7 (law 12 4) := CardOk.of deck_ok 1 (by kernel_rfl)
theorem law13_0 : CardOk P 7 (law 13 0) := CardOk.of deck_ok 1 (by kernel_rfl)
theorem law13_1 : CardOk P 7 (law 13 1) := CardOk.of deck_ok 1 (by kernel_rfl)
theorem law13_2 : CardOk P 7 (law 13 2) := CardOk.of deck_ok 1 (by kernel_rfl)
theorem law13_3 : CardOk P 7 (law 13 3) := CardOk.of deck_ok 1 (by kernel_rfl)
theorem law13_4 : CardOk P 7 (law 13 4) := CardOk.of deck_ok 1 (by kernel_rfl)
end
end Go.TextW
