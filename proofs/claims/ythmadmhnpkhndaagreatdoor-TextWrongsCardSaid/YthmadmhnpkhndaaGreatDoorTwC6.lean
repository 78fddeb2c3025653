/- Calls of the program, each told by its own run. -/
import Derived.Test.YthmadmhnpkhndaaGreatDoorTwB
namespace Go.TextW
open Go Go.Sy Go.E3
noncomputable section
set_option maxRecDepth 100000
theorem law10_0 : CardOk P 7 (law 10 0) := CardOk.of deck_ok 1 (by kernel_rfl)
theorem law10_1 : CardOk P 7 (law 10 1) := CardOk.of deck_ok 1 (by kernel_rfl)
theorem law10_2 : CardOk P 7 (law 10 2) := CardOk.of deck_ok 1 (by kernel_rfl)
theorem law10_3 : CardOk P 7 (law 10 3) := CardOk.of deck_ok 1 (by kernel_rfl)
theorem law10_4 : CardOk P 7 (law 10 4) := CardOk.of deck_ok 1 (by kernel_rfl)
theorem law11_0 : CardOk P 7 (law 11 0) := CardOk.of deck_ok 1 (by kernel_rfl)
theorem law11_1 : CardOk P 7 (law 11 1) := CardOk.of deck_ok 1 (by kernel_rfl)
theorem law11_2 : CardOk P 7 (law 11 2) := CardOk.of deck_ok 1 (by kernel_rfl)
theorem law11_3 : CardOk P 7 (law 11 3) := CardOk.of deck_ok 1 (by kernel_rfl)
theorem law11_4 : CardOk P 7 (law 11 4) := CardOk.of deck_ok 1 (by kernel_rfl)
end
end Go.TextW
