/- Calls of the program, each told by its own run. -/
import Derived.Test.YthmadmhnpkhndaaGreatDoorTwB
namespace Go.TextW
open Go Go.Sy Go.E3
noncomputable section
set_option maxRecDepth 100000
theorem law0_0 : CardOk P 7 (law 0 0) := CardOk.of deck_ok 1 (by kernel_rfl)
theorem law0_1 : CardOk P 7 (law 0 1) := CardOk.of deck_ok 1 (by kernel_rfl)
theorem law0_2 : CardOk P 7 (law 0 2) := CardOk.of deck_ok 1 (by kernel_rfl)
theorem law0_3 : CardOk P 7 (law 0 3) := CardOk.of deck_ok 1 (by kernel_rfl)
theorem law0_4 : CardOk P 7 (law 0 4) := CardOk.of deck_ok 1 (by kernel_rfl)
theorem law1_0 : CardOk P 7 (law 1 0) := CardOk.of deck_ok 1 (by kernel_rfl)
theorem law1_1 : CardOk P 7 (law 1 1) := CardOk.of deck_ok 1 (by kernel_rfl)
theorem law1_2 : CardOk P 7 (law 1 2) := CardOk.of deck_ok 1 (by kernel_rfl)
theorem law1_3 : CardOk P 7 (law 1 3) := CardOk.of deck_ok 1 (by kernel_rfl)
theorem law1_4 : CardOk P 7 (law 1 4) := CardOk.of deck_ok 1 (by kernel_rfl)
end
end Go.TextW
