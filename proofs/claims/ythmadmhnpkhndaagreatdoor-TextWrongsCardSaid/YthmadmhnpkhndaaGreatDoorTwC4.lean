/- Calls of the program, each told by its own run. -/
import Derived.Test.YthmadmhnpkhndaaGreatDoorTwB
namespace Go.TextW
open Go Go.Sy Go.E3
noncomputable section
set_option maxRecDepth 100000
theorem law6_0 : CardOk P 7 (law 6 0) := CardOk.of deck_ok 1 (by kernel_rfl)
theorem law6_1 : CardOk P 7 (law 6 1) := CardOk.of deck_ok 1 (by kernel_rfl)
theorem law6_2 : CardOk P 7 (law 6 2) := CardOk.of deck_ok 1 (by kernel_rfl)
theorem law6_3 : CardOk P 7 (law 6 3) := CardOk.of deck_ok 1 (by kernel_rfl)
theorem law6_4 : CardOk P 7 (law 6 4) := CardOk.of deck_ok 1 (by kernel_rfl)
theorem law7_0 : CardOk P 7 (law 7 0) := CardOk.of deck_ok 1 (by kernel_rfl)
theorem law7_1 : CardOk P 7 (law 7 1) := CardOk.of deck_ok 1 (by kernel_rfl)
theorem law7_2 : CardOk P 7 (law 7 2) := CardOk.of deck_ok 1 (by kernel_rfl)
theorem law7_3 : CardOk P 7 (law 7 3) := CardOk.of deck_ok 1 (by kernel_rfl)
theorem law7_4 : CardOk P 7 (law 7 4) := CardOk.of deck_ok 1 (by kernel_rfl)
end
end Go.TextW
