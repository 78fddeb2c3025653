/- Calls of the program, each told by its own run. -/
import Derived.Test.YthmadmhnpkhndaaGreatDoorTwD
namespace Go.TextW
open Go Go.Sy Go.E3
noncomputable section
set_option maxRecDepth 100000
theorem p0_ok : CardOk P 12 p0 := CardOk.of DeckOk.nil 1 (by kernel_rfl)
theorem p3_ok : CardOk P 12 p3 := CardOk.of DeckOk.nil 1 (by kernel_rfl)
theorem p6_ok : CardOk P 12 p6 := CardOk.of DeckOk.nil 1 (by kernel_rfl)
theorem p9_ok : CardOk P 12 p9 := CardOk.of DeckOk.nil 1 (by kernel_rfl)
theorem p12_ok : CardOk P 12 p12 := CardOk.of DeckOk.nil 1 (by kernel_rfl)
theorem p15_ok : CardOk P 12 p15 := CardOk.of DeckOk.nil 1 (by kernel_rfl)
theorem p18_ok : CardOk P 12 p18 := CardOk.of DeckOk.nil 1 (by kernel_rfl)
theorem known_ok : CardOk P 9 known := CardOk.of DeckOk.nil 1 (by kernel_rfl)
end
end Go.TextW
