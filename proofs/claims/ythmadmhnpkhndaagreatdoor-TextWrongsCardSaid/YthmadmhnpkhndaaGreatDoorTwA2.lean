/- Calls of the program, each told by its own run. -/
import Derived.Test.YthmadmhnpkhndaaGreatDoorTwD
namespace Go.TextW
open Go Go.Sy Go.E3
noncomputable section
set_option maxRecDepth 100000
theorem p1_ok : CardOk P 12 p1 := CardOk.of DeckOk.nil 1 (by kernel_rfl)
theorem p4_ok : CardOk P 12 p4 := CardOk.of DeckOk.nil 1 (by kernel_rfl)
theorem p7_ok : CardOk P 12 p7 := CardOk.of DeckOk.nil 1 (by kernel_rfl)
theorem p10_ok : CardOk P 12 p10 := CardOk.of DeckOk.nil 1 (by kernel_rfl)
theorem p13_ok : CardOk P 12 p13 := CardOk.of DeckOk.nil 1 (by kernel_rfl)
theorem p16_ok : CardOk P 12 p16 := CardOk.of DeckOk.nil 1 (by kernel_rfl)
theorem p19_ok : CardOk P 12 p19 := CardOk.of DeckOk.nil 1 (by kernel_rfl)
end
end Go.TextW
