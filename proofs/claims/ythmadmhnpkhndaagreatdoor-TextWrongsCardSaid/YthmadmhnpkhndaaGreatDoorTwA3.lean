/- Calls of the program, each told by its own run. -/
import Derived.Test.YthmadmhnpkhndaaGreatDoorTwD
namespace Go.TextW
open Go Go.Sy Go.E3
noncomputable section
set_option maxRecDepth 100000
theorem p2_ok : CardOk P 12 p2 := CardOk.of DeckOk.nil 1 (by kernel_rfl)
theorem p5_ok : CardOk P 12 p5 := CardOk.of DeckOk.nil 1 (by kernel_rfl)
theorem p8_ok : CardOk P 12 p8 := CardOk.of DeckOk.nil 1 (by kernel_rfl)
theorem p11_ok : CardOk P 12 p11 := CardOk.of DeckOk.nil 1 (by kernel_rfl)
theorem p14_ok : CardOk P 12 p14 := CardOk.of DeckOk.nil 1 (by kernel_rfl)
theorem p17_ok : CardOk P 12 p17 := CardOk.of DeckOk.nil 1 (by kernel_rfl)
theorem p20_ok : CardOk P 12 p20 := CardOk.of DeckOk.nil 1 (by kernel_rfl)
end
end Go.TextW
