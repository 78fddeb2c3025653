/- Calls of the program, each told by its own run. -/
import Derived.Test.YtjfcnhfpnjcjaaaGreatDoorTnD
namespace Go.TextN
open Go Go.Sy Go.E3
noncomputable section
set_option maxRecDepth 100000
theorem rdMov_ok : CardOk P 14 rdMov := CardOk.of DeckOk.nil 1 (by kernel_rfl)
theorem rdJmp_ok : CardOk P 14 rdJmp := CardOk.of DeckOk.nil 1 (by kernel_rfl)
theorem is1_ok : CardOk P 18 is1 := CardOk.of DeckOk.nil 1 (by kernel_rfl)
theorem is2_ok : CardOk P 18 is2 := CardOk.of DeckOk.nil 1 (by kernel_rfl)
theorem is3_ok : CardOk P 18 is3 := CardOk.of DeckOk.nil 1 (by kernel_rfl)
end
end Go.TextN
