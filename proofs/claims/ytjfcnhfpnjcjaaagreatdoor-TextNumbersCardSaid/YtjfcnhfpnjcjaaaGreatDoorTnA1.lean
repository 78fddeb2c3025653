/- Calls of the program, each told by its own run. -/
import Derived.Test.YtjfcnhfpnjcjaaaGreatDoorTnD
namespace Go.TextN
open Go Go.Sy Go.E3
noncomputable section
set_option maxRecDepth 100000
theorem known_ok : CardOk P 4 known := CardOk.of DeckOk.nil 1 (by kernel_rfl)
end
end Go.TextN
