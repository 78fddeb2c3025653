/- Calls of the program, each told by its own run. -/
import Derived.Test.YtgnfekfikifgiaaGreatElD
namespace Go.RvC
open Go Go.Sy Go.E3
set_option maxRecDepth 100000
theorem known25_ok : CardOk P 5 known25 := CardOk.ofX deck1_ok (xx_ok _) 1 (by kernel_rfl)
noncomputable def deck25 : Deck := Tri.put deck1 (path 5) (some fun _ => [known25])
theorem deck25_ok : DeckOk P deck25 := DeckOk.put deck1_ok (one_ok known25_ok)
end Go.RvC
