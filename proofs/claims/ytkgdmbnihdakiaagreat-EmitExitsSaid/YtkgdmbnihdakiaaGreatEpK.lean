/- Calls of the program, each told by its own run. -/
import Derived.Test.YtkgdmbnihdakiaaGreatEpD
namespace Go.RvC
open Go Go.Sy Go.E3
set_option maxRecDepth 100000
theorem known21_ok : CardOk P 40 known21 := CardOk.of deck1_ok 1 (by kernel_rfl)
noncomputable def deck21 : Deck := Tri.put deck1 (path 40) (some fun _ => [known21])
theorem deck21_ok : DeckOk P deck21 := DeckOk.put deck1_ok (one_ok known21_ok)
end Go.RvC
