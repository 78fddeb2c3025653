/- Calls of the program, each told by its own run. -/
import Derived.Test.YtkgdmbnihdakiaaGreatRdD
namespace Go.RvC
open Go Go.Sy Go.E3
set_option maxRecDepth 100000
theorem known22_ok : CardOk P 32 known22 := CardOk.of deck1_ok 1 (by kernel_rfl)
noncomputable def deck22 : Deck := Tri.put deck1 (path 32) (some fun _ => [known22])
theorem deck22_ok : DeckOk P deck22 := DeckOk.put deck1_ok (one_ok known22_ok)
end Go.RvC
