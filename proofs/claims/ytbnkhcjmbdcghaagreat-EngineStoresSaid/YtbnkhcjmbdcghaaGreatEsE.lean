/- Calls of the program, each told by its own run. -/
import Derived.Test.YtbnkhcjmbdcghaaGreatEsR00
import Derived.Test.YtbnkhcjmbdcghaaGreatEsR01
import Derived.Test.YtbnkhcjmbdcghaaGreatEsR02
import Derived.Test.YtbnkhcjmbdcghaaGreatEsR10
import Derived.Test.YtbnkhcjmbdcghaaGreatEsR11
import Derived.Test.YtbnkhcjmbdcghaaGreatEsR12
namespace Go.RvC
open Go Go.Sy Go.E3
theorem lawsS (s q : Nat) (hs : s < 2) (hq : q < 3) : CardOk P 3 (lawS s q) := by
  match s, hs with
  | 0, _ => match q, hq with
    | 0, _ => exact lawS00
    | 1, _ => exact lawS01
    | 2, _ => exact lawS02
  | 1, _ => match q, hq with
    | 0, _ => exact lawS10
    | 1, _ => exact lawS11
    | 2, _ => exact lawS12
end Go.RvC
