/- Calls of the program, each told by its own run. -/
import Derived.Test.YtkgdmbnihdakiaaGreatEpC00
import Derived.Test.YtkgdmbnihdakiaaGreatEpC01
import Derived.Test.YtkgdmbnihdakiaaGreatEpC10
import Derived.Test.YtkgdmbnihdakiaaGreatEpC11
import Derived.Test.YtkgdmbnihdakiaaGreatEpC20
import Derived.Test.YtkgdmbnihdakiaaGreatEpC21
import Derived.Test.YtkgdmbnihdakiaaGreatEpC30
import Derived.Test.YtkgdmbnihdakiaaGreatEpC31
import Derived.Test.YtkgdmbnihdakiaaGreatEpC40
import Derived.Test.YtkgdmbnihdakiaaGreatEpC41
import Derived.Test.YtkgdmbnihdakiaaGreatEpC50
import Derived.Test.YtkgdmbnihdakiaaGreatEpC51
import Derived.Test.YtkgdmbnihdakiaaGreatEpC60
import Derived.Test.YtkgdmbnihdakiaaGreatEpC61
import Derived.Test.YtkgdmbnihdakiaaGreatEpC70
import Derived.Test.YtkgdmbnihdakiaaGreatEpC71
namespace Go.RvC
open Go Go.Sy Go.E3
theorem lawsP (j q r : Nat) (hj : j < 8) (h : ways q r) : CardOk P 9 (lawP j q r) := by
  rcases h with ⟨rfl, rfl⟩ | ⟨rfl, rfl⟩ | ⟨rfl, rfl⟩ | ⟨rfl, rfl⟩ | ⟨rfl, rfl⟩ | ⟨rfl, rfl⟩
  · match j, hj with
    | 0, _ => exact lawP0_0_0
    | 1, _ => exact lawP1_0_0
    | 2, _ => exact lawP2_0_0
    | 3, _ => exact lawP3_0_0
    | 4, _ => exact lawP4_0_0
    | 5, _ => exact lawP5_0_0
    | 6, _ => exact lawP6_0_0
    | 7, _ => exact lawP7_0_0
  · match j, hj with
    | 0, _ => exact lawP0_0_2
    | 1, _ => exact lawP1_0_2
    | 2, _ => exact lawP2_0_2
    | 3, _ => exact lawP3_0_2
    | 4, _ => exact lawP4_0_2
    | 5, _ => exact lawP5_0_2
    | 6, _ => exact lawP6_0_2
    | 7, _ => exact lawP7_0_2
  · match j, hj with
    | 0, _ => exact lawP0_1_2
    | 1, _ => exact lawP1_1_2
    | 2, _ => exact lawP2_1_2
    | 3, _ => exact lawP3_1_2
    | 4, _ => exact lawP4_1_2
    | 5, _ => exact lawP5_1_2
    | 6, _ => exact lawP6_1_2
    | 7, _ => exact lawP7_1_2
  · match j, hj with
    | 0, _ => exact lawP0_2_0
    | 1, _ => exact lawP1_2_0
    | 2, _ => exact lawP2_2_0
    | 3, _ => exact lawP3_2_0
    | 4, _ => exact lawP4_2_0
    | 5, _ => exact lawP5_2_0
    | 6, _ => exact lawP6_2_0
    | 7, _ => exact lawP7_2_0
  · match j, hj with
    | 0, _ => exact lawP0_2_1
    | 1, _ => exact lawP1_2_1
    | 2, _ => exact lawP2_2_1
    | 3, _ => exact lawP3_2_1
    | 4, _ => exact lawP4_2_1
    | 5, _ => exact lawP5_2_1
    | 6, _ => exact lawP6_2_1
    | 7, _ => exact lawP7_2_1
  · match j, hj with
    | 0, _ => exact lawP0_2_2
    | 1, _ => exact lawP1_2_2
    | 2, _ => exact lawP2_2_2
    | 3, _ => exact lawP3_2_2
    | 4, _ => exact lawP4_2_2
    | 5, _ => exact lawP5_2_2
    | 6, _ => exact lawP6_2_2
    | 7, _ => exact lawP7_2_2
end Go.RvC
