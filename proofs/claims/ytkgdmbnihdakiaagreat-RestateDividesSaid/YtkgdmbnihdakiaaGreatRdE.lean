/- Calls of the program, each told by its own run. -/
import Derived.Test.YtkgdmbnihdakiaaGreatRdC00
import Derived.Test.YtkgdmbnihdakiaaGreatRdC01
import Derived.Test.YtkgdmbnihdakiaaGreatRdC02
import Derived.Test.YtkgdmbnihdakiaaGreatRdC03
import Derived.Test.YtkgdmbnihdakiaaGreatRdC04
import Derived.Test.YtkgdmbnihdakiaaGreatRdC05
import Derived.Test.YtkgdmbnihdakiaaGreatRdC10
import Derived.Test.YtkgdmbnihdakiaaGreatRdC11
import Derived.Test.YtkgdmbnihdakiaaGreatRdC12
import Derived.Test.YtkgdmbnihdakiaaGreatRdC13
import Derived.Test.YtkgdmbnihdakiaaGreatRdC14
import Derived.Test.YtkgdmbnihdakiaaGreatRdC15
namespace Go.RvC
open Go Go.Sy Go.E3
theorem lawsD (s j q : Nat) (hs : s < 2) (hj : j < 6) (hq : q < 3) : CardOk P 7 (lawD s j q) := by
  match s, hs with
  | 0, _ => match j, hj with
    | 0, _ => match q, hq with
      | 0, _ => exact lawD0_0_0
      | 1, _ => exact lawD0_0_1
      | 2, _ => exact lawD0_0_2
    | 1, _ => match q, hq with
      | 0, _ => exact lawD0_1_0
      | 1, _ => exact lawD0_1_1
      | 2, _ => exact lawD0_1_2
    | 2, _ => match q, hq with
      | 0, _ => exact lawD0_2_0
      | 1, _ => exact lawD0_2_1
      | 2, _ => exact lawD0_2_2
    | 3, _ => match q, hq with
      | 0, _ => exact lawD0_3_0
      | 1, _ => exact lawD0_3_1
      | 2, _ => exact lawD0_3_2
    | 4, _ => match q, hq with
      | 0, _ => exact lawD0_4_0
      | 1, _ => exact lawD0_4_1
      | 2, _ => exact lawD0_4_2
    | 5, _ => match q, hq with
      | 0, _ => exact lawD0_5_0
      | 1, _ => exact lawD0_5_1
      | 2, _ => exact lawD0_5_2
  | 1, _ => match j, hj with
    | 0, _ => match q, hq with
      | 0, _ => exact lawD1_0_0
      | 1, _ => exact lawD1_0_1
      | 2, _ => exact lawD1_0_2
    | 1, _ => match q, hq with
      | 0, _ => exact lawD1_1_0
      | 1, _ => exact lawD1_1_1
      | 2, _ => exact lawD1_1_2
    | 2, _ => match q, hq with
      | 0, _ => exact lawD1_2_0
      | 1, _ => exact lawD1_2_1
      | 2, _ => exact lawD1_2_2
    | 3, _ => match q, hq with
      | 0, _ => exact lawD1_3_0
      | 1, _ => exact lawD1_3_1
      | 2, _ => exact lawD1_3_2
    | 4, _ => match q, hq with
      | 0, _ => exact lawD1_4_0
      | 1, _ => exact lawD1_4_1
      | 2, _ => exact lawD1_4_2
    | 5, _ => match q, hq with
      | 0, _ => exact lawD1_5_0
      | 1, _ => exact lawD1_5_1
      | 2, _ => exact lawD1_5_2
end Go.RvC
