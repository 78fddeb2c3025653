/- Calls of the program, each told by its own run. -/
import Derived.Test.YtkgdmbnihdakiaaGreatRmC0
import Derived.Test.YtkgdmbnihdakiaaGreatRmC1
import Derived.Test.YtkgdmbnihdakiaaGreatRmC2
import Derived.Test.YtkgdmbnihdakiaaGreatRmC3
import Derived.Test.YtkgdmbnihdakiaaGreatRmC4
import Derived.Test.YtkgdmbnihdakiaaGreatRmC5
import Derived.Test.YtkgdmbnihdakiaaGreatRmC6
namespace Go.RvC
open Go Go.Sy Go.E3
theorem lawsM (n q : Nat) (hn : n < 7) (hq : q < 3) : CardOk P 6 (lawM n q) := by
  match n, hn with
  | 0, _ => match q, hq with
    | 0, _ => exact lawM0_0
    | 1, _ => exact lawM0_1
    | 2, _ => exact lawM0_2
  | 1, _ => match q, hq with
    | 0, _ => exact lawM1_0
    | 1, _ => exact lawM1_1
    | 2, _ => exact lawM1_2
  | 2, _ => match q, hq with
    | 0, _ => exact lawM2_0
    | 1, _ => exact lawM2_1
    | 2, _ => exact lawM2_2
  | 3, _ => match q, hq with
    | 0, _ => exact lawM3_0
    | 1, _ => exact lawM3_1
    | 2, _ => exact lawM3_2
  | 4, _ => match q, hq with
    | 0, _ => exact lawM4_0
    | 1, _ => exact lawM4_1
    | 2, _ => exact lawM4_2
  | 5, _ => match q, hq with
    | 0, _ => exact lawM5_0
    | 1, _ => exact lawM5_1
    | 2, _ => exact lawM5_2
  | 6, _ => match q, hq with
    | 0, _ => exact lawM6_0
    | 1, _ => exact lawM6_1
    | 2, _ => exact lawM6_2
end Go.RvC
