/- Calls of the program, each told by its own run. -/
import Derived.Test.YthmadmhnpkhndaaGreatDoorTwC1
import Derived.Test.YthmadmhnpkhndaaGreatDoorTwC2
import Derived.Test.YthmadmhnpkhndaaGreatDoorTwC3
import Derived.Test.YthmadmhnpkhndaaGreatDoorTwC4
import Derived.Test.YthmadmhnpkhndaaGreatDoorTwC5
import Derived.Test.YthmadmhnpkhndaaGreatDoorTwC6
import Derived.Test.YthmadmhnpkhndaaGreatDoorTwC7
namespace Go.TextW
open Go Go.Sy Go.E3
noncomputable section
theorem laws (k j : Nat) (hk : k < 14) (hj : j < 5) : CardOk P 7 (law k j) := by
  match k, hk with
  | 0, _ => match j, hj with
    | 0, _ => exact law0_0
    | 1, _ => exact law0_1
    | 2, _ => exact law0_2
    | 3, _ => exact law0_3
    | 4, _ => exact law0_4
  | 1, _ => match j, hj with
    | 0, _ => exact law1_0
    | 1, _ => exact law1_1
    | 2, _ => exact law1_2
    | 3, _ => exact law1_3
    | 4, _ => exact law1_4
  | 2, _ => match j, hj with
    | 0, _ => exact law2_0
    | 1, _ => exact law2_1
    | 2, _ => exact law2_2
    | 3, _ => exact law2_3
    | 4, _ => exact law2_4
  | 3, _ => match j, hj with
    | 0, _ => exact law3_0
    | 1, _ => exact law3_1
    | 2, _ => exact law3_2
    | 3, _ => exact law3_3
    | 4, _ => exact law3_4
  | 4, _ => match j, hj with
    | 0, _ => exact law4_0
    | 1, _ => exact law4_1
    | 2, _ => exact law4_2
    | 3, _ => exact law4_3
    | 4, _ => exact law4_4
  | 5, _ => match j, hj with
    | 0, _ => exact law5_0
    | 1, _ => exact law5_1
    | 2, _ => exact law5_2
    | 3, _ => exact law5_3
    | 4, _ => exact law5_4
  | 6, _ => match j, hj with
    | 0, _ => exact law6_0
    | 1, _ => exact law6_1
    | 2, _ => exact law6_2
    | 3, _ => exact law6_3
    | 4, _ => exact law6_4
  | 7, _ => match j, hj with
    | 0, _ => exact law7_0
    | 1, _ => exact law7_1
    | 2, _ => exact law7_2
    | 3, _ => exact law7_3
    | 4, _ => exact law7_4
  | 8, _ => match j, hj with
    | 0, _ => exact law8_0
    | 1, _ => exact law8_1
    | 2, _ => exact law8_2
    | 3, _ => exact law8_3
    | 4, _ => exact law8_4
  | 9, _ => match j, hj with
    | 0, _ => exact law9_0
    | 1, _ => exact law9_1
    | 2, _ => exact law9_2
    | 3, _ => exact law9_3
    | 4, _ => exact law9_4
  | 10, _ => match j, hj with
    | 0, _ => exact law10_0
    | 1, _ => exact law10_1
    | 2, _ => exact law10_2
    | 3, _ => exact law10_3
    | 4, _ => exact law10_4
  | 11, _ => match j, hj with
    | 0, _ => exact law11_0
    | 1, _ => exact law11_1
    | 2, _ => exact law11_2
    | 3, _ => exact law11_3
    | 4, _ => exact law11_4
  | 12, _ => match j, hj with
    | 0, _ => exact law12_0
    | 1, _ => exact law12_1
    | 2, _ => exact law12_2
    | 3, _ => exact law12_3
    | 4, _ => exact law12_4
  | 13, _ => match j, hj with
    | 0, _ => exact law13_0
    | 1, _ => exact law13_1
    | 2, _ => exact law13_2
    | 3, _ => exact law13_3
    | 4, _ => exact law13_4
end
end Go.TextW
