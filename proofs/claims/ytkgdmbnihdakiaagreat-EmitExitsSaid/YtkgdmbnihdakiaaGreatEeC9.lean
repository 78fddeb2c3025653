/- Calls of the program, each told by its own run. -/
import Derived.Test.YtkgdmbnihdakiaaGreatEpK
import Derived.Test.YtkgdmbnihdakiaaGreatEeD
namespace Go.RvC
open Go Go.Sy Go.E3
set_option maxRecDepth 100000
theorem lawE9_1_0_0 : CardOk P 10 (lawE 9 true 0 0) := CardOk.of deck21_ok 1 (by kernel_rfl)
theorem lawE9_1_0_1 : CardOk P 10 (lawE 9 true 0 1) := CardOk.of deck21_ok 1 (by kernel_rfl)
theorem lawE9_1_0_2 : CardOk P 10 (lawE 9 true 0 2) := CardOk.of deck21_ok 1 (by kernel_rfl)
theorem lawE9_1_1_0 : CardOk P 10 (lawE 9 true 1 0) := CardOk.of deck21_ok 1 (by kernel_rfl)
theorem lawE9_1_1_1 : CardOk P 10 (lawE 9 true 1 1) := CardOk.of deck21_ok 1 (by kernel_rfl)
theorem lawE9_1_1_2 : CardOk P 10 (lawE 9 true 1 2) := CardOk.of deck21_ok 1 (by kernel_rfl)
theorem lawE9_1_2_0 : CardOk P 10 (lawE 9 true 2 0) := CardOk.of deck21_ok 1 (by kernel_rfl)
theorem lawE9_1_2_1 : CardOk P 10 (lawE 9 true 2 1) := CardOk.of deck21_ok 1 (by kernel_rfl)
theorem lawE9_1_2_2 : CardOk P 10 (lawE 9 true 2 2) := CardOk.of deck21_ok 1 (by kernel_rfl)
theorem lawE9_0_0_0 : CardOk P 10 (lawE 9 false 0 0) := CardOk.of deck21_ok 1 (by kernel_rfl)
theorem lawE9_0_0_1 : CardOk P 10 (lawE 9 false 0 1) := CardOk.of deck21_ok 1 (by kernel_rfl)
theorem lawE9_0_0_2 : CardOk P 10 (lawE 9 false 0 2) := CardOk.of deck21_ok 1 (by kernel_rfl)
theorem lawE9_0_1_0 : CardOk P 10 (lawE 9 false 1 0) := CardOk.of deck21_ok 1 (by kernel_rfl)
theorem lawE9_0_1_1 : CardOk P 10 (lawE 9 false 1 1) := CardOk.of deck21_ok 1 (by kernel_rfl)
theorem lawE9_0_1_2 : CardOk P 10 (lawE 9 false 1 2) := CardOk.of deck21_ok 1 (by kernel_rfl)
theorem lawE9_0_2_0 : CardOk P 10 (lawE 9 false 2 0) := CardOk.of deck21_ok 1 (by kernel_rfl)
theorem lawE9_0_2_1 : CardOk P 10 (lawE 9 false 2 1) := CardOk.of deck21_ok 1 (by kernel_rfl)
theorem lawE9_0_2_2 : CardOk P 10 (lawE 9 false 2 2) := CardOk.of deck21_ok 1 (by kernel_rfl)
end Go.RvC
