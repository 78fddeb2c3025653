/- Calls of the program, each told by its own run. -/
import Derived.Test.YtjfcnhfpnjcjaaaGreatDoorTnB
namespace Go.TextN
open Go Go.Sy Go.E3
noncomputable section
set_option maxRecDepth 100000
theorem z_2 : CardOk P 3 (law 0 0 2) := CardOk.of deck_ok 1 (by kernel_rfl)
theorem d1_3 : CardOk P 3 (law 1 9 3) := CardOk.of deck_ok 1 (by kernel_rfl)
theorem d2_4 : CardOk P 3 (law 10 99 4) := CardOk.of deck_ok 1 (by kernel_rfl)
theorem d3_5 : CardOk P 3 (law 100 999 5) := CardOk.of deck_ok 1 (by kernel_rfl)
theorem d4_6 : CardOk P 3 (law 1000 9999 6) := CardOk.of deck_ok 1 (by kernel_rfl)
theorem d5_7 : CardOk P 3 (law 10000 99999 7) := CardOk.of deck_ok 1 (by kernel_rfl)
theorem d7_0 : CardOk P 3 (law 1000000 9999999 0) := CardOk.of deck_ok 1 (by kernel_rfl)
theorem d8_1 : CardOk P 3 (law 10000000 99999999 1) := CardOk.of deck_ok 1 (by kernel_rfl)
theorem d9_2 : CardOk P 3 (law 100000000 999999999 2) := CardOk.of deck_ok 1 (by kernel_rfl)
theorem d10_3 : CardOk P 3 (law 1000000000 2147483647 3) := CardOk.of deck_ok 1 (by kernel_rfl)
theorem h_4 : CardOk P 3 (law 2147483648 2147483648 4) := CardOk.of deck_ok 1 (by kernel_rfl)
theorem m10_5 : CardOk P 3 (law 2147483649 3294967296 5) := CardOk.of deck_ok 1 (by kernel_rfl)
theorem m9_6 : CardOk P 3 (law 3294967297 4194967296 6) := CardOk.of deck_ok 1 (by kernel_rfl)
theorem m8_7 : CardOk P 3 (law 4194967297 4284967296 7) := CardOk.of deck_ok 1 (by kernel_rfl)
theorem m6_0 : CardOk P 3 (law 4293967297 4294867296 0) := CardOk.of deck_ok 1 (by kernel_rfl)
theorem m5_1 : CardOk P 3 (law 4294867297 4294957296 1) := CardOk.of deck_ok 1 (by kernel_rfl)
theorem m4_2 : CardOk P 3 (law 4294957297 4294966296 2) := CardOk.of deck_ok 1 (by kernel_rfl)
theorem m3_3 : CardOk P 3 (law 4294966297 4294967196 3) := CardOk.of deck_ok 1 (by kernel_rfl)
theorem m2_4 : CardOk P 3 (law 4294967197 4294967286 4) := CardOk.of deck_ok 1 (by kernel_rfl)
theorem m1_5 : CardOk P 3 (law 4294967287 4294967295 5) := CardOk.of deck_ok 1 (by kernel_rfl)
end
end Go.TextN
