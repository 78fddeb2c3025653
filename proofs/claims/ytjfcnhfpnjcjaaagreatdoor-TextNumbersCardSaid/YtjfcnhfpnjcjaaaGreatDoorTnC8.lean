/- Calls of the program, each told by its own run. -/
import Derived.Test.YtjfcnhfpnjcjaaaGreatDoorTnB
namespace Go.TextN
open Go Go.Sy Go.E3
noncomputable section
set_option maxRecDepth 100000
theorem z_7 : CardOk P 3 (law 0 0 7) := CardOk.of deck_ok 1 (by kernel_rfl)
theorem d2_0 : CardOk P 3 (law 10 99 0) := CardOk.of deck_ok 1 (by kernel_rfl)
theorem d3_1 : CardOk P 3 (law 100 999 1) := CardOk.of deck_ok 1 (by kernel_rfl)
theorem d4_2 : CardOk P 3 (law 1000 9999 2) := CardOk.of deck_ok 1 (by kernel_rfl)
theorem d5_3 : CardOk P 3 (law 10000 99999 3) := CardOk.of deck_ok 1 (by kernel_rfl)
theorem d6_4 : CardOk P 3 (law 100000 999999 4) := CardOk.of deck_ok 1 (by kernel_rfl)
theorem d7_5 : CardOk P 3 (law 1000000 9999999 5) := CardOk.of deck_ok 1 (by kernel_rfl)
theorem d8_6 : CardOk P 3 (law 10000000 99999999 6) := CardOk.of deck_ok 1 (by kernel_rfl)
theorem d9_7 : CardOk P 3 (law 100000000 999999999 7) := CardOk.of deck_ok 1 (by kernel_rfl)
theorem h_0 : CardOk P 3 (law 2147483648 2147483648 0) := CardOk.of deck_ok 1 (by kernel_rfl)
theorem m10_1 : CardOk P 3 (law 2147483649 3294967296 1) := CardOk.of deck_ok 1 (by kernel_rfl)
theorem m9_2 : CardOk P 3 (law 3294967297 4194967296 2) := CardOk.of deck_ok 1 (by kernel_rfl)
theorem m8_3 : CardOk P 3 (law 4194967297 4284967296 3) := CardOk.of deck_ok 1 (by kernel_rfl)
theorem m7_4 : CardOk P 3 (law 4284967297 4293967296 4) := CardOk.of deck_ok 1 (by kernel_rfl)
theorem m6_5 : CardOk P 3 (law 4293967297 4294867296 5) := CardOk.of deck_ok 1 (by kernel_rfl)
theorem m5_6 : CardOk P 3 (law 4294867297 4294957296 6) := CardOk.of deck_ok 1 (by kernel_rfl)
theorem m4_7 : CardOk P 3 (law 4294957297 4294966296 7) := CardOk.of deck_ok 1 (by kernel_rfl)
theorem m2_0 : CardOk P 3 (law 4294967197 4294967286 0) := CardOk.of deck_ok 1 (by kernel_rfl)
theorem m1_1 : CardOk P 3 (law 4294967287 4294967295 1) := CardOk.of deck_ok 1 (by kernel_rfl)
end
end Go.TextN
