/- Calls of the program, each told by its own run. -/
import Derived.Test.YtjfcnhfpnjcjaaaGreatDoorTnB
namespace Go.TextN
open Go Go.Sy Go.E3
noncomputable section
set_option maxRecDepth 100000
theorem z_3 : CardOk P 3 (law 0 0 3) := CardOk.of deck_ok 1 (by kernel_rfl)
theorem d1_4 : CardOk P 3 (law 1 9 4) := CardOk.of deck_ok 1 (by kernel_rfl)
theorem d2_5 : CardOk P 3 (law 10 99 5) := CardOk.of deck_ok 1 (by kernel_rfl)
theorem d3_6 : CardOk P 3 (law 100 999 6) := CardOk.of deck_ok 1 (by kernel_rfl)
theorem d4_7 : CardOk P 3 (law 1000 9999 7) := CardOk.of deck_ok 1 (by kernel_rfl)
theorem d6_0 : CardOk P 3 (law 100000 999999 0) := CardOk.of deck_ok 1 (by kernel_rfl)
theorem d7_1 : CardOk P 3 (law 1000000 9999999 1) := CardOk.of deck_ok 1 (by kernel_rfl)
theorem d8_2 : CardOk P 3 (law 10000000 99999999 2) := CardOk.of deck_ok 1 (by kernel_rfl)
theorem d9_3 : CardOk P 3 (law 100000000 999999999 3) := CardOk.of deck_ok 1 (by kernel_rfl)
theorem d10_4 : CardOk P 3 (law 1000000000 2147483647 4) := CardOk.of deck_ok 1 (by kernel_rfl)
theorem h_5 : CardOk P 3 (law 2147483648 2147483648 5) := CardOk.of deck_ok 1 (by kernel_rfl)
theorem m10_6 : CardOk P 3 (law 2147483649 3294967296 6) := CardOk.of deck_ok 1 (by kernel_rfl)
theorem m9_7 : CardOk P 3 (law 3294967297 4194967296 7) := CardOk.of deck_ok 1 (by kernel_rfl)
theorem m7_0 : CardOk P 3 (law 4284967297 4293967296 0) := CardOk.of deck_ok 1 (by kernel_rfl)
theorem m6_1 : CardOk P 3 (law 4293967297 4294867296 1) := CardOk.of deck_ok 1 (by kernel_rfl)
theorem m5_2 : CardOk P 3 (law 4294867297 4294957296 2) := CardOk.of deck_ok 1 (by kernel_rfl)
theorem m4_3 : CardOk P 3 (law 4294957297 4294966296 3) := CardOk.of deck_ok 1 (by kernel_rfl)
theorem m3_4 : CardOk P 3 (law 4294966297 4294967196 4) := CardOk.of deck_ok 1 (by kernel_rfl)
theorem m2_5 : CardOk P 3 (law 4294967197 4294967286 5) := CardOk.of deck_ok 1 (by kernel_rfl)
theorem m1_6 : CardOk P 3 (law 4294967287 4294967295 6) := CardOk.of deck_ok 1 (by kernel_rfl)
end
end Go.TextN
