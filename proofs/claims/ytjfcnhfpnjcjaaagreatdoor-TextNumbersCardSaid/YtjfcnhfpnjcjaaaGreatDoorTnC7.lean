/- Calls of the program, each told by its own run. -/
import Derived.Test.YtjfcnhfpnjcjaaaGreatDoorTnB
namespace Go.TextN
open Go Go.Sy Go.E3
noncomputable section
set_option maxRecDepth 100000
theorem z_6 : CardOk P 3 (law 0 0 6) := CardOk.of deck_ok 1 (by kernel_rfl)
theorem d1_7 : CardOk P 3 (law 1 9 7) := CardOk.of deck_ok 1 (by kernel_rfl)
theorem d3_0 : CardOk P 3 (law 100 999 0) := CardOk.of deck_ok 1 (by kernel_rfl)
theorem d4_1 : CardOk P 3 (law 1000 9999 1) := CardOk.of deck_ok 1 (by kernel_rfl)
theorem d5_2 : CardOk P 3 (law 10000 99999 2) := CardOk.of deck_ok 1 (by kernel_rfl)
theorem d6_3 : CardOk P 3 (law 100000 999999 3) := CardOk.of deck_ok 1 (by kernel_rfl)
theorem d7_4 : CardOk P 3 (law 1000000 9999999 4) := CardOk.of deck_ok 1 (by kernel_rfl)
theorem d8_5 : CardOk P 3 (law 10000000 99999999 5) := CardOk.of deck_ok 1 (by kernel_rfl)
theorem d9_6 : CardOk P 3 (law 100000000 999999999 6) := CardOk.of deck_ok 1 (by kernel_rfl)
theorem d10_7 : CardOk P 3 (law 1000000000 2147483647 7) := CardOk.of deck_ok 1 (by kernel_rfl)
theorem m10_0 : CardOk P 3 (law 2147483649 3294967296 0) := CardOk.of deck_ok 1 (by kernel_rfl)
theorem m9_1 : CardOk P 3 (law 3294967297 4194967296 1) := CardOk.of deck_ok 1 (by kernel_rfl)
theorem m8_2 : CardOk P 3 (law 4194967297 4284967296 2) := CardOk.of deck_ok 1 (by kernel_rfl)
theorem m7_3 : CardOk P 3 (law 4284967297 4293967296 3) := CardOk.of deck_ok 1 (by kernel_rfl)
theorem m6_4 : CardOk P 3 (law 4293967297 4294867296 4) := CardOk.of deck_ok 1 (by kernel_rfl)
theorem m5_5 : CardOk P 3 (law 4294867297 4294957296 5) := CardOk.of deck_ok 1 (by kernel_rfl)
theorem m4_6 : CardOk P 3 (law 4294957297 4294966296 6) := CardOk.of deck_ok 1 (by kernel_rfl)
theorem m3_7 : CardOk P 3 (law 4294966297 4294967196 7) := CardOk.of deck_ok 1 (by kernel_rfl)
theorem m1_0 : CardOk P 3 (law 4294967287 4294967295 0) := CardOk.of deck_ok 1 (by kernel_rfl)
end
end Go.TextN
