/- Calls of the program, each told by its own run. -/
import Derived.Test.YtgnfekfikifgiaaGreatGoE
namespace Go.RvC
open Go Go.Sy Go.E3
set_option maxRecDepth 100000
theorem lawM2t : CardOk P 3 (lawM 2 true) := CardOk.ofX deck25_ok (lx_ok _) 1 (by kernel_rfl)
theorem lawM2f : CardOk P 3 (lawM 2 false) := CardOk.ofX deck25_ok (lx_ok _) 1 (by kernel_rfl)
theorem lawM8t : CardOk P 3 (lawM 8 true) := CardOk.ofX deck25_ok (lx_ok _) 1 (by kernel_rfl)
theorem lawM8f : CardOk P 3 (lawM 8 false) := CardOk.ofX deck25_ok (lx_ok _) 1 (by kernel_rfl)
theorem lawM14t : CardOk P 3 (lawM 14 true) := CardOk.ofX deck25_ok (lx_ok _) 1 (by kernel_rfl)
theorem lawM14f : CardOk P 3 (lawM 14 false) := CardOk.ofX deck25_ok (lx_ok _) 1 (by kernel_rfl)
theorem lawM20t : CardOk P 3 (lawM 20 true) := CardOk.ofX deck25_ok (lx_ok _) 1 (by kernel_rfl)
theorem lawM20f : CardOk P 3 (lawM 20 false) := CardOk.ofX deck25_ok (lx_ok _) 1 (by kernel_rfl)
theorem lawM26t : CardOk P 3 (lawM 26 true) := CardOk.ofX deck25_ok (lx_ok _) 1 (by kernel_rfl)
theorem lawM26f : CardOk P 3 (lawM 26 false) := CardOk.ofX deck25_ok (lx_ok _) 1 (by kernel_rfl)
theorem lawM32t : CardOk P 3 (lawM 32 true) := CardOk.ofX deck25_ok (lx_ok _) 1 (by kernel_rfl)
theorem lawM32f : CardOk P 3 (lawM 32 false) := CardOk.ofX deck25_ok (lx_ok _) 1 (by kernel_rfl)
theorem lawM38t : CardOk P 3 (lawM 38 true) := CardOk.ofX deck25_ok (lx_ok _) 1 (by kernel_rfl)
theorem lawM38f : CardOk P 3 (lawM 38 false) := CardOk.ofX deck25_ok (lx_ok _) 1 (by kernel_rfl)
theorem lawM44t : CardOk P 3 (lawM 44 true) := CardOk.ofX deck25_ok (lx_ok _) 1 (by kernel_rfl)
theorem lawM44f : CardOk P 3 (lawM 44 false) := CardOk.ofX deck25_ok (lx_ok _) 1 (by kernel_rfl)
theorem lawM50t : CardOk P 3 (lawM 50 true) := CardOk.ofX deck25_ok (lx_ok _) 1 (by kernel_rfl)
theorem lawM50f : CardOk P 3 (lawM 50 false) := CardOk.ofX deck25_ok (lx_ok _) 1 (by kernel_rfl)
theorem lawM56t : CardOk P 3 (lawM 56 true) := CardOk.ofX deck25_ok (lx_ok _) 1 (by kernel_rfl)
theorem lawM56f : CardOk P 3 (lawM 56 false) := CardOk.ofX deck25_ok (lx_ok _) 1 (by kernel_rfl)
end Go.RvC
