/- Calls of the program, each told by its own run. -/
import Derived.Test.YtgnfekfikifgiaaGreatGoE
namespace Go.RvC
open Go Go.Sy Go.E3
set_option maxRecDepth 100000
theorem lawM3t : CardOk P 3 (lawM 3 true) := CardOk.ofX deck25_ok (lx_ok _) 1 (by kernel_rfl)
theorem lawM3f : CardOk P 3 (lawM 3 false) := CardOk.ofX deck25_ok (lx_ok _) 1 (by kernel_rfl)
theorem lawM9t : CardOk P 3 (lawM 9 true) := CardOk.ofX deck25_ok (lx_ok _) 1 (by kernel_rfl)
theorem lawM9f : CardOk P 3 (lawM 9 false) := CardOk.ofX deck25_ok (lx_ok _) 1 (by kernel_rfl)
theorem lawM15t : CardOk P 3 (lawM 15 true) := CardOk.ofX deck25_ok (lx_ok _) 1 (by kernel_rfl)
theorem lawM15f : CardOk P 3 (lawM 15 false) := CardOk.ofX deck25_ok (lx_ok _) 1 (by kernel_rfl)
theorem lawM21t : CardOk P 3 (lawM 21 true) := CardOk.ofX deck25_ok (lx_ok _) 1 (by kernel_rfl)
theorem lawM21f : CardOk P 3 (lawM 21 false) := CardOk.ofX deck25_ok (lx_ok _) 1 (by kernel_rfl)
theorem lawM27t : CardOk P 3 (lawM 27 true) := CardOk.ofX deck25_ok (lx_ok _) 1 (by kernel_rfl)
theorem lawM27f : CardOk P 3 (lawM 27 false) := CardOk.ofX deck25_ok (lx_ok _) 1 (by kernel_rfl)
theorem lawM33t : CardOk P 3 (lawM 33 true) := CardOk.ofX deck25_ok (lx_ok _) 1 (by kernel_rfl)
theorem lawM33f : CardOk P 3 (lawM 33 false) := CardOk.ofX deck25_ok (lx_ok _) 1 (by kernel_rfl)
theorem lawM39t : CardOk P 3 (lawM 39 true) := CardOk.ofX deck25_ok (lx_ok _) 1 (by kernel_rfl)
theorem lawM39f : CardOk P 3 (lawM 39 false) := CardOk.ofX deck25_ok (lx_ok _) 1 (by kernel_rfl)
theorem lawM45t : CardOk P 3 (lawM 45 true) := CardOk.ofX deck25_ok (lx_ok _) 1 (by kernel_rfl)
theorem lawM45f : CardOk P 3 (lawM 45 false) := CardOk.ofX deck25_ok (lx_ok _) 1 (by kernel_rfl)
theorem lawM51t : CardOk P 3 (lawM 51 true) := CardOk.ofX deck25_ok (lx_ok _) 1 (by kernel_rfl)
theorem lawM51f : CardOk P 3 (lawM 51 false) := CardOk.ofX deck25_ok (lx_ok _) 1 (by kernel_rfl)
theorem lawM57t : CardOk P 3 (lawM 57 true) := CardOk.ofX deck25_ok (lx_ok _) 1 (by kernel_rfl)
theorem lawM57f : CardOk P 3 (lawM 57 false) := CardOk.ofX deck25_ok (lx_ok _) 1 (by kernel_rfl)
end Go.RvC
