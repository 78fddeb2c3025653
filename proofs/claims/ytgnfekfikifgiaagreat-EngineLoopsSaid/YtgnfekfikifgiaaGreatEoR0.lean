/- Calls of the program, each told by its own run. -/
import Derived.Test.YtgnfekfikifgiaaGreatGoE
namespace Go.RvC
open Go Go.Sy Go.E3
set_option maxRecDepth 100000
theorem lawM0t : CardOk P 3 (lawM 0 true) := CardOk.ofX deck25_ok (lx_ok _) 1 (by kernel_rfl)
theorem lawM0f : CardOk P 3 (lawM 0 false) := CardOk.ofX deck25_ok (lx_ok _) 1 (by kernel_rfl)
theorem lawM6t : CardOk P 3 (lawM 6 true) := CardOk.ofX deck25_ok (lx_ok _) 1 (by kernel_rfl)
theorem lawM6f : CardOk P 3 (lawM 6 false) := CardOk.ofX deck25_ok (lx_ok _) 1 (by kernel_rfl)
theorem lawM12t : CardOk P 3 (lawM 12 true) := CardOk.ofX deck25_ok (lx_ok _) 1 (by kernel_rfl)
theorem lawM12f : CardOk P 3 (lawM 12 false) := CardOk.ofX deck25_ok (lx_ok _) 1 (by kernel_rfl)
theorem lawM18t : CardOk P 3 (lawM 18 true) := CardOk.ofX deck25_ok (lx_ok _) 1 (by kernel_rfl)
theorem lawM18f : CardOk P 3 (lawM 18 false) := CardOk.ofX deck25_ok (lx_ok _) 1 (by kernel_rfl)
theorem lawM24t : CardOk P 3 (lawM 24 true) := CardOk.ofX deck25_ok (lx_ok _) 1 (by kernel_rfl)
theorem lawM24f : CardOk P 3 (lawM 24 false) := CardOk.ofX deck25_ok (lx_ok _) 1 (by kernel_rfl)
theorem lawM30t : CardOk P 3 (lawM 30 true) := CardOk.ofX deck25_ok (lx_ok _) 1 (by kernel_rfl)
theorem lawM30f : CardOk P 3 (lawM 30 false) := CardOk.ofX deck25_ok (lx_ok _) 1 (by kernel_rfl)
theorem lawM36t : CardOk P 3 (lawM 36 true) := CardOk.ofX deck25_ok (lx_ok _) 1 (by kernel_rfl)
theorem lawM36f : CardOk P 3 (lawM 36 false) := CardOk.ofX deck25_ok (lx_ok _) 1 (by kernel_rfl)
theorem lawM42t : CardOk P 3 (lawM 42 true) := CardOk.ofX deck25_ok (lx_ok _) 1 (by kernel_rfl)
theorem lawM42f : CardOk P 3 (lawM 42 false) := CardOk.ofX deck25_ok (lx_ok _) 1 (by kernel_rfl)
theorem lawM48t : CardOk P 3 (lawM 48 true) := CardOk.ofX deck25_ok (lx_ok _) 1 (by kernel_rfl)
theorem lawM48f : CardOk P 3 (lawM 48 false) := CardOk.ofX deck25_ok (lx_ok _) 1 (by kernel_rfl)
theorem lawM54t : CardOk P 3 (lawM 54 true) := CardOk.ofX deck25_ok (lx_ok _) 1 (by kernel_rfl)
theorem lawM54f : CardOk P 3 (lawM 54 false) := CardOk.ofX deck25_ok (lx_ok _) 1 (by kernel_rfl)
end Go.RvC
