/- Calls of the program, each told by its own run. -/
import Derived.Test.YtgnfekfikifgiaaGreatGoE
namespace Go.RvC
open Go Go.Sy Go.E3
set_option maxRecDepth 100000
theorem lawM5t : CardOk P 3 (lawM 5 true) := CardOk.ofX deck25_ok (lx_ok _) 1 (by kernel_rfl)
theorem lawM5f : CardOk P 3 (lawM 5 false) := CardOk.ofX deck25_ok (lx_ok _) 1 (by kernel_rfl)
theorem lawM11t : CardOk P 3 (lawM 11 true) := CardOk.ofX deck25_ok (lx_ok _) 1 (by kernel_rfl)
theorem lawM11f : CardOk P 3 (lawM 11 false) := CardOk.ofX deck25_ok (lx_ok _) 1 (by kernel_rfl)
theorem lawM17t : CardOk P 3 (lawM 17 true) := CardOk.ofX deck25_ok (lx_ok _) 1 (by kernel_rfl)
theorem lawM17f : CardOk P 3 (lawM 17 false) := CardOk.ofX deck25_ok (lx_ok _) 1 (by kernel_rfl)
theorem lawM23t : CardOk P 3 (lawM 23 true) := CardOk.ofX deck25_ok (lx_ok _) 1 (by kernel_rfl)
theorem lawM23f : CardOk P 3 (lawM 23 false) := CardOk.ofX deck25_ok (lx_ok _) 1 (by kernel_rfl)
theorem lawM29t : CardOk P 3 (lawM 29 true) := CardOk.ofX deck25_ok (lx_ok _) 1 (by kernel_rfl)
theorem lawM29f : CardOk P 3 (lawM 29 false) := CardOk.ofX deck25_ok (lx_ok _) 1 (by kernel_rfl)
theorem lawM35t : CardOk P 3 (lawM 35 true) := CardOk.ofX deck25_ok (lx_ok _) 1 (by kernel_rfl)
theorem lawM35f : CardOk P 3 (lawM 35 false) := CardOk.ofX deck25_ok (lx_ok _) 1 (by kernel_rfl)
theorem lawM41t : CardOk P 3 (lawM 41 true) := CardOk.ofX deck25_ok (lx_ok _) 1 (by kernel_rfl)
theorem lawM41f : CardOk P 3 (lawM 41 false) := CardOk.ofX deck25_ok (lx_ok _) 1 (by kernel_rfl)
theorem lawM47t : CardOk P 3 (lawM 47 true) := CardOk.ofX deck25_ok (lx_ok _) 1 (by kernel_rfl)
theorem lawM47f : CardOk P 3 (lawM 47 false) := CardOk.ofX deck25_ok (lx_ok _) 1 (by kernel_rfl)
theorem lawM53t : CardOk P 3 (lawM 53 true) := CardOk.ofX deck25_ok (lx_ok _) 1 (by kernel_rfl)
theorem lawM53f : CardOk P 3 (lawM 53 false) := CardOk.ofX deck25_ok (lx_ok _) 1 (by kernel_rfl)
theorem lawM59t : CardOk P 3 (lawM 59 true) := CardOk.ofX deck25_ok (lx_ok _) 1 (by kernel_rfl)
theorem lawM59f : CardOk P 3 (lawM 59 false) := CardOk.ofX deck25_ok (lx_ok _) 1 (by kernel_rfl)
end Go.RvC
