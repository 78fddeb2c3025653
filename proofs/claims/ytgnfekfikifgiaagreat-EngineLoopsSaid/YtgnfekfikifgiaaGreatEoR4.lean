/- Calls of the program, each told by its own run. -/
import Derived.Test.YtgnfekfikifgiaaGreatGoE
namespace Go.RvC
open Go Go.Sy Go.E3
set_option maxRecDepth 100000
theorem lawM4t : CardOk P 3 (lawM 4 true) := CardOk.ofX deck25_ok (lx_ok _) 1 (by kernel_rfl)
theorem lawM4f : CardOk P 3 (lawM 4 false) := CardOk.ofX deck25_ok (lx_ok _) 1 (by kernel_rfl)
theorem lawM10t : CardOk P 3 (lawM 10 true) := CardOk.ofX deck25_ok (lx_ok _) 1 (by kernel_rfl)
theorem lawM10f : CardOk P 3 (lawM 10 false) := CardOk.ofX deck25_ok (lx_ok _) 1 (by kernel_rfl)
theorem lawM16t : CardOk P 3 (lawM 16 true) := CardOk.ofX deck25_ok (lx_ok _) 1 (by kernel_rfl)
theorem lawM16f : CardOk P 3 (lawM 16 false) := CardOk.ofX deck25_ok (lx_ok _) 1 (by kernel_rfl)
theorem lawM22t : CardOk P 3 (lawM 22 true) := CardOk.ofX deck25_ok (lx_ok _) 1 (by kernel_rfl)
theorem lawM22f : CardOk P 3 (lawM 22 false) := CardOk.ofX deck25_ok (lx_ok _) 1 (by kernel_rfl)
theorem lawM28t : CardOk P 3 (lawM 28 true) := CardOk.ofX deck25_ok (lx_ok _) 1 (by kernel_rfl)
theorem lawM28f : CardOk P 3 (lawM 28 false) := CardOk.ofX deck25_ok (lx_ok _) 1 (by kernel_rfl)
theorem lawM34t : CardOk P 3 (lawM 34 true) := CardOk.ofX deck25_ok (lx_ok _) 1 (by kernel_rfl)
theorem lawM34f : CardOk P 3 (lawM 34 false) := CardOk.ofX deck25_ok (lx_ok _) 1 (by kernel_rfl)
theorem lawM40t : CardOk P 3 (lawM 40 true) := CardOk.ofX deck25_ok (lx_ok _) 1 (by kernel_rfl)
theorem lawM40f : CardOk P 3 (lawM 40 false) := CardOk.ofX deck25_ok (lx_ok _) 1 (by kernel_rfl)
theorem lawM46t : CardOk P 3 (lawM 46 true) := CardOk.ofX deck25_ok (lx_ok _) 1 (by kernel_rfl)
theorem lawM46f : CardOk P 3 (lawM 46 false) := CardOk.ofX deck25_ok (lx_ok _) 1 (by kernel_rfl)
theorem lawM52t : CardOk P 3 (lawM 52 true) := CardOk.ofX deck25_ok (lx_ok _) 1 (by kernel_rfl)
theorem lawM52f : CardOk P 3 (lawM 52 false) := CardOk.ofX deck25_ok (lx_ok _) 1 (by kernel_rfl)
theorem lawM58t : CardOk P 3 (lawM 58 true) := CardOk.ofX deck25_ok (lx_ok _) 1 (by kernel_rfl)
theorem lawM58f : CardOk P 3 (lawM 58 false) := CardOk.ofX deck25_ok (lx_ok _) 1 (by kernel_rfl)
end Go.RvC
