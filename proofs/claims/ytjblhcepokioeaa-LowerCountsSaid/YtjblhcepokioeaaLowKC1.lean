/- Functions, each told by its own run; and what follows from what they tell. -/
import Derived.KernelRfl
import Derived.Test.YtjblhcepokioeaaLowKD
namespace Go.Sy
theorem chk4008 : chkMf Go.Proofs.Try.prog (cfL [p5] [p7201, p4901, p5001] []) 300 q4008 d4008 l4008 = true := by kernel_rfl
theorem chk26 : chkPf Go.Proofs.Try.prog (cfL [p56] [] []) 300 p26 d26 l26 = true := by kernel_rfl
theorem chk4000 : chkMf Go.Proofs.Try.prog (cfL [p5] [p7201, p4901, p5001] []) 300 q4000 d4000 l4000 = true := by kernel_rfl
theorem chk4099 : chkMf Go.Proofs.Try.prog (cfL [p5] [] []) 300 q4099 d4099 l4099 = true := by kernel_rfl
end Go.Sy
