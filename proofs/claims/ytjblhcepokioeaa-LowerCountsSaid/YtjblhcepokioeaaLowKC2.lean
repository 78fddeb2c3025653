/- Functions, each told by its own run; and what follows from what they tell. -/
import Derived.KernelRfl
import Derived.Test.YtjblhcepokioeaaLowKD
namespace Go.Sy
theorem chk4007 : chkMf Go.Proofs.Try.prog (cfL [p5] [p7201, p4901, p5001] []) 300 q4007 d4007 l4007 = true := by kernel_rfl
theorem chk4001 : chkMf Go.Proofs.Try.prog (cfL [p5] [p7201, p4901, p5001] []) 300 q4001 d4001 l4001 = true := by kernel_rfl
theorem chk7201 : chkMf Go.Proofs.Try.prog (cfL [p88, p27] [p1001] []) 300 p7201 d7201 l7201 = true := by kernel_rfl
theorem chk1003 : chkMf Go.Proofs.Try.prog (cfL [p19] [] []) 300 p1003 d1003 l1003 = true := by kernel_rfl
theorem chk71 : chkPf Go.Proofs.Try.prog (cfL [p49] [] []) 300 p71 d71 l71 = true := by kernel_rfl
end Go.Sy
