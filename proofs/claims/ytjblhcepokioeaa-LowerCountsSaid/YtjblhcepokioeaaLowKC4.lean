/- Functions, each told by its own run; and what follows from what they tell. -/
import Derived.KernelRfl
import Derived.Test.YtjblhcepokioeaaLowKD
namespace Go.Sy
theorem chk4005 : chkMf Go.Proofs.Try.prog (cfL [p5] [p7201, p4901, p5001] []) 300 q4005 d4005 l4005 = true := by kernel_rfl
theorem chk5 : chkPf Go.Proofs.Try.prog (cfL [p88, p27, p19, p49, p50] [p1003, p7003] []) 300 q5 d5 l5 = true := by kernel_rfl
theorem chk7003 : chkMf Go.Proofs.Try.prog (cfL [p88, p27] [p1003] []) 300 p7003 d7003 l7003 = true := by kernel_rfl
theorem chk27 : chkPf Go.Proofs.Try.prog (cfL [] [] []) 300 p27 d27 l27 = true := by kernel_rfl
theorem chk49 : chkPf Go.Proofs.Try.prog (cfL [] [] []) 300 p49 d49 l49 = true := by kernel_rfl
theorem chk4901 : chkMf Go.Proofs.Try.prog (cfL [] [] []) 300 p4901 d4901 l4901 = true := by kernel_rfl
end Go.Sy
