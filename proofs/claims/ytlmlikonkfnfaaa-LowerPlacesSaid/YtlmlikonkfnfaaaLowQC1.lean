/- Functions, each told by its own run; and what follows from what they tell. -/
import Derived.KernelRfl
import Derived.Test.YtlmlikonkfnfaaaLowQD
namespace Go.Sy
theorem chk3000 : chkPf Go.Proofs.Try.prog (cfL [p5] [p7003, p9003] []) 300 q3000 d3000 l3000 = true := by kernel_rfl
theorem chk3004 : chkPf Go.Proofs.Try.prog (cfL [p5] [p7010, p9010] []) 300 q3004 d3004 l3004 = true := by kernel_rfl
theorem chk26 : chkPf Go.Proofs.Try.prog (cfL [p56] [] []) 300 p26 d26 l26 = true := by kernel_rfl
theorem chk5 : chkPf Go.Proofs.Try.prog (cfL [p88, p27, p19, p49, p50] [p1003, p7003] []) 300 q5 d5 l5 = true := by kernel_rfl
theorem chk9003 : chkMf Go.Proofs.Try.prog (cfL [p89, p80, p83] [] []) 300 p9003 d9003 l9003 = true := by kernel_rfl
theorem chk9010 : chkMf Go.Proofs.Try.prog (cfL [p89, p80, p83] [] []) 300 p9010 d9010 l9010 = true := by kernel_rfl
end Go.Sy
