/- Functions, each told by its own run; and what follows from what they tell. -/
import Derived.KernelRfl
import Derived.Test.YtlmlikonkfnfaaaLowQD
namespace Go.Sy
theorem chk3002 : chkPf Go.Proofs.Try.prog (cfL [p5] [p7009, p9009] []) 300 q3002 d3002 l3002 = true := by kernel_rfl
theorem chk19 : chkPf Go.Proofs.Try.prog (cfL [] [] []) 300 p19 d19 l19 = true := by kernel_rfl
theorem chk27 : chkPf Go.Proofs.Try.prog (cfL [] [] []) 300 p27 d27 l27 = true := by kernel_rfl
theorem chk1003 : chkMf Go.Proofs.Try.prog (cfL [p19] [] []) 300 p1003 d1003 l1003 = true := by kernel_rfl
theorem chk1009 : chkMf Go.Proofs.Try.prog (cfL [p19] [] []) 300 p1009 d1009 l1009 = true := by kernel_rfl
theorem chk1010 : chkMf Go.Proofs.Try.prog (cfL [p19] [] []) 300 p1010 d1010 l1010 = true := by kernel_rfl
theorem chk7003 : chkMf Go.Proofs.Try.prog (cfL [p88, p27] [p1003] []) 300 p7003 d7003 l7003 = true := by kernel_rfl
theorem chk7009 : chkMf Go.Proofs.Try.prog (cfL [p88, p27] [p1009] []) 300 p7009 d7009 l7009 = true := by kernel_rfl
theorem chk7010 : chkMf Go.Proofs.Try.prog (cfL [p88, p27] [p1010] []) 300 p7010 d7010 l7010 = true := by kernel_rfl
theorem chk49 : chkPf Go.Proofs.Try.prog (cfL [] [] []) 300 p49 d49 l49 = true := by kernel_rfl
theorem chk56 : chkPf Go.Proofs.Try.prog (cfL [p88] [] []) 300 p56 d56 l56 = true := by kernel_rfl
theorem chk71 : chkPf Go.Proofs.Try.prog (cfL [p49] [] []) 300 p71 d71 l71 = true := by kernel_rfl
theorem chk80 : chkPf Go.Proofs.Try.prog (cfL [] [] []) 300 p80 d80 l80 = true := by kernel_rfl
theorem chk9009 : chkMf Go.Proofs.Try.prog (cfL [p89, p80, p83] [] []) 300 p9009 d9009 l9009 = true := by kernel_rfl
end Go.Sy
