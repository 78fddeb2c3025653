/- Functions, each told by its own run; and what follows from what they tell. -/
import Derived.KernelRfl
import Derived.Test.YtlmlikonkfnfaaaLowQD
namespace Go.Sy
theorem chk3003 : chkPf Go.Proofs.Try.prog (cfL [p5] [p7005, p9005] []) 300 q3003 d3003 l3003 = true := by kernel_rfl
theorem chk88 : chkPf Go.Proofs.Try.prog (cfL [] [] []) 300 p88 d88 l88 = true := by kernel_rfl
theorem chk87 : chkPf Go.Proofs.Try.prog (cfL [] [] []) 300 p87 d87 l87 = true := by kernel_rfl
theorem chk1008 : chkMf Go.Proofs.Try.prog (cfL [p19] [] []) 300 p1008 d1008 l1008 = true := by kernel_rfl
theorem chk1005 : chkMf Go.Proofs.Try.prog (cfL [p19] [] []) 300 p1005 d1005 l1005 = true := by kernel_rfl
theorem chk1001 : chkMf Go.Proofs.Try.prog (cfL [p19] [] []) 300 p1001 d1001 l1001 = true := by kernel_rfl
theorem chk7008 : chkMf Go.Proofs.Try.prog (cfL [p88, p27] [p1008] []) 300 p7008 d7008 l7008 = true := by kernel_rfl
theorem chk7005 : chkMf Go.Proofs.Try.prog (cfL [p88, p27] [p1005] []) 300 p7005 d7005 l7005 = true := by kernel_rfl
theorem chk7001 : chkMf Go.Proofs.Try.prog (cfL [p88, p27] [p1001] []) 300 p7001 d7001 l7001 = true := by kernel_rfl
theorem chk86 : chkPf Go.Proofs.Try.prog (cfL [p88] [] []) 300 p86 d86 l86 = true := by kernel_rfl
theorem chk72 : chkPf Go.Proofs.Try.prog (cfL [p86] [] []) 300 p72 d72 l72 = true := by kernel_rfl
theorem chk50 : chkPf Go.Proofs.Try.prog (cfL [p71, p72, p73] [] []) 300 p50 d50 l50 = true := by kernel_rfl
theorem chk83 : chkPf Go.Proofs.Try.prog (cfL [] [] []) 300 p83 d83 l83 = true := by kernel_rfl
theorem chk9005 : chkMf Go.Proofs.Try.prog (cfL [p89, p80, p83] [] []) 300 p9005 d9005 l9005 = true := by kernel_rfl
end Go.Sy
