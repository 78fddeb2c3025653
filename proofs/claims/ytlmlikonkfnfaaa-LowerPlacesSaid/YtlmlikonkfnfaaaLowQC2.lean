/- Functions, each told by its own run; and what follows from what they tell. -/
import Derived.KernelRfl
import Derived.Test.YtlmlikonkfnfaaaLowQD
namespace Go.Sy
theorem chk3001 : chkPf Go.Proofs.Try.prog (cfL [p5] [p7008, p9008] []) 300 q3001 d3001 l3001 = true := by kernel_rfl
theorem chk3005 : chkPf Go.Proofs.Try.prog (cfL [p5] [p7001] []) 300 q3005 d3005 l3005 = true := by kernel_rfl
theorem chk73 : chkPf Go.Proofs.Try.prog (cfL [p87, p88, p26] [] []) 300 p73 d73 l73 = true := by kernel_rfl
theorem chk89 : chkPf Go.Proofs.Try.prog (cfL [] [] []) 300 p89 d89 l89 = true := by kernel_rfl
theorem chk9008 : chkMf Go.Proofs.Try.prog (cfL [p89, p80, p83] [] []) 300 p9008 d9008 l9008 = true := by kernel_rfl
end Go.Sy
