/- Functions, each told by its own run; and what follows from what they tell. -/
import Derived.KernelRfl
import Derived.Test.YtjblhcepokioeaaLowKD
namespace Go.Sy
theorem chk4006 : chkMf Go.Proofs.Try.prog (cfL [p5] [p7201, p4901, p5001] []) 300 q4006 d4006 l4006 = true := by kernel_rfl
theorem chk4002 : chkMf Go.Proofs.Try.prog (cfL [p5] [p7201, p4901, p5001] []) 300 q4002 d4002 l4002 = true := by kernel_rfl
theorem chk86 : chkPf Go.Proofs.Try.prog (cfL [p88] [] []) 300 p86 d86 l86 = true := by kernel_rfl
theorem chk19 : chkPf Go.Proofs.Try.prog (cfL [] [] []) 300 p19 d19 l19 = true := by kernel_rfl
theorem chk87 : chkPf Go.Proofs.Try.prog (cfL [] [] []) 300 p87 d87 l87 = true := by kernel_rfl
theorem chk72 : chkPf Go.Proofs.Try.prog (cfL [p86] [] []) 300 p72 d72 l72 = true := by kernel_rfl
theorem chk5001 : chkMf Go.Proofs.Try.prog (cfL [p87, p88] [] []) 300 p5001 d5001 l5001 = true := by kernel_rfl
end Go.Sy
