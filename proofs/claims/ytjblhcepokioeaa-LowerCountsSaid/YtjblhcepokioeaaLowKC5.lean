/- Functions, each told by its own run; and what follows from what they tell. -/
import Derived.KernelRfl
import Derived.Test.YtjblhcepokioeaaLowKD
namespace Go.Sy
theorem chk4004 : chkMf Go.Proofs.Try.prog (cfL [p5] [p7201, p4901, p5001] []) 300 q4004 d4004 l4004 = true := by kernel_rfl
theorem chk4003 : chkMf Go.Proofs.Try.prog (cfL [p5] [p7201, p4901, p5001] []) 300 q4003 d4003 l4003 = true := by kernel_rfl
theorem chk73 : chkPf Go.Proofs.Try.prog (cfL [p87, p88, p26] [] []) 300 p73 d73 l73 = true := by kernel_rfl
theorem chk56 : chkPf Go.Proofs.Try.prog (cfL [p88] [] []) 300 p56 d56 l56 = true := by kernel_rfl
theorem chk88 : chkPf Go.Proofs.Try.prog (cfL [] [] []) 300 p88 d88 l88 = true := by kernel_rfl
theorem chk1001 : chkMf Go.Proofs.Try.prog (cfL [p19] [] []) 300 p1001 d1001 l1001 = true := by kernel_rfl
theorem chk50 : chkPf Go.Proofs.Try.prog (cfL [p71, p72, p73] [] []) 300 p50 d50 l50 = true := by kernel_rfl
end Go.Sy
