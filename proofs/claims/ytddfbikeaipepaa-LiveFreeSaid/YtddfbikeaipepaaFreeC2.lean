/- Functions, each told by its own run; and what follows from what they tell. -/
import Derived.KernelRfl
import Derived.Test.YtddfbikeaipepaaFreeD
namespace Go.Sy
theorem chk7506 : chkMf Go.Proofs.Try.prog (cfL [p80, p83, p84, p85, p93] [p4077, p4079, p3077, p3177, p3079, p3179, p3076, p2068, p2168, p2268] []) 60 p7506 d7506 l7506 = true := by kernel_rfl
theorem chk7509 : chkMf Go.Proofs.Try.prog (cfL [p80, p83, p84, p85, p93] [p4077, p4079, p3077, p3177, p3079, p3179, p3076, p2068, p2168, p2268] []) 60 p7509 d7509 l7509 = true := by kernel_rfl
theorem chk7511 : chkMf Go.Proofs.Try.prog (cfL [p80, p83, p84, p85, p93] [p4077, p4079, p3077, p3177, p3079, p3179, p3076, p2068, p2168, p2268] []) 60 p7511 d7511 l7511 = true := by kernel_rfl
theorem chk50 : chkPf Go.Proofs.Try.prog (cfL [] [] []) 60 p50 d50 l50 = true := by kernel_rfl
theorem chk3179 : chkMf Go.Proofs.Try.prog (cfL [] [p2195] []) 60 p3179 d3179 l3179 = true := by kernel_rfl
theorem chk7516 : chkMf Go.Proofs.Try.prog (cfL [p80, p83, p84, p85, p93] [p4077, p4079, p3077, p3177, p3079, p3179, p3076, p2068, p2168, p2268] []) 60 p7516 d7516 l7516 = true := by kernel_rfl
theorem chk93 : chkPf Go.Proofs.Try.prog (cfL [] [] []) 60 p93 d93 l93 = true := by kernel_rfl
theorem chk3077 : chkMf Go.Proofs.Try.prog (cfL [] [p2092] []) 60 p3077 d3077 l3077 = true := by kernel_rfl
theorem chk7551 : chkMf Go.Proofs.Try.prog (cfL [p80, p83, p84, p85, p93] [p4077, p4079, p3077, p3177, p3079, p3179, p3076, p2068, p2168, p2268] []) 60 p7551 d7551 l7551 = true := by kernel_rfl
theorem chk17 : chkPf Go.Proofs.Try.prog (cfL [p33] [] []) 60 p17 d17 l17 = true := by kernel_rfl
theorem chk30 : chkPf Go.Proofs.Try.prog (cfL [p31] [] []) 60 p30 d30 l30 = true := by kernel_rfl
theorem chk20 : chkPf Go.Proofs.Try.prog (cfL [p34] [] []) 60 p20 d20 l20 = true := by kernel_rfl
end Go.Sy
