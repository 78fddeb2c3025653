/- Functions, each told by its own run; and what follows from what they tell. -/
import Derived.KernelRfl
import Derived.Test.YtddfbikeaipepaaFreeD
namespace Go.Sy
theorem chk7508 : chkMf Go.Proofs.Try.prog (cfL [p80, p83, p84, p85, p93] [p4077, p4079, p3077, p3177, p3079, p3179, p3076, p2068, p2168, p2268] []) 60 p7508 d7508 l7508 = true := by kernel_rfl
theorem chk7513 : chkMf Go.Proofs.Try.prog (cfL [p80, p83, p84, p85, p93] [p4077, p4079, p3077, p3177, p3079, p3179, p3076, p2068, p2168, p2268] []) 60 p7513 d7513 l7513 = true := by kernel_rfl
theorem chk7535 : chkMf Go.Proofs.Try.prog (cfL [p80, p83, p84, p85, p93] [p4077, p4079, p3077, p3177, p3079, p3179, p3076, p2068, p2168, p2268] []) 60 p7535 d7535 l7535 = true := by kernel_rfl
theorem chk7526 : chkMf Go.Proofs.Try.prog (cfL [p80, p83, p84, p85, p93] [p4077, p4079, p3077, p3177, p3079, p3179, p3076, p2068, p2168, p2268] []) 60 p7526 d7526 l7526 = true := by kernel_rfl
theorem chk7541 : chkMf Go.Proofs.Try.prog (cfL [p80, p83, p84, p85, p93] [p4077, p4079, p3077, p3177, p3079, p3179, p3076, p2068, p2168, p2268] []) 60 p7541 d7541 l7541 = true := by kernel_rfl
theorem chk7528 : chkMf Go.Proofs.Try.prog (cfL [p80, p83, p84, p85, p93] [p4077, p4079, p3077, p3177, p3079, p3179, p3076, p2068, p2168, p2268] []) 60 p7528 d7528 l7528 = true := by kernel_rfl
theorem chk7548 : chkMf Go.Proofs.Try.prog (cfL [p80, p83, p84, p85, p93] [p4077, p4079, p3077, p3177, p3079, p3179, p3076, p2068, p2168, p2268] []) 60 p7548 d7548 l7548 = true := by kernel_rfl
theorem chk7540 : chkMf Go.Proofs.Try.prog (cfL [p80, p83, p84, p85, p93] [p4077, p4079, p3077, p3177, p3079, p3179, p3076, p2068, p2168, p2268] []) 60 p7540 d7540 l7540 = true := by kernel_rfl
theorem chk27 : chkPf Go.Proofs.Try.prog (cfL [] [] []) 60 p27 d27 l27 = true := by kernel_rfl
theorem chk54 : chkPf Go.Proofs.Try.prog (cfL [] [] []) 60 p54 d54 l54 = true := by kernel_rfl
theorem chk2268 : chkMf Go.Proofs.Try.prog (cfL [] [] []) 60 p2268 d2268 l2268 = true := by kernel_rfl
theorem chk51 : chkPf Go.Proofs.Try.prog (cfL [p52, p54] [] []) 60 p51 d51 l51 = true := by kernel_rfl
theorem chk33 : chkPf Go.Proofs.Try.prog (cfL [p50] [] []) 60 p33 d33 l33 = true := by kernel_rfl
end Go.Sy
