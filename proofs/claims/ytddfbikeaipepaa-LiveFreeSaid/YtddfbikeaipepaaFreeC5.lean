/- Functions, each told by its own run; and what follows from what they tell. -/
import Derived.KernelRfl
import Derived.Test.YtddfbikeaipepaaFreeD
namespace Go.Sy
theorem chk7503 : chkMf Go.Proofs.Try.prog (cfL [p80, p83, p84, p85, p93] [p4077, p4079, p3077, p3177, p3079, p3179, p3076, p2068, p2168, p2268] []) 60 p7503 d7503 l7503 = true := by kernel_rfl
theorem chk7523 : chkMf Go.Proofs.Try.prog (cfL [p80, p83, p84, p85, p93] [p4077, p4079, p3077, p3177, p3079, p3179, p3076, p2068, p2168, p2268] []) 60 p7523 d7523 l7523 = true := by kernel_rfl
theorem chk7521 : chkMf Go.Proofs.Try.prog (cfL [p80, p83, p84, p85, p93] [p4077, p4079, p3077, p3177, p3079, p3179, p3076, p2068, p2168, p2268] []) 60 p7521 d7521 l7521 = true := by kernel_rfl
theorem chk7537 : chkMf Go.Proofs.Try.prog (cfL [p80, p83, p84, p85, p93] [p4077, p4079, p3077, p3177, p3079, p3179, p3076, p2068, p2168, p2268] []) 60 p7537 d7537 l7537 = true := by kernel_rfl
theorem chk7533 : chkMf Go.Proofs.Try.prog (cfL [p80, p83, p84, p85, p93] [p4077, p4079, p3077, p3177, p3079, p3179, p3076, p2068, p2168, p2268] []) 60 p7533 d7533 l7533 = true := by kernel_rfl
theorem chk7547 : chkMf Go.Proofs.Try.prog (cfL [p80, p83, p84, p85, p93] [p4077, p4079, p3077, p3177, p3079, p3179, p3076, p2068, p2168, p2268] []) 60 p7547 d7547 l7547 = true := by kernel_rfl
theorem chk21 : chkPf Go.Proofs.Try.prog (cfL [p35] [] []) 60 p21 d21 l21 = true := by kernel_rfl
theorem chk7538 : chkMf Go.Proofs.Try.prog (cfL [p80, p83, p84, p85, p93] [p4077, p4079, p3077, p3177, p3079, p3179, p3076, p2068, p2168, p2268] []) 60 p7538 d7538 l7538 = true := by kernel_rfl
theorem chk24 : chkPf Go.Proofs.Try.prog (cfL [] [] []) 60 p24 d24 l24 = true := by kernel_rfl
theorem chk2092 : chkMf Go.Proofs.Try.prog (cfL [] [] []) 60 p2092 d2092 l2092 = true := by kernel_rfl
theorem chk2195 : chkMf Go.Proofs.Try.prog (cfL [] [] []) 60 p2195 d2195 l2195 = true := by kernel_rfl
theorem chk83 : chkPf Go.Proofs.Try.prog (cfL [] [] []) 60 p83 d83 l83 = true := by kernel_rfl
theorem chk56 : chkPf Go.Proofs.Try.prog (cfL [] [] []) 60 p56 d56 l56 = true := by kernel_rfl
end Go.Sy
