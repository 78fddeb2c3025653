/- Functions, each told by its own run; and what follows from what they tell. -/
import Derived.KernelRfl
import Derived.Test.YtddfbikeaipepaaFreeD
namespace Go.Sy
theorem chk7527 : chkMf Go.Proofs.Try.prog (cfL [p80, p83, p84, p85, p93] [p4077, p4079, p3077, p3177, p3079, p3179, p3076, p2068, p2168, p2268] []) 60 p7527 d7527 l7527 = true := by kernel_rfl
theorem chk7525 : chkMf Go.Proofs.Try.prog (cfL [p80, p83, p84, p85, p93] [p4077, p4079, p3077, p3177, p3079, p3179, p3076, p2068, p2168, p2268] []) 60 p7525 d7525 l7525 = true := by kernel_rfl
theorem chk7518 : chkMf Go.Proofs.Try.prog (cfL [p80, p83, p84, p85, p93] [p4077, p4079, p3077, p3177, p3079, p3179, p3076, p2068, p2168, p2268] []) 60 p7518 d7518 l7518 = true := by kernel_rfl
theorem chk7502 : chkMf Go.Proofs.Try.prog (cfL [p80, p83, p84, p85, p93] [p4077, p4079, p3077, p3177, p3079, p3179, p3076, p2068, p2168, p2268] []) 60 p7502 d7502 l7502 = true := by kernel_rfl
theorem chk7536 : chkMf Go.Proofs.Try.prog (cfL [p80, p83, p84, p85, p93] [p4077, p4079, p3077, p3177, p3079, p3179, p3076, p2068, p2168, p2268] []) 60 p7536 d7536 l7536 = true := by kernel_rfl
theorem chk7545 : chkMf Go.Proofs.Try.prog (cfL [p80, p83, p84, p85, p93] [p4077, p4079, p3077, p3177, p3079, p3179, p3076, p2068, p2168, p2268] []) 60 p7545 d7545 l7545 = true := by kernel_rfl
theorem chk7532 : chkMf Go.Proofs.Try.prog (cfL [p80, p83, p84, p85, p93] [p4077, p4079, p3077, p3177, p3079, p3179, p3076, p2068, p2168, p2268] []) 60 p7532 d7532 l7532 = true := by kernel_rfl
theorem chk7544 : chkMf Go.Proofs.Try.prog (cfL [p80, p83, p84, p85, p93] [p4077, p4079, p3077, p3177, p3079, p3179, p3076, p2068, p2168, p2268] []) 60 p7544 d7544 l7544 = true := by kernel_rfl
theorem chk19 : chkPf Go.Proofs.Try.prog (cfL [] [] []) 60 p19 d19 l19 = true := by kernel_rfl
theorem chk4077 : chkMf Go.Proofs.Try.prog (cfL [] [p2092] []) 60 p4077 d4077 l4077 = true := by kernel_rfl
theorem chk29 : chkPf Go.Proofs.Try.prog (cfL [p48, p44, p16] [] []) 60 p29 d29 l29 = true := by kernel_rfl
theorem chk2168 : chkMf Go.Proofs.Try.prog (cfL [] [] []) 60 p2168 d2168 l2168 = true := by kernel_rfl
theorem chk55 : chkPf Go.Proofs.Try.prog (cfL [p53] [] []) 60 p55 d55 l55 = true := by kernel_rfl
theorem chk84 : chkPf Go.Proofs.Try.prog (cfL [] [] []) 60 p84 d84 l84 = true := by kernel_rfl
end Go.Sy
