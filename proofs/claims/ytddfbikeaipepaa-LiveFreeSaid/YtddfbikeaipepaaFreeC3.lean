/- Functions, each told by its own run; and what follows from what they tell. -/
import Derived.KernelRfl
import Derived.Test.YtddfbikeaipepaaFreeD
namespace Go.Sy
theorem chk7505 : chkMf Go.Proofs.Try.prog (cfL [p80, p83, p84, p85, p93] [p4077, p4079, p3077, p3177, p3079, p3179, p3076, p2068, p2168, p2268] []) 60 p7505 d7505 l7505 = true := by kernel_rfl
theorem chk7524 : chkMf Go.Proofs.Try.prog (cfL [p80, p83, p84, p85, p93] [p4077, p4079, p3077, p3177, p3079, p3179, p3076, p2068, p2168, p2268] []) 60 p7524 d7524 l7524 = true := by kernel_rfl
theorem chk7520 : chkMf Go.Proofs.Try.prog (cfL [p80, p83, p84, p85, p93] [p4077, p4079, p3077, p3177, p3079, p3179, p3076, p2068, p2168, p2268] []) 60 p7520 d7520 l7520 = true := by kernel_rfl
theorem chk7534 : chkMf Go.Proofs.Try.prog (cfL [p80, p83, p84, p85, p93] [p4077, p4079, p3077, p3177, p3079, p3179, p3076, p2068, p2168, p2268] []) 60 p7534 d7534 l7534 = true := by kernel_rfl
theorem chk7530 : chkMf Go.Proofs.Try.prog (cfL [p80, p83, p84, p85, p93] [p4077, p4079, p3077, p3177, p3079, p3179, p3076, p2068, p2168, p2268] []) 60 p7530 d7530 l7530 = true := by kernel_rfl
theorem chk7546 : chkMf Go.Proofs.Try.prog (cfL [p80, p83, p84, p85, p93] [p4077, p4079, p3077, p3177, p3079, p3179, p3076, p2068, p2168, p2268] []) 60 p7546 d7546 l7546 = true := by kernel_rfl
theorem chk7553 : chkMf Go.Proofs.Try.prog (cfL [p80, p83, p84, p85, p93] [p4077, p4079, p3077, p3177, p3079, p3179, p3076, p2068, p2168, p2268] []) 60 p7553 d7553 l7553 = true := by kernel_rfl
theorem chk7543 : chkMf Go.Proofs.Try.prog (cfL [p80, p83, p84, p85, p93] [p4077, p4079, p3077, p3177, p3079, p3179, p3076, p2068, p2168, p2268] []) 60 p7543 d7543 l7543 = true := by kernel_rfl
theorem chk7552 : chkMf Go.Proofs.Try.prog (cfL [p80, p83, p84, p85, p93] [p4077, p4079, p3077, p3177, p3079, p3179, p3076, p2068, p2168, p2268] []) 60 p7552 d7552 l7552 = true := by kernel_rfl
theorem chk1014 : chkMf Go.Proofs.Try.prog (cfL [p27, p29] [] [s2014]) 60 p1014 d1014 l1014 = true := by kernel_rfl
theorem chk2068 : chkMf Go.Proofs.Try.prog (cfL [] [] []) 60 p2068 d2068 l2068 = true := by kernel_rfl
theorem chk80 : chkPf Go.Proofs.Try.prog (cfL [] [] []) 60 p80 d80 l80 = true := by kernel_rfl
theorem chk48 : chkPf Go.Proofs.Try.prog (cfL [p27] [] []) 60 p48 d48 l48 = true := by kernel_rfl
end Go.Sy
