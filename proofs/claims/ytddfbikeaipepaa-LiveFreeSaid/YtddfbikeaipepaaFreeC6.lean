/- Functions, each told by its own run; and what follows from what they tell. -/
import Derived.KernelRfl
import Derived.Test.YtddfbikeaipepaaFreeD
namespace Go.Sy
theorem chk7504 : chkMf Go.Proofs.Try.prog (cfL [p80, p83, p84, p85, p93] [p4077, p4079, p3077, p3177, p3079, p3179, p3076, p2068, p2168, p2268] []) 60 p7504 d7504 l7504 = true := by kernel_rfl
theorem chk7512 : chkMf Go.Proofs.Try.prog (cfL [p80, p83, p84, p85, p93] [p4077, p4079, p3077, p3177, p3079, p3179, p3076, p2068, p2168, p2268] []) 60 p7512 d7512 l7512 = true := by kernel_rfl
theorem chk7514 : chkMf Go.Proofs.Try.prog (cfL [p80, p83, p84, p85, p93] [p4077, p4079, p3077, p3177, p3079, p3179, p3076, p2068, p2168, p2268] []) 60 p7514 d7514 l7514 = true := by kernel_rfl
theorem chk7501 : chkMf Go.Proofs.Try.prog (cfL [p80, p83, p84, p85, p93] [p4077, p4079, p3077, p3177, p3079, p3179, p3076, p2068, p2168, p2268] []) 60 p7501 d7501 l7501 = true := by kernel_rfl
theorem chk7517 : chkMf Go.Proofs.Try.prog (cfL [p80, p83, p84, p85, p93] [p4077, p4079, p3077, p3177, p3079, p3179, p3076, p2068, p2168, p2268] []) 60 p7517 d7517 l7517 = true := by kernel_rfl
theorem chk7550 : chkMf Go.Proofs.Try.prog (cfL [p80, p83, p84, p85, p93] [p4077, p4079, p3077, p3177, p3079, p3179, p3076, p2068, p2168, p2268] []) 60 p7550 d7550 l7550 = true := by kernel_rfl
theorem chk7531 : chkMf Go.Proofs.Try.prog (cfL [p80, p83, p84, p85, p93] [p4077, p4079, p3077, p3177, p3079, p3179, p3076, p2068, p2168, p2268] []) 60 p7531 d7531 l7531 = true := by kernel_rfl
theorem chk16 : chkPf Go.Proofs.Try.prog (cfL [p32, p31, p30] [] []) 60 p16 d16 l16 = true := by kernel_rfl
theorem chk34 : chkPf Go.Proofs.Try.prog (cfL [p50] [] []) 60 p34 d34 l34 = true := by kernel_rfl
theorem chk1013 : chkMf Go.Proofs.Try.prog (cfL [p21] [] [s2013]) 60 p1013 d1013 l1013 = true := by kernel_rfl
theorem chk2095 : chkMf Go.Proofs.Try.prog (cfL [] [] []) 60 p2095 d2095 l2095 = true := by kernel_rfl
theorem chk53 : chkPf Go.Proofs.Try.prog (cfL [] [] []) 60 p53 d53 l53 = true := by kernel_rfl
theorem chk85 : chkPf Go.Proofs.Try.prog (cfL [] [] []) 60 p85 d85 l85 = true := by kernel_rfl
end Go.Sy
