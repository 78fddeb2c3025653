/- Functions, each told by its own run; and what follows from what they tell. -/
import Derived.KernelRfl
import Derived.Test.YtddfbikeaipepaaFreeD
namespace Go.Sy
theorem chk7 : chkMf Go.Proofs.Try.prog (cfL [p12, p19, p24] [p1013, p2022, p1018] [s2007, s2107]) 60 q7 d7 l7 = true := by kernel_rfl
theorem chk7522 : chkMf Go.Proofs.Try.prog (cfL [p80, p83, p84, p85, p93] [p4077, p4079, p3077, p3177, p3079, p3179, p3076, p2068, p2168, p2268] []) 60 p7522 d7522 l7522 = true := by kernel_rfl
theorem chk7554 : chkMf Go.Proofs.Try.prog (cfL [p80, p83, p84, p85, p93] [p4077, p4079, p3077, p3177, p3079, p3179, p3076, p2068, p2168, p2268] []) 60 p7554 d7554 l7554 = true := by kernel_rfl
theorem chk12 : chkPf Go.Proofs.Try.prog (cfL [p27, p29, p16] [] []) 60 q12 d12 l12 = true := by kernel_rfl
theorem chk72 : chkPf Go.Proofs.Try.prog (cfL [p75] [] []) 60 p72 d72 l72 = true := by kernel_rfl
theorem chk7549 : chkMf Go.Proofs.Try.prog (cfL [p80, p83, p84, p85, p93] [p4077, p4079, p3077, p3177, p3079, p3179, p3076, p2068, p2168, p2268] []) 60 p7549 d7549 l7549 = true := by kernel_rfl
theorem chk3079 : chkMf Go.Proofs.Try.prog (cfL [] [p2095] []) 60 p3079 d3079 l3079 = true := by kernel_rfl
theorem chk4079 : chkMf Go.Proofs.Try.prog (cfL [] [p2095] []) 60 p4079 d4079 l4079 = true := by kernel_rfl
theorem chk3076 : chkMf Go.Proofs.Try.prog (cfL [] [p2068] []) 60 p3076 d3076 l3076 = true := by kernel_rfl
theorem chk75 : chkPf Go.Proofs.Try.prog (cfL [] [] []) 60 p75 d75 l75 = true := by kernel_rfl
theorem chk32 : chkPf Go.Proofs.Try.prog (cfL [] [] []) 60 p32 d32 l32 = true := by kernel_rfl
end Go.Sy
