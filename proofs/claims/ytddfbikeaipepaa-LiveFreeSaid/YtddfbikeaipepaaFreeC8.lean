/- Functions, each told by its own run; and what follows from what they tell. -/
import Derived.KernelRfl
import Derived.Test.YtddfbikeaipepaaFreeD
namespace Go.Sy
theorem chk7507 : chkMf Go.Proofs.Try.prog (cfL [p80, p83, p84, p85, p93] [p4077, p4079, p3077, p3177, p3079, p3179, p3076, p2068, p2168, p2268] []) 60 p7507 d7507 l7507 = true := by kernel_rfl
theorem chk7515 : chkMf Go.Proofs.Try.prog (cfL [p80, p83, p84, p85, p93] [p4077, p4079, p3077, p3177, p3079, p3179, p3076, p2068, p2168, p2268] []) 60 p7515 d7515 l7515 = true := by kernel_rfl
theorem chk7510 : chkMf Go.Proofs.Try.prog (cfL [p80, p83, p84, p85, p93] [p4077, p4079, p3077, p3177, p3079, p3179, p3076, p2068, p2168, p2268] []) 60 p7510 d7510 l7510 = true := by kernel_rfl
theorem chk7519 : chkMf Go.Proofs.Try.prog (cfL [p80, p83, p84, p85, p93] [p4077, p4079, p3077, p3177, p3079, p3179, p3076, p2068, p2168, p2268] []) 60 p7519 d7519 l7519 = true := by kernel_rfl
theorem chk7542 : chkMf Go.Proofs.Try.prog (cfL [p80, p83, p84, p85, p93] [p4077, p4079, p3077, p3177, p3079, p3179, p3076, p2068, p2168, p2268] []) 60 p7542 d7542 l7542 = true := by kernel_rfl
theorem chk31 : chkPf Go.Proofs.Try.prog (cfL [p75] [] []) 60 p31 d31 l31 = true := by kernel_rfl
theorem chk3177 : chkMf Go.Proofs.Try.prog (cfL [] [p2192] []) 60 p3177 d3177 l3177 = true := by kernel_rfl
theorem chk7529 : chkMf Go.Proofs.Try.prog (cfL [p80, p83, p84, p85, p93] [p4077, p4079, p3077, p3177, p3079, p3179, p3076, p2068, p2168, p2268] []) 60 p7529 d7529 l7529 = true := by kernel_rfl
theorem chk7539 : chkMf Go.Proofs.Try.prog (cfL [p80, p83, p84, p85, p93] [p4077, p4079, p3077, p3177, p3079, p3179, p3076, p2068, p2168, p2268] []) 60 p7539 d7539 l7539 = true := by kernel_rfl
theorem chk2192 : chkMf Go.Proofs.Try.prog (cfL [] [] []) 60 p2192 d2192 l2192 = true := by kernel_rfl
theorem chk52 : chkPf Go.Proofs.Try.prog (cfL [] [] []) 60 p52 d52 l52 = true := by kernel_rfl
theorem chk1018 : chkMf Go.Proofs.Try.prog (cfL [] [p1014] []) 60 p1018 d1018 l1018 = true := by kernel_rfl
theorem chk44 : chkPf Go.Proofs.Try.prog (cfL [p72] [] []) 60 p44 d44 l44 = true := by kernel_rfl
end Go.Sy
