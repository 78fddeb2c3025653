/- Functions, each told by its own run; and what follows from what they tell. -/
import Derived.KernelRfl
import Derived.Test.YtpjmhngcdbpmpaaEncSD
namespace Go.Sy
theorem chk8 : chkPf Go.Proofs.Try.prog (cfL [] [p9001, p9002, p9011, p9012, p9013, p9014] []) 300 q8 d8 l8 = true := by kernel_rfl
theorem chk1061 : chkMf Go.Proofs.Try.prog (cfL [] [] []) 300 p1061 d1061 l1061 = true := by kernel_rfl
theorem chk1042 : chkMf Go.Proofs.Try.prog (cfL [] [] []) 300 p1042 d1042 l1042 = true := by kernel_rfl
theorem chk1102 : chkMf Go.Proofs.Try.prog (cfL [] [] []) 300 p1102 d1102 l1102 = true := by kernel_rfl
theorem chk4120 : chkMf Go.Proofs.Try.prog (cfL [] [] []) 300 p4120 d4120 l4120 = true := by kernel_rfl
theorem chk4061 : chkMf Go.Proofs.Try.prog (cfL [] [] []) 300 p4061 d4061 l4061 = true := by kernel_rfl
theorem chk4002 : chkMf Go.Proofs.Try.prog (cfL [] [] []) 300 p4002 d4002 l4002 = true := by kernel_rfl
theorem chk4122 : chkMf Go.Proofs.Try.prog (cfL [] [] []) 300 p4122 d4122 l4122 = true := by kernel_rfl
theorem chk60133 : chkPf Go.Proofs.Try.prog (cfL [p8] [p1082, p2082, p3282, p3322, p4132] []) 300 q60133 d60133 l60133 = true := by kernel_rfl
end Go.Sy
