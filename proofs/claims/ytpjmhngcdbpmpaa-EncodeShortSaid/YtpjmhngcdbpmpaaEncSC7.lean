/- Functions, each told by its own run; and what follows from what they tell. -/
import Derived.KernelRfl
import Derived.Test.YtpjmhngcdbpmpaaEncSD
namespace Go.Sy
theorem chk2050 : chkMf Go.Proofs.Try.prog (cfL [] [] []) 300 p2050 d2050 l2050 = true := by kernel_rfl
theorem chk1031 : chkMf Go.Proofs.Try.prog (cfL [] [] []) 300 p1031 d1031 l1031 = true := by kernel_rfl
theorem chk1091 : chkMf Go.Proofs.Try.prog (cfL [] [] []) 300 p1091 d1091 l1091 = true := by kernel_rfl
theorem chk1072 : chkMf Go.Proofs.Try.prog (cfL [] [] []) 300 p1072 d1072 l1072 = true := by kernel_rfl
theorem chk9013 : chkMf Go.Proofs.Try.prog (cfL [] [] []) 300 p9013 d9013 l9013 = true := by kernel_rfl
theorem chk4060 : chkMf Go.Proofs.Try.prog (cfL [] [] []) 300 p4060 d4060 l4060 = true := by kernel_rfl
theorem chk3321 : chkMf Go.Proofs.Try.prog (cfL [] [] []) 300 p3321 d3321 l3321 = true := by kernel_rfl
theorem chk4111 : chkMf Go.Proofs.Try.prog (cfL [] [] []) 300 p4111 d4111 l4111 = true := by kernel_rfl
theorem chk4052 : chkMf Go.Proofs.Try.prog (cfL [] [] []) 300 p4052 d4052 l4052 = true := by kernel_rfl
theorem chk60001 : chkPf Go.Proofs.Try.prog (cfL [p8] [p1031, p2031, p3281, p3321, p4001] []) 300 q60001 d60001 l60001 = true := by kernel_rfl
theorem chk60021 : chkPf Go.Proofs.Try.prog (cfL [p8] [p1051, p2051, p3281, p3321, p4021] []) 300 q60021 d60021 l60021 = true := by kernel_rfl
theorem chk60041 : chkPf Go.Proofs.Try.prog (cfL [p8] [p1071, p2071, p3281, p3321, p4041] []) 300 q60041 d60041 l60041 = true := by kernel_rfl
theorem chk60061 : chkPf Go.Proofs.Try.prog (cfL [p8] [p1091, p2091, p3281, p3321, p4061] []) 300 q60061 d60061 l60061 = true := by kernel_rfl
theorem chk60081 : chkPf Go.Proofs.Try.prog (cfL [p8] [p1031, p2031, p3281, p3321, p4081] []) 300 q60081 d60081 l60081 = true := by kernel_rfl
theorem chk60101 : chkPf Go.Proofs.Try.prog (cfL [p8] [p1051, p2051, p3281, p3321, p4101] []) 300 q60101 d60101 l60101 = true := by kernel_rfl
theorem chk60121 : chkPf Go.Proofs.Try.prog (cfL [p8] [p1071, p2071, p3281, p3321, p4121] []) 300 q60121 d60121 l60121 = true := by kernel_rfl
theorem chk60142 : chkPf Go.Proofs.Try.prog (cfL [p8] [p1092, p2092, p3282, p3322, p4142] []) 300 q60142 d60142 l60142 = true := by kernel_rfl
end Go.Sy
