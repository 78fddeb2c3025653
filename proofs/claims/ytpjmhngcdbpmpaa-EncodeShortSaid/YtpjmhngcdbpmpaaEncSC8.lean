/- Functions, each told by its own run; and what follows from what they tell. -/
import Derived.KernelRfl
import Derived.Test.YtpjmhngcdbpmpaaEncSD
namespace Go.Sy
theorem chk1060 : chkMf Go.Proofs.Try.prog (cfL [] [] []) 300 p1060 d1060 l1060 = true := by kernel_rfl
theorem chk2031 : chkMf Go.Proofs.Try.prog (cfL [] [] []) 300 p2031 d2031 l2031 = true := by kernel_rfl
theorem chk2091 : chkMf Go.Proofs.Try.prog (cfL [] [] []) 300 p2091 d2091 l2091 = true := by kernel_rfl
theorem chk2072 : chkMf Go.Proofs.Try.prog (cfL [] [] []) 300 p2072 d2072 l2072 = true := by kernel_rfl
theorem chk9014 : chkMf Go.Proofs.Try.prog (cfL [] [] []) 300 p9014 d9014 l9014 = true := by kernel_rfl
theorem chk4070 : chkMf Go.Proofs.Try.prog (cfL [] [] []) 300 p4070 d4070 l4070 = true := by kernel_rfl
theorem chk4001 : chkMf Go.Proofs.Try.prog (cfL [] [] []) 300 p4001 d4001 l4001 = true := by kernel_rfl
theorem chk4121 : chkMf Go.Proofs.Try.prog (cfL [] [] []) 300 p4121 d4121 l4121 = true := by kernel_rfl
theorem chk4062 : chkMf Go.Proofs.Try.prog (cfL [] [] []) 300 p4062 d4062 l4062 = true := by kernel_rfl
theorem chk60002 : chkPf Go.Proofs.Try.prog (cfL [p8] [p1032, p2032, p3282, p3322, p4002] []) 300 q60002 d60002 l60002 = true := by kernel_rfl
theorem chk60022 : chkPf Go.Proofs.Try.prog (cfL [p8] [p1052, p2052, p3282, p3322, p4022] []) 300 q60022 d60022 l60022 = true := by kernel_rfl
theorem chk60042 : chkPf Go.Proofs.Try.prog (cfL [p8] [p1072, p2072, p3282, p3322, p4042] []) 300 q60042 d60042 l60042 = true := by kernel_rfl
theorem chk60062 : chkPf Go.Proofs.Try.prog (cfL [p8] [p1092, p2092, p3282, p3322, p4062] []) 300 q60062 d60062 l60062 = true := by kernel_rfl
theorem chk60082 : chkPf Go.Proofs.Try.prog (cfL [p8] [p1032, p2032, p3282, p3322, p4082] []) 300 q60082 d60082 l60082 = true := by kernel_rfl
theorem chk60102 : chkPf Go.Proofs.Try.prog (cfL [p8] [p1052, p2052, p3282, p3322, p4102] []) 300 q60102 d60102 l60102 = true := by kernel_rfl
theorem chk60122 : chkPf Go.Proofs.Try.prog (cfL [p8] [p1072, p2072, p3282, p3322, p4122] []) 300 q60122 d60122 l60122 = true := by kernel_rfl
theorem chk60143 : chkPf Go.Proofs.Try.prog (cfL [p8] [p1092, p2092, p3282, p3322, p4142] []) 300 q60143 d60143 l60143 = true := by kernel_rfl
end Go.Sy
