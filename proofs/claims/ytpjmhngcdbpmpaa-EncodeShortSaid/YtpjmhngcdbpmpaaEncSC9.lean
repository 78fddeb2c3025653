/- Functions, each told by its own run; and what follows from what they tell. -/
import Derived.KernelRfl
import Derived.Test.YtpjmhngcdbpmpaaEncSD
namespace Go.Sy
theorem chk2060 : chkMf Go.Proofs.Try.prog (cfL [] [] []) 300 p2060 d2060 l2060 = true := by kernel_rfl
theorem chk1041 : chkMf Go.Proofs.Try.prog (cfL [] [] []) 300 p1041 d1041 l1041 = true := by kernel_rfl
theorem chk1101 : chkMf Go.Proofs.Try.prog (cfL [] [] []) 300 p1101 d1101 l1101 = true := by kernel_rfl
theorem chk1082 : chkMf Go.Proofs.Try.prog (cfL [] [] []) 300 p1082 d1082 l1082 = true := by kernel_rfl
theorem chk3280 : chkMf Go.Proofs.Try.prog (cfL [] [] []) 300 p3280 d3280 l3280 = true := by kernel_rfl
theorem chk4080 : chkMf Go.Proofs.Try.prog (cfL [] [] []) 300 p4080 d4080 l4080 = true := by kernel_rfl
theorem chk4011 : chkMf Go.Proofs.Try.prog (cfL [] [] []) 300 p4011 d4011 l4011 = true := by kernel_rfl
theorem chk4131 : chkMf Go.Proofs.Try.prog (cfL [] [] []) 300 p4131 d4131 l4131 = true := by kernel_rfl
theorem chk4072 : chkMf Go.Proofs.Try.prog (cfL [] [] []) 300 p4072 d4072 l4072 = true := by kernel_rfl
theorem chk60003 : chkPf Go.Proofs.Try.prog (cfL [p8] [p1032, p2032, p3282, p3322, p4002] []) 300 q60003 d60003 l60003 = true := by kernel_rfl
theorem chk60023 : chkPf Go.Proofs.Try.prog (cfL [p8] [p1052, p2052, p3282, p3322, p4022] []) 300 q60023 d60023 l60023 = true := by kernel_rfl
theorem chk60043 : chkPf Go.Proofs.Try.prog (cfL [p8] [p1072, p2072, p3282, p3322, p4042] []) 300 q60043 d60043 l60043 = true := by kernel_rfl
theorem chk60063 : chkPf Go.Proofs.Try.prog (cfL [p8] [p1092, p2092, p3282, p3322, p4062] []) 300 q60063 d60063 l60063 = true := by kernel_rfl
theorem chk60083 : chkPf Go.Proofs.Try.prog (cfL [p8] [p1032, p2032, p3282, p3322, p4082] []) 300 q60083 d60083 l60083 = true := by kernel_rfl
theorem chk60103 : chkPf Go.Proofs.Try.prog (cfL [p8] [p1052, p2052, p3282, p3322, p4102] []) 300 q60103 d60103 l60103 = true := by kernel_rfl
theorem chk60123 : chkPf Go.Proofs.Try.prog (cfL [p8] [p1072, p2072, p3282, p3322, p4122] []) 300 q60123 d60123 l60123 = true := by kernel_rfl
theorem chk60150 : chkPf Go.Proofs.Try.prog (cfL [p8] [p1100, p2100, p3280, p3320, p4150] []) 300 q60150 d60150 l60150 = true := by kernel_rfl
end Go.Sy
