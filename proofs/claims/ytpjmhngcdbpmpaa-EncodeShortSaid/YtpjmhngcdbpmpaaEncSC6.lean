/- Functions, each told by its own run; and what follows from what they tell. -/
import Derived.KernelRfl
import Derived.Test.YtpjmhngcdbpmpaaEncSD
namespace Go.Sy
theorem chk1050 : chkMf Go.Proofs.Try.prog (cfL [] [] []) 300 p1050 d1050 l1050 = true := by kernel_rfl
theorem chk2100 : chkMf Go.Proofs.Try.prog (cfL [] [] []) 300 p2100 d2100 l2100 = true := by kernel_rfl
theorem chk2081 : chkMf Go.Proofs.Try.prog (cfL [] [] []) 300 p2081 d2081 l2081 = true := by kernel_rfl
theorem chk2062 : chkMf Go.Proofs.Try.prog (cfL [] [] []) 300 p2062 d2062 l2062 = true := by kernel_rfl
theorem chk9012 : chkMf Go.Proofs.Try.prog (cfL [] [] []) 300 p9012 d9012 l9012 = true := by kernel_rfl
theorem chk4050 : chkMf Go.Proofs.Try.prog (cfL [] [] []) 300 p4050 d4050 l4050 = true := by kernel_rfl
theorem chk3281 : chkMf Go.Proofs.Try.prog (cfL [] [] []) 300 p3281 d3281 l3281 = true := by kernel_rfl
theorem chk4101 : chkMf Go.Proofs.Try.prog (cfL [] [] []) 300 p4101 d4101 l4101 = true := by kernel_rfl
theorem chk4042 : chkMf Go.Proofs.Try.prog (cfL [] [] []) 300 p4042 d4042 l4042 = true := by kernel_rfl
theorem chk60000 : chkPf Go.Proofs.Try.prog (cfL [p8] [p1030, p2030, p3280, p3320, p4000] []) 300 q60000 d60000 l60000 = true := by kernel_rfl
theorem chk60020 : chkPf Go.Proofs.Try.prog (cfL [p8] [p1050, p2050, p3280, p3320, p4020] []) 300 q60020 d60020 l60020 = true := by kernel_rfl
theorem chk60040 : chkPf Go.Proofs.Try.prog (cfL [p8] [p1070, p2070, p3280, p3320, p4040] []) 300 q60040 d60040 l60040 = true := by kernel_rfl
theorem chk60060 : chkPf Go.Proofs.Try.prog (cfL [p8] [p1090, p2090, p3280, p3320, p4060] []) 300 q60060 d60060 l60060 = true := by kernel_rfl
theorem chk60080 : chkPf Go.Proofs.Try.prog (cfL [p8] [p1030, p2030, p3280, p3320, p4080] []) 300 q60080 d60080 l60080 = true := by kernel_rfl
theorem chk60100 : chkPf Go.Proofs.Try.prog (cfL [p8] [p1050, p2050, p3280, p3320, p4100] []) 300 q60100 d60100 l60100 = true := by kernel_rfl
theorem chk60120 : chkPf Go.Proofs.Try.prog (cfL [p8] [p1070, p2070, p3280, p3320, p4120] []) 300 q60120 d60120 l60120 = true := by kernel_rfl
theorem chk60141 : chkPf Go.Proofs.Try.prog (cfL [p8] [p1091, p2091, p3281, p3321, p4141] []) 300 q60141 d60141 l60141 = true := by kernel_rfl
end Go.Sy
