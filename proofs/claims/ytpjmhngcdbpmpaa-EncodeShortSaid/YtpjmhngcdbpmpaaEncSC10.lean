/- Functions, each told by its own run; and what follows from what they tell. -/
import Derived.KernelRfl
import Derived.Test.YtpjmhngcdbpmpaaEncSD
namespace Go.Sy
theorem chk1070 : chkMf Go.Proofs.Try.prog (cfL [] [] []) 300 p1070 d1070 l1070 = true := by kernel_rfl
theorem chk2041 : chkMf Go.Proofs.Try.prog (cfL [] [] []) 300 p2041 d2041 l2041 = true := by kernel_rfl
theorem chk2101 : chkMf Go.Proofs.Try.prog (cfL [] [] []) 300 p2101 d2101 l2101 = true := by kernel_rfl
theorem chk2082 : chkMf Go.Proofs.Try.prog (cfL [] [] []) 300 p2082 d2082 l2082 = true := by kernel_rfl
theorem chk3320 : chkMf Go.Proofs.Try.prog (cfL [] [] []) 300 p3320 d3320 l3320 = true := by kernel_rfl
theorem chk4090 : chkMf Go.Proofs.Try.prog (cfL [] [] []) 300 p4090 d4090 l4090 = true := by kernel_rfl
theorem chk4021 : chkMf Go.Proofs.Try.prog (cfL [] [] []) 300 p4021 d4021 l4021 = true := by kernel_rfl
theorem chk4141 : chkMf Go.Proofs.Try.prog (cfL [] [] []) 300 p4141 d4141 l4141 = true := by kernel_rfl
theorem chk4082 : chkMf Go.Proofs.Try.prog (cfL [] [] []) 300 p4082 d4082 l4082 = true := by kernel_rfl
theorem chk60010 : chkPf Go.Proofs.Try.prog (cfL [p8] [p1040, p2040, p3280, p3320, p4010] []) 300 q60010 d60010 l60010 = true := by kernel_rfl
theorem chk60030 : chkPf Go.Proofs.Try.prog (cfL [p8] [p1060, p2060, p3280, p3320, p4030] []) 300 q60030 d60030 l60030 = true := by kernel_rfl
theorem chk60050 : chkPf Go.Proofs.Try.prog (cfL [p8] [p1080, p2080, p3280, p3320, p4050] []) 300 q60050 d60050 l60050 = true := by kernel_rfl
theorem chk60070 : chkPf Go.Proofs.Try.prog (cfL [p8] [p1100, p2100, p3280, p3320, p4070] []) 300 q60070 d60070 l60070 = true := by kernel_rfl
theorem chk60090 : chkPf Go.Proofs.Try.prog (cfL [p8] [p1040, p2040, p3280, p3320, p4090] []) 300 q60090 d60090 l60090 = true := by kernel_rfl
theorem chk60110 : chkPf Go.Proofs.Try.prog (cfL [p8] [p1060, p2060, p3280, p3320, p4110] []) 300 q60110 d60110 l60110 = true := by kernel_rfl
theorem chk60130 : chkPf Go.Proofs.Try.prog (cfL [p8] [p1080, p2080, p3280, p3320, p4130] []) 300 q60130 d60130 l60130 = true := by kernel_rfl
theorem chk60151 : chkPf Go.Proofs.Try.prog (cfL [p8] [p1101, p2101, p3281, p3321, p4151] []) 300 q60151 d60151 l60151 = true := by kernel_rfl
end Go.Sy
