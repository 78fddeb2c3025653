/- Functions, each told by its own run; and what follows from what they tell. -/
import Derived.KernelRfl
import Derived.Test.YtpjmhngcdbpmpaaEncSD
namespace Go.Sy
theorem chk2030 : chkMf Go.Proofs.Try.prog (cfL [] [] []) 300 p2030 d2030 l2030 = true := by kernel_rfl
theorem chk1090 : chkMf Go.Proofs.Try.prog (cfL [] [] []) 300 p1090 d1090 l1090 = true := by kernel_rfl
theorem chk1071 : chkMf Go.Proofs.Try.prog (cfL [] [] []) 300 p1071 d1071 l1071 = true := by kernel_rfl
theorem chk1052 : chkMf Go.Proofs.Try.prog (cfL [] [] []) 300 p1052 d1052 l1052 = true := by kernel_rfl
theorem chk9001 : chkMf Go.Proofs.Try.prog (cfL [] [] []) 300 p9001 d9001 l9001 = true := by kernel_rfl
theorem chk4020 : chkMf Go.Proofs.Try.prog (cfL [] [] []) 300 p4020 d4020 l4020 = true := by kernel_rfl
theorem chk4130 : chkMf Go.Proofs.Try.prog (cfL [] [] []) 300 p4130 d4130 l4130 = true := by kernel_rfl
theorem chk4071 : chkMf Go.Proofs.Try.prog (cfL [] [] []) 300 p4071 d4071 l4071 = true := by kernel_rfl
theorem chk4012 : chkMf Go.Proofs.Try.prog (cfL [] [] []) 300 p4012 d4012 l4012 = true := by kernel_rfl
theorem chk4132 : chkMf Go.Proofs.Try.prog (cfL [] [] []) 300 p4132 d4132 l4132 = true := by kernel_rfl
end Go.Sy
