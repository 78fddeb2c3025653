/- Functions, each told by its own run; and what follows from what they tell. -/
import Derived.KernelRfl
import Derived.Test.YtpjmhngcdbpmpaaEncSD
namespace Go.Sy
theorem chk1040 : chkMf Go.Proofs.Try.prog (cfL [] [] []) 300 p1040 d1040 l1040 = true := by kernel_rfl
theorem chk2090 : chkMf Go.Proofs.Try.prog (cfL [] [] []) 300 p2090 d2090 l2090 = true := by kernel_rfl
theorem chk2071 : chkMf Go.Proofs.Try.prog (cfL [] [] []) 300 p2071 d2071 l2071 = true := by kernel_rfl
theorem chk2052 : chkMf Go.Proofs.Try.prog (cfL [] [] []) 300 p2052 d2052 l2052 = true := by kernel_rfl
theorem chk9002 : chkMf Go.Proofs.Try.prog (cfL [] [] []) 300 p9002 d9002 l9002 = true := by kernel_rfl
theorem chk4030 : chkMf Go.Proofs.Try.prog (cfL [] [] []) 300 p4030 d4030 l4030 = true := by kernel_rfl
theorem chk4140 : chkMf Go.Proofs.Try.prog (cfL [] [] []) 300 p4140 d4140 l4140 = true := by kernel_rfl
theorem chk4081 : chkMf Go.Proofs.Try.prog (cfL [] [] []) 300 p4081 d4081 l4081 = true := by kernel_rfl
theorem chk4022 : chkMf Go.Proofs.Try.prog (cfL [] [] []) 300 p4022 d4022 l4022 = true := by kernel_rfl
theorem chk4142 : chkMf Go.Proofs.Try.prog (cfL [] [] []) 300 p4142 d4142 l4142 = true := by kernel_rfl
end Go.Sy
