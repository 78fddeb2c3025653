/- Functions, each told by its own run; and what follows from what they tell. -/
import Derived.KernelRfl
import Derived.Test.YtpjmhngcdbpmpaaEncSD
namespace Go.Sy
theorem chk2040 : chkMf Go.Proofs.Try.prog (cfL [] [] []) 300 p2040 d2040 l2040 = true := by kernel_rfl
theorem chk1100 : chkMf Go.Proofs.Try.prog (cfL [] [] []) 300 p1100 d1100 l1100 = true := by kernel_rfl
theorem chk1081 : chkMf Go.Proofs.Try.prog (cfL [] [] []) 300 p1081 d1081 l1081 = true := by kernel_rfl
theorem chk1062 : chkMf Go.Proofs.Try.prog (cfL [] [] []) 300 p1062 d1062 l1062 = true := by kernel_rfl
theorem chk9011 : chkMf Go.Proofs.Try.prog (cfL [] [] []) 300 p9011 d9011 l9011 = true := by kernel_rfl
theorem chk4040 : chkMf Go.Proofs.Try.prog (cfL [] [] []) 300 p4040 d4040 l4040 = true := by kernel_rfl
theorem chk4150 : chkMf Go.Proofs.Try.prog (cfL [] [] []) 300 p4150 d4150 l4150 = true := by kernel_rfl
theorem chk4091 : chkMf Go.Proofs.Try.prog (cfL [] [] []) 300 p4091 d4091 l4091 = true := by kernel_rfl
theorem chk4032 : chkMf Go.Proofs.Try.prog (cfL [] [] []) 300 p4032 d4032 l4032 = true := by kernel_rfl
theorem chk4152 : chkMf Go.Proofs.Try.prog (cfL [] [] []) 300 p4152 d4152 l4152 = true := by kernel_rfl
end Go.Sy
