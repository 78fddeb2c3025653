/- Functions, each told by its own run; and what follows from what they tell. -/
import Derived.KernelRfl
import Derived.Test.YtpjmhngcdbpmpaaEncSD
namespace Go.Sy
theorem chk1030 : chkMf Go.Proofs.Try.prog (cfL [] [] []) 300 p1030 d1030 l1030 = true := by kernel_rfl
theorem chk2080 : chkMf Go.Proofs.Try.prog (cfL [] [] []) 300 p2080 d2080 l2080 = true := by kernel_rfl
theorem chk2061 : chkMf Go.Proofs.Try.prog (cfL [] [] []) 300 p2061 d2061 l2061 = true := by kernel_rfl
theorem chk2042 : chkMf Go.Proofs.Try.prog (cfL [] [] []) 300 p2042 d2042 l2042 = true := by kernel_rfl
theorem chk2102 : chkMf Go.Proofs.Try.prog (cfL [] [] []) 300 p2102 d2102 l2102 = true := by kernel_rfl
theorem chk4051 : chkMf Go.Proofs.Try.prog (cfL [] [] []) 300 p4051 d4051 l4051 = true := by kernel_rfl
theorem chk3322 : chkMf Go.Proofs.Try.prog (cfL [] [] []) 300 p3322 d3322 l3322 = true := by kernel_rfl
theorem chk4112 : chkMf Go.Proofs.Try.prog (cfL [] [] []) 300 p4112 d4112 l4112 = true := by kernel_rfl
theorem chk60013 : chkPf Go.Proofs.Try.prog (cfL [p8] [p1042, p2042, p3282, p3322, p4012] []) 300 q60013 d60013 l60013 = true := by kernel_rfl
theorem chk60033 : chkPf Go.Proofs.Try.prog (cfL [p8] [p1062, p2062, p3282, p3322, p4032] []) 300 q60033 d60033 l60033 = true := by kernel_rfl
theorem chk60053 : chkPf Go.Proofs.Try.prog (cfL [p8] [p1082, p2082, p3282, p3322, p4052] []) 300 q60053 d60053 l60053 = true := by kernel_rfl
theorem chk60073 : chkPf Go.Proofs.Try.prog (cfL [p8] [p1102, p2102, p3282, p3322, p4072] []) 300 q60073 d60073 l60073 = true := by kernel_rfl
theorem chk60093 : chkPf Go.Proofs.Try.prog (cfL [p8] [p1042, p2042, p3282, p3322, p4092] []) 300 q60093 d60093 l60093 = true := by kernel_rfl
theorem chk60113 : chkPf Go.Proofs.Try.prog (cfL [p8] [p1062, p2062, p3282, p3322, p4112] []) 300 q60113 d60113 l60113 = true := by kernel_rfl
theorem chk60140 : chkPf Go.Proofs.Try.prog (cfL [p8] [p1090, p2090, p3280, p3320, p4140] []) 300 q60140 d60140 l60140 = true := by kernel_rfl
end Go.Sy
