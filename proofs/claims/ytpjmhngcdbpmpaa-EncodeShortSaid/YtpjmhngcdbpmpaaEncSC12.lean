/- Functions, each told by its own run; and what follows from what they tell. -/
import Derived.KernelRfl
import Derived.Test.YtpjmhngcdbpmpaaEncSD
namespace Go.Sy
theorem chk1080 : chkMf Go.Proofs.Try.prog (cfL [] [] []) 300 p1080 d1080 l1080 = true := by kernel_rfl
theorem chk2051 : chkMf Go.Proofs.Try.prog (cfL [] [] []) 300 p2051 d2051 l2051 = true := by kernel_rfl
theorem chk2032 : chkMf Go.Proofs.Try.prog (cfL [] [] []) 300 p2032 d2032 l2032 = true := by kernel_rfl
theorem chk2092 : chkMf Go.Proofs.Try.prog (cfL [] [] []) 300 p2092 d2092 l2092 = true := by kernel_rfl
theorem chk4010 : chkMf Go.Proofs.Try.prog (cfL [] [] []) 300 p4010 d4010 l4010 = true := by kernel_rfl
theorem chk4110 : chkMf Go.Proofs.Try.prog (cfL [] [] []) 300 p4110 d4110 l4110 = true := by kernel_rfl
theorem chk4041 : chkMf Go.Proofs.Try.prog (cfL [] [] []) 300 p4041 d4041 l4041 = true := by kernel_rfl
theorem chk3282 : chkMf Go.Proofs.Try.prog (cfL [] [] []) 300 p3282 d3282 l3282 = true := by kernel_rfl
theorem chk4102 : chkMf Go.Proofs.Try.prog (cfL [] [] []) 300 p4102 d4102 l4102 = true := by kernel_rfl
theorem chk60012 : chkPf Go.Proofs.Try.prog (cfL [p8] [p1042, p2042, p3282, p3322, p4012] []) 300 q60012 d60012 l60012 = true := by kernel_rfl
theorem chk60032 : chkPf Go.Proofs.Try.prog (cfL [p8] [p1062, p2062, p3282, p3322, p4032] []) 300 q60032 d60032 l60032 = true := by kernel_rfl
theorem chk60052 : chkPf Go.Proofs.Try.prog (cfL [p8] [p1082, p2082, p3282, p3322, p4052] []) 300 q60052 d60052 l60052 = true := by kernel_rfl
theorem chk60072 : chkPf Go.Proofs.Try.prog (cfL [p8] [p1102, p2102, p3282, p3322, p4072] []) 300 q60072 d60072 l60072 = true := by kernel_rfl
theorem chk60092 : chkPf Go.Proofs.Try.prog (cfL [p8] [p1042, p2042, p3282, p3322, p4092] []) 300 q60092 d60092 l60092 = true := by kernel_rfl
theorem chk60112 : chkPf Go.Proofs.Try.prog (cfL [p8] [p1062, p2062, p3282, p3322, p4112] []) 300 q60112 d60112 l60112 = true := by kernel_rfl
theorem chk60132 : chkPf Go.Proofs.Try.prog (cfL [p8] [p1082, p2082, p3282, p3322, p4132] []) 300 q60132 d60132 l60132 = true := by kernel_rfl
theorem chk60153 : chkPf Go.Proofs.Try.prog (cfL [p8] [p1102, p2102, p3282, p3322, p4152] []) 300 q60153 d60153 l60153 = true := by kernel_rfl
end Go.Sy
