/- Functions, each told by its own run; and what follows from what they tell. -/
import Derived.KernelRfl
import Derived.Test.YtpjmhngcdbpmpaaEncSD
namespace Go.Sy
theorem chk2070 : chkMf Go.Proofs.Try.prog (cfL [] [] []) 300 p2070 d2070 l2070 = true := by kernel_rfl
theorem chk1051 : chkMf Go.Proofs.Try.prog (cfL [] [] []) 300 p1051 d1051 l1051 = true := by kernel_rfl
theorem chk1032 : chkMf Go.Proofs.Try.prog (cfL [] [] []) 300 p1032 d1032 l1032 = true := by kernel_rfl
theorem chk1092 : chkMf Go.Proofs.Try.prog (cfL [] [] []) 300 p1092 d1092 l1092 = true := by kernel_rfl
theorem chk4000 : chkMf Go.Proofs.Try.prog (cfL [] [] []) 300 p4000 d4000 l4000 = true := by kernel_rfl
theorem chk4100 : chkMf Go.Proofs.Try.prog (cfL [] [] []) 300 p4100 d4100 l4100 = true := by kernel_rfl
theorem chk4031 : chkMf Go.Proofs.Try.prog (cfL [] [] []) 300 p4031 d4031 l4031 = true := by kernel_rfl
theorem chk4151 : chkMf Go.Proofs.Try.prog (cfL [] [] []) 300 p4151 d4151 l4151 = true := by kernel_rfl
theorem chk4092 : chkMf Go.Proofs.Try.prog (cfL [] [] []) 300 p4092 d4092 l4092 = true := by kernel_rfl
theorem chk60011 : chkPf Go.Proofs.Try.prog (cfL [p8] [p1041, p2041, p3281, p3321, p4011] []) 300 q60011 d60011 l60011 = true := by kernel_rfl
theorem chk60031 : chkPf Go.Proofs.Try.prog (cfL [p8] [p1061, p2061, p3281, p3321, p4031] []) 300 q60031 d60031 l60031 = true := by kernel_rfl
theorem chk60051 : chkPf Go.Proofs.Try.prog (cfL [p8] [p1081, p2081, p3281, p3321, p4051] []) 300 q60051 d60051 l60051 = true := by kernel_rfl
theorem chk60071 : chkPf Go.Proofs.Try.prog (cfL [p8] [p1101, p2101, p3281, p3321, p4071] []) 300 q60071 d60071 l60071 = true := by kernel_rfl
theorem chk60091 : chkPf Go.Proofs.Try.prog (cfL [p8] [p1041, p2041, p3281, p3321, p4091] []) 300 q60091 d60091 l60091 = true := by kernel_rfl
theorem chk60111 : chkPf Go.Proofs.Try.prog (cfL [p8] [p1061, p2061, p3281, p3321, p4111] []) 300 q60111 d60111 l60111 = true := by kernel_rfl
theorem chk60131 : chkPf Go.Proofs.Try.prog (cfL [p8] [p1081, p2081, p3281, p3321, p4131] []) 300 q60131 d60131 l60131 = true := by kernel_rfl
theorem chk60152 : chkPf Go.Proofs.Try.prog (cfL [p8] [p1102, p2102, p3282, p3322, p4152] []) 300 q60152 d60152 l60152 = true := by kernel_rfl
end Go.Sy
