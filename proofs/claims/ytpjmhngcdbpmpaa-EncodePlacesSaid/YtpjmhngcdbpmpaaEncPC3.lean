/- Functions, each told by its own run; and what follows from what they tell. -/
import Derived.KernelRfl
import Derived.Test.YtpjmhngcdbpmpaaEncPD
namespace Go.Sy
theorem chk101003 : chkMf Go.Proofs.Try.prog (cfL [] [] []) 300 p101003 d101003 l101003 = true := by kernel_rfl
theorem chk110001 : chkMf Go.Proofs.Try.prog (cfL [] [] []) 300 p110001 d110001 l110001 = true := by kernel_rfl
theorem chk111011 : chkMf Go.Proofs.Try.prog (cfL [] [] []) 300 p111011 d111011 l111011 = true := by kernel_rfl
theorem chk111031 : chkMf Go.Proofs.Try.prog (cfL [] [] []) 300 p111031 d111031 l111031 = true := by kernel_rfl
theorem chk121001 : chkMf Go.Proofs.Try.prog (cfL [] [] []) 300 p121001 d121001 l121001 = true := by kernel_rfl
theorem chk121021 : chkMf Go.Proofs.Try.prog (cfL [] [] []) 300 p121021 d121021 l121021 = true := by kernel_rfl
theorem chk130001 : chkMf Go.Proofs.Try.prog (cfL [] [] []) 300 p130001 d130001 l130001 = true := by kernel_rfl
theorem chk131011 : chkMf Go.Proofs.Try.prog (cfL [] [] []) 300 p131011 d131011 l131011 = true := by kernel_rfl
theorem chk131031 : chkMf Go.Proofs.Try.prog (cfL [] [] []) 300 p131031 d131031 l131031 = true := by kernel_rfl
theorem chk710003 : chkPf Go.Proofs.Try.prog (cfL [p8] [p110002] []) 300 q710003 d710003 l710003 = true := by kernel_rfl
theorem chk711003 : chkPf Go.Proofs.Try.prog (cfL [p8] [p110002] []) 300 q711003 d711003 l711003 = true := by kernel_rfl
theorem chk712003 : chkPf Go.Proofs.Try.prog (cfL [p8] [p111002] []) 300 q712003 d712003 l712003 = true := by kernel_rfl
theorem chk712014 : chkPf Go.Proofs.Try.prog (cfL [p8] [p111012] []) 300 q712014 d712014 l712014 = true := by kernel_rfl
theorem chk712030 : chkPf Go.Proofs.Try.prog (cfL [p8] [p111030] []) 300 q712030 d712030 l712030 = true := by kernel_rfl
theorem chk720001 : chkPf Go.Proofs.Try.prog (cfL [p8] [p120001] []) 300 q720001 d720001 l720001 = true := by kernel_rfl
theorem chk721002 : chkPf Go.Proofs.Try.prog (cfL [p8] [p120001] []) 300 q721002 d721002 l721002 = true := by kernel_rfl
theorem chk722003 : chkPf Go.Proofs.Try.prog (cfL [p8] [p121002] []) 300 q722003 d722003 l722003 = true := by kernel_rfl
theorem chk722014 : chkPf Go.Proofs.Try.prog (cfL [p8] [p121012] []) 300 q722014 d722014 l722014 = true := by kernel_rfl
theorem chk722030 : chkPf Go.Proofs.Try.prog (cfL [p8] [p121030] []) 300 q722030 d722030 l722030 = true := by kernel_rfl
theorem chk730001 : chkPf Go.Proofs.Try.prog (cfL [p8] [p130001] []) 300 q730001 d730001 l730001 = true := by kernel_rfl
theorem chk731002 : chkPf Go.Proofs.Try.prog (cfL [p8] [p130001] []) 300 q731002 d731002 l731002 = true := by kernel_rfl
theorem chk732003 : chkPf Go.Proofs.Try.prog (cfL [p8] [p131002] []) 300 q732003 d732003 l732003 = true := by kernel_rfl
theorem chk732014 : chkPf Go.Proofs.Try.prog (cfL [p8] [p131012] []) 300 q732014 d732014 l732014 = true := by kernel_rfl
theorem chk732030 : chkPf Go.Proofs.Try.prog (cfL [p8] [p131030] []) 300 q732030 d732030 l732030 = true := by kernel_rfl
end Go.Sy
