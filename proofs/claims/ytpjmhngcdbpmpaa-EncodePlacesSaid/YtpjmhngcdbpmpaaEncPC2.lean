/- Functions, each told by its own run; and what follows from what they tell. -/
import Derived.KernelRfl
import Derived.Test.YtpjmhngcdbpmpaaEncPD
namespace Go.Sy
theorem chk100003 : chkMf Go.Proofs.Try.prog (cfL [] [] []) 300 p100003 d100003 l100003 = true := by kernel_rfl
theorem chk110000 : chkMf Go.Proofs.Try.prog (cfL [] [] []) 300 p110000 d110000 l110000 = true := by kernel_rfl
theorem chk111010 : chkMf Go.Proofs.Try.prog (cfL [] [] []) 300 p111010 d111010 l111010 = true := by kernel_rfl
theorem chk111030 : chkMf Go.Proofs.Try.prog (cfL [] [] []) 300 p111030 d111030 l111030 = true := by kernel_rfl
theorem chk121000 : chkMf Go.Proofs.Try.prog (cfL [] [] []) 300 p121000 d121000 l121000 = true := by kernel_rfl
theorem chk121020 : chkMf Go.Proofs.Try.prog (cfL [] [] []) 300 p121020 d121020 l121020 = true := by kernel_rfl
theorem chk130000 : chkMf Go.Proofs.Try.prog (cfL [] [] []) 300 p130000 d130000 l130000 = true := by kernel_rfl
theorem chk131010 : chkMf Go.Proofs.Try.prog (cfL [] [] []) 300 p131010 d131010 l131010 = true := by kernel_rfl
theorem chk131030 : chkMf Go.Proofs.Try.prog (cfL [] [] []) 300 p131030 d131030 l131030 = true := by kernel_rfl
theorem chk710002 : chkPf Go.Proofs.Try.prog (cfL [p8] [p110001] []) 300 q710002 d710002 l710002 = true := by kernel_rfl
theorem chk711002 : chkPf Go.Proofs.Try.prog (cfL [p8] [p110001] []) 300 q711002 d711002 l711002 = true := by kernel_rfl
theorem chk712002 : chkPf Go.Proofs.Try.prog (cfL [p8] [p111001] []) 300 q712002 d712002 l712002 = true := by kernel_rfl
theorem chk712013 : chkPf Go.Proofs.Try.prog (cfL [p8] [p111012] []) 300 q712013 d712013 l712013 = true := by kernel_rfl
theorem chk712024 : chkPf Go.Proofs.Try.prog (cfL [p8] [p111022] []) 300 q712024 d712024 l712024 = true := by kernel_rfl
theorem chk720000 : chkPf Go.Proofs.Try.prog (cfL [p8] [p120000] []) 300 q720000 d720000 l720000 = true := by kernel_rfl
theorem chk721001 : chkPf Go.Proofs.Try.prog (cfL [p8] [p120001] []) 300 q721001 d721001 l721001 = true := by kernel_rfl
theorem chk722002 : chkPf Go.Proofs.Try.prog (cfL [p8] [p121001] []) 300 q722002 d722002 l722002 = true := by kernel_rfl
theorem chk722013 : chkPf Go.Proofs.Try.prog (cfL [p8] [p121012] []) 300 q722013 d722013 l722013 = true := by kernel_rfl
theorem chk722024 : chkPf Go.Proofs.Try.prog (cfL [p8] [p121022] []) 300 q722024 d722024 l722024 = true := by kernel_rfl
theorem chk730000 : chkPf Go.Proofs.Try.prog (cfL [p8] [p130000] []) 300 q730000 d730000 l730000 = true := by kernel_rfl
theorem chk731001 : chkPf Go.Proofs.Try.prog (cfL [p8] [p130001] []) 300 q731001 d731001 l731001 = true := by kernel_rfl
theorem chk732002 : chkPf Go.Proofs.Try.prog (cfL [p8] [p131001] []) 300 q732002 d732002 l732002 = true := by kernel_rfl
theorem chk732013 : chkPf Go.Proofs.Try.prog (cfL [p8] [p131012] []) 300 q732013 d732013 l732013 = true := by kernel_rfl
theorem chk732024 : chkPf Go.Proofs.Try.prog (cfL [p8] [p131022] []) 300 q732024 d732024 l732024 = true := by kernel_rfl
end Go.Sy
