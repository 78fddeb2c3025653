/- Functions, each told by its own run; and what follows from what they tell. -/
import Derived.KernelRfl
import Derived.Test.YtpjmhngcdbpmpaaEncPD
namespace Go.Sy
theorem chk101023 : chkMf Go.Proofs.Try.prog (cfL [] [] []) 300 p101023 d101023 l101023 = true := by kernel_rfl
theorem chk111000 : chkMf Go.Proofs.Try.prog (cfL [] [] []) 300 p111000 d111000 l111000 = true := by kernel_rfl
theorem chk111020 : chkMf Go.Proofs.Try.prog (cfL [] [] []) 300 p111020 d111020 l111020 = true := by kernel_rfl
theorem chk120000 : chkMf Go.Proofs.Try.prog (cfL [] [] []) 300 p120000 d120000 l120000 = true := by kernel_rfl
theorem chk121010 : chkMf Go.Proofs.Try.prog (cfL [] [] []) 300 p121010 d121010 l121010 = true := by kernel_rfl
theorem chk121030 : chkMf Go.Proofs.Try.prog (cfL [] [] []) 300 p121030 d121030 l121030 = true := by kernel_rfl
theorem chk131000 : chkMf Go.Proofs.Try.prog (cfL [] [] []) 300 p131000 d131000 l131000 = true := by kernel_rfl
theorem chk131020 : chkMf Go.Proofs.Try.prog (cfL [] [] []) 300 p131020 d131020 l131020 = true := by kernel_rfl
theorem chk9001 : chkMf Go.Proofs.Try.prog (cfL [] [] []) 300 p9001 d9001 l9001 = true := by kernel_rfl
theorem chk9011 : chkMf Go.Proofs.Try.prog (cfL [] [] []) 300 p9011 d9011 l9011 = true := by kernel_rfl
theorem chk9014 : chkMf Go.Proofs.Try.prog (cfL [] [] []) 300 p9014 d9014 l9014 = true := by kernel_rfl
theorem chk712012 : chkPf Go.Proofs.Try.prog (cfL [p8] [p111011] []) 300 q712012 d712012 l712012 = true := by kernel_rfl
theorem chk712023 : chkPf Go.Proofs.Try.prog (cfL [p8] [p111022] []) 300 q712023 d712023 l712023 = true := by kernel_rfl
theorem chk712034 : chkPf Go.Proofs.Try.prog (cfL [p8] [p111032] []) 300 q712034 d712034 l712034 = true := by kernel_rfl
theorem chk721000 : chkPf Go.Proofs.Try.prog (cfL [p8] [p120000] []) 300 q721000 d721000 l721000 = true := by kernel_rfl
theorem chk722001 : chkPf Go.Proofs.Try.prog (cfL [p8] [p121001] []) 300 q722001 d722001 l722001 = true := by kernel_rfl
theorem chk722012 : chkPf Go.Proofs.Try.prog (cfL [p8] [p121011] []) 300 q722012 d722012 l722012 = true := by kernel_rfl
theorem chk722023 : chkPf Go.Proofs.Try.prog (cfL [p8] [p121022] []) 300 q722023 d722023 l722023 = true := by kernel_rfl
theorem chk722034 : chkPf Go.Proofs.Try.prog (cfL [p8] [p121032] []) 300 q722034 d722034 l722034 = true := by kernel_rfl
theorem chk731000 : chkPf Go.Proofs.Try.prog (cfL [p8] [p130000] []) 300 q731000 d731000 l731000 = true := by kernel_rfl
theorem chk732001 : chkPf Go.Proofs.Try.prog (cfL [p8] [p131001] []) 300 q732001 d732001 l732001 = true := by kernel_rfl
theorem chk732012 : chkPf Go.Proofs.Try.prog (cfL [p8] [p131011] []) 300 q732012 d732012 l732012 = true := by kernel_rfl
theorem chk732023 : chkPf Go.Proofs.Try.prog (cfL [p8] [p131022] []) 300 q732023 d732023 l732023 = true := by kernel_rfl
theorem chk732034 : chkPf Go.Proofs.Try.prog (cfL [p8] [p131032] []) 300 q732034 d732034 l732034 = true := by kernel_rfl
end Go.Sy
