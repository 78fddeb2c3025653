/- Functions, each told by its own run; and what follows from what they tell. -/
import Derived.KernelRfl
import Derived.Test.YtpjmhngcdbpmpaaEncPD
namespace Go.Sy
theorem chk101013 : chkMf Go.Proofs.Try.prog (cfL [] [] []) 300 p101013 d101013 l101013 = true := by kernel_rfl
theorem chk110002 : chkMf Go.Proofs.Try.prog (cfL [] [] []) 300 p110002 d110002 l110002 = true := by kernel_rfl
theorem chk111012 : chkMf Go.Proofs.Try.prog (cfL [] [] []) 300 p111012 d111012 l111012 = true := by kernel_rfl
theorem chk111032 : chkMf Go.Proofs.Try.prog (cfL [] [] []) 300 p111032 d111032 l111032 = true := by kernel_rfl
theorem chk121002 : chkMf Go.Proofs.Try.prog (cfL [] [] []) 300 p121002 d121002 l121002 = true := by kernel_rfl
theorem chk121022 : chkMf Go.Proofs.Try.prog (cfL [] [] []) 300 p121022 d121022 l121022 = true := by kernel_rfl
theorem chk130002 : chkMf Go.Proofs.Try.prog (cfL [] [] []) 300 p130002 d130002 l130002 = true := by kernel_rfl
theorem chk131012 : chkMf Go.Proofs.Try.prog (cfL [] [] []) 300 p131012 d131012 l131012 = true := by kernel_rfl
theorem chk131032 : chkMf Go.Proofs.Try.prog (cfL [] [] []) 300 p131032 d131032 l131032 = true := by kernel_rfl
theorem chk710004 : chkPf Go.Proofs.Try.prog (cfL [p8] [p110002] []) 300 q710004 d710004 l710004 = true := by kernel_rfl
theorem chk711004 : chkPf Go.Proofs.Try.prog (cfL [p8] [p110002] []) 300 q711004 d711004 l711004 = true := by kernel_rfl
theorem chk712004 : chkPf Go.Proofs.Try.prog (cfL [p8] [p111002] []) 300 q712004 d712004 l712004 = true := by kernel_rfl
theorem chk712020 : chkPf Go.Proofs.Try.prog (cfL [p8] [p111020] []) 300 q712020 d712020 l712020 = true := by kernel_rfl
theorem chk712031 : chkPf Go.Proofs.Try.prog (cfL [p8] [p111031] []) 300 q712031 d712031 l712031 = true := by kernel_rfl
theorem chk720002 : chkPf Go.Proofs.Try.prog (cfL [p8] [p120001] []) 300 q720002 d720002 l720002 = true := by kernel_rfl
theorem chk721003 : chkPf Go.Proofs.Try.prog (cfL [p8] [p120002] []) 300 q721003 d721003 l721003 = true := by kernel_rfl
theorem chk722004 : chkPf Go.Proofs.Try.prog (cfL [p8] [p121002] []) 300 q722004 d722004 l722004 = true := by kernel_rfl
theorem chk722020 : chkPf Go.Proofs.Try.prog (cfL [p8] [p121020] []) 300 q722020 d722020 l722020 = true := by kernel_rfl
theorem chk722031 : chkPf Go.Proofs.Try.prog (cfL [p8] [p121031] []) 300 q722031 d722031 l722031 = true := by kernel_rfl
theorem chk730002 : chkPf Go.Proofs.Try.prog (cfL [p8] [p130001] []) 300 q730002 d730002 l730002 = true := by kernel_rfl
theorem chk731003 : chkPf Go.Proofs.Try.prog (cfL [p8] [p130002] []) 300 q731003 d731003 l731003 = true := by kernel_rfl
theorem chk732004 : chkPf Go.Proofs.Try.prog (cfL [p8] [p131002] []) 300 q732004 d732004 l732004 = true := by kernel_rfl
theorem chk732020 : chkPf Go.Proofs.Try.prog (cfL [p8] [p131020] []) 300 q732020 d732020 l732020 = true := by kernel_rfl
theorem chk732031 : chkPf Go.Proofs.Try.prog (cfL [p8] [p131031] []) 300 q732031 d732031 l732031 = true := by kernel_rfl
end Go.Sy
