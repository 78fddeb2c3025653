/- Functions, each told by its own run; and what follows from what they tell. -/
import Derived.KernelRfl
import Derived.Test.YtpjmhngcdbpmpaaEncPD
namespace Go.Sy
theorem chk8 : chkPf Go.Proofs.Try.prog (cfL [] [p9001, p9002, p9011, p9012, p9013, p9014] []) 300 q8 d8 l8 = true := by kernel_rfl
theorem chk111002 : chkMf Go.Proofs.Try.prog (cfL [] [] []) 300 p111002 d111002 l111002 = true := by kernel_rfl
theorem chk111022 : chkMf Go.Proofs.Try.prog (cfL [] [] []) 300 p111022 d111022 l111022 = true := by kernel_rfl
theorem chk120002 : chkMf Go.Proofs.Try.prog (cfL [] [] []) 300 p120002 d120002 l120002 = true := by kernel_rfl
theorem chk121012 : chkMf Go.Proofs.Try.prog (cfL [] [] []) 300 p121012 d121012 l121012 = true := by kernel_rfl
theorem chk121032 : chkMf Go.Proofs.Try.prog (cfL [] [] []) 300 p121032 d121032 l121032 = true := by kernel_rfl
theorem chk131002 : chkMf Go.Proofs.Try.prog (cfL [] [] []) 300 p131002 d131002 l131002 = true := by kernel_rfl
theorem chk131022 : chkMf Go.Proofs.Try.prog (cfL [] [] []) 300 p131022 d131022 l131022 = true := by kernel_rfl
theorem chk9013 : chkMf Go.Proofs.Try.prog (cfL [] [] []) 300 p9013 d9013 l9013 = true := by kernel_rfl
theorem chk702010 : chkPf Go.Proofs.Try.prog (cfL [p8] [p101013] []) 300 q702010 d702010 l702010 = true := by kernel_rfl
theorem chk702030 : chkPf Go.Proofs.Try.prog (cfL [p8] [p101033] []) 300 q702030 d702030 l702030 = true := by kernel_rfl
theorem chk710001 : chkPf Go.Proofs.Try.prog (cfL [p8] [p110001] []) 300 q710001 d710001 l710001 = true := by kernel_rfl
theorem chk711001 : chkPf Go.Proofs.Try.prog (cfL [p8] [p110001] []) 300 q711001 d711001 l711001 = true := by kernel_rfl
theorem chk712001 : chkPf Go.Proofs.Try.prog (cfL [p8] [p111001] []) 300 q712001 d712001 l712001 = true := by kernel_rfl
theorem chk712011 : chkPf Go.Proofs.Try.prog (cfL [p8] [p111011] []) 300 q712011 d712011 l712011 = true := by kernel_rfl
theorem chk712022 : chkPf Go.Proofs.Try.prog (cfL [p8] [p111021] []) 300 q712022 d712022 l712022 = true := by kernel_rfl
theorem chk712033 : chkPf Go.Proofs.Try.prog (cfL [p8] [p111032] []) 300 q712033 d712033 l712033 = true := by kernel_rfl
theorem chk720004 : chkPf Go.Proofs.Try.prog (cfL [p8] [p120002] []) 300 q720004 d720004 l720004 = true := by kernel_rfl
theorem chk722000 : chkPf Go.Proofs.Try.prog (cfL [p8] [p121000] []) 300 q722000 d722000 l722000 = true := by kernel_rfl
theorem chk722011 : chkPf Go.Proofs.Try.prog (cfL [p8] [p121011] []) 300 q722011 d722011 l722011 = true := by kernel_rfl
theorem chk722022 : chkPf Go.Proofs.Try.prog (cfL [p8] [p121021] []) 300 q722022 d722022 l722022 = true := by kernel_rfl
theorem chk722033 : chkPf Go.Proofs.Try.prog (cfL [p8] [p121032] []) 300 q722033 d722033 l722033 = true := by kernel_rfl
theorem chk730004 : chkPf Go.Proofs.Try.prog (cfL [p8] [p130002] []) 300 q730004 d730004 l730004 = true := by kernel_rfl
theorem chk732000 : chkPf Go.Proofs.Try.prog (cfL [p8] [p131000] []) 300 q732000 d732000 l732000 = true := by kernel_rfl
theorem chk732011 : chkPf Go.Proofs.Try.prog (cfL [p8] [p131011] []) 300 q732011 d732011 l732011 = true := by kernel_rfl
theorem chk732022 : chkPf Go.Proofs.Try.prog (cfL [p8] [p131021] []) 300 q732022 d732022 l732022 = true := by kernel_rfl
theorem chk732033 : chkPf Go.Proofs.Try.prog (cfL [p8] [p131032] []) 300 q732033 d732033 l732033 = true := by kernel_rfl
end Go.Sy
