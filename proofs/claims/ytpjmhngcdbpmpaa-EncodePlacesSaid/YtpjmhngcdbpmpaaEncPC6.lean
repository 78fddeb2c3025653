/- Functions, each told by its own run; and what follows from what they tell. -/
import Derived.KernelRfl
import Derived.Test.YtpjmhngcdbpmpaaEncPD
namespace Go.Sy
theorem chk101033 : chkMf Go.Proofs.Try.prog (cfL [] [] []) 300 p101033 d101033 l101033 = true := by kernel_rfl
theorem chk111001 : chkMf Go.Proofs.Try.prog (cfL [] [] []) 300 p111001 d111001 l111001 = true := by kernel_rfl
theorem chk111021 : chkMf Go.Proofs.Try.prog (cfL [] [] []) 300 p111021 d111021 l111021 = true := by kernel_rfl
theorem chk120001 : chkMf Go.Proofs.Try.prog (cfL [] [] []) 300 p120001 d120001 l120001 = true := by kernel_rfl
theorem chk121011 : chkMf Go.Proofs.Try.prog (cfL [] [] []) 300 p121011 d121011 l121011 = true := by kernel_rfl
theorem chk121031 : chkMf Go.Proofs.Try.prog (cfL [] [] []) 300 p121031 d121031 l121031 = true := by kernel_rfl
theorem chk131001 : chkMf Go.Proofs.Try.prog (cfL [] [] []) 300 p131001 d131001 l131001 = true := by kernel_rfl
theorem chk131021 : chkMf Go.Proofs.Try.prog (cfL [] [] []) 300 p131021 d131021 l131021 = true := by kernel_rfl
theorem chk9002 : chkMf Go.Proofs.Try.prog (cfL [] [] []) 300 p9002 d9002 l9002 = true := by kernel_rfl
theorem chk9012 : chkMf Go.Proofs.Try.prog (cfL [] [] []) 300 p9012 d9012 l9012 = true := by kernel_rfl
theorem chk700000 : chkPf Go.Proofs.Try.prog (cfL [p8] [p100003] []) 300 q700000 d700000 l700000 = true := by kernel_rfl
theorem chk701000 : chkPf Go.Proofs.Try.prog (cfL [p8] [p100003] []) 300 q701000 d701000 l701000 = true := by kernel_rfl
theorem chk702000 : chkPf Go.Proofs.Try.prog (cfL [p8] [p101003] []) 300 q702000 d702000 l702000 = true := by kernel_rfl
theorem chk702020 : chkPf Go.Proofs.Try.prog (cfL [p8] [p101023] []) 300 q702020 d702020 l702020 = true := by kernel_rfl
theorem chk710000 : chkPf Go.Proofs.Try.prog (cfL [p8] [p110000] []) 300 q710000 d710000 l710000 = true := by kernel_rfl
theorem chk711000 : chkPf Go.Proofs.Try.prog (cfL [p8] [p110000] []) 300 q711000 d711000 l711000 = true := by kernel_rfl
theorem chk712000 : chkPf Go.Proofs.Try.prog (cfL [p8] [p111000] []) 300 q712000 d712000 l712000 = true := by kernel_rfl
theorem chk712010 : chkPf Go.Proofs.Try.prog (cfL [p8] [p111010] []) 300 q712010 d712010 l712010 = true := by kernel_rfl
theorem chk712021 : chkPf Go.Proofs.Try.prog (cfL [p8] [p111021] []) 300 q712021 d712021 l712021 = true := by kernel_rfl
theorem chk712032 : chkPf Go.Proofs.Try.prog (cfL [p8] [p111031] []) 300 q712032 d712032 l712032 = true := by kernel_rfl
theorem chk720003 : chkPf Go.Proofs.Try.prog (cfL [p8] [p120002] []) 300 q720003 d720003 l720003 = true := by kernel_rfl
theorem chk721004 : chkPf Go.Proofs.Try.prog (cfL [p8] [p120002] []) 300 q721004 d721004 l721004 = true := by kernel_rfl
theorem chk722010 : chkPf Go.Proofs.Try.prog (cfL [p8] [p121010] []) 300 q722010 d722010 l722010 = true := by kernel_rfl
theorem chk722021 : chkPf Go.Proofs.Try.prog (cfL [p8] [p121021] []) 300 q722021 d722021 l722021 = true := by kernel_rfl
theorem chk722032 : chkPf Go.Proofs.Try.prog (cfL [p8] [p121031] []) 300 q722032 d722032 l722032 = true := by kernel_rfl
theorem chk730003 : chkPf Go.Proofs.Try.prog (cfL [p8] [p130002] []) 300 q730003 d730003 l730003 = true := by kernel_rfl
theorem chk731004 : chkPf Go.Proofs.Try.prog (cfL [p8] [p130002] []) 300 q731004 d731004 l731004 = true := by kernel_rfl
theorem chk732010 : chkPf Go.Proofs.Try.prog (cfL [p8] [p131010] []) 300 q732010 d732010 l732010 = true := by kernel_rfl
theorem chk732021 : chkPf Go.Proofs.Try.prog (cfL [p8] [p131021] []) 300 q732021 d732021 l732021 = true := by kernel_rfl
theorem chk732032 : chkPf Go.Proofs.Try.prog (cfL [p8] [p131031] []) 300 q732032 d732032 l732032 = true := by kernel_rfl
end Go.Sy
