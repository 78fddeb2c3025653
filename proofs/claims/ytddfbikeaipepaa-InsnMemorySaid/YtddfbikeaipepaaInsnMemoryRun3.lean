/- Runs of the Go function of 'Rows.InsnMemorySaid': for each of some operations of the instruction all ways out answer true. -/
import Derived.Test.YtddfbikeaipepaaInsnKinds
import Derived.KernelRfl
namespace Go.Proofs.Ytddfbikeaipepaa.insnMemory
open Go.Sy
theorem run28 : lawChk Try.prog sm2 (fun g => !(Nat.beq g 26 || Nat.beq g 47 || Nat.beq g 89 || Nat.beq g 74 || Nat.beq g 73)) 80 60 9 [.agg (symL 28 0 insnK)] [] = true := by kernel_rfl
theorem run29 : lawChk Try.prog sm2 (fun g => !(Nat.beq g 26 || Nat.beq g 47 || Nat.beq g 89 || Nat.beq g 74 || Nat.beq g 73)) 80 60 9 [.agg (symL 29 0 insnK)] [] = true := by kernel_rfl
theorem run30 : lawChk Try.prog sm2 (fun g => !(Nat.beq g 26 || Nat.beq g 47 || Nat.beq g 89 || Nat.beq g 74 || Nat.beq g 73)) 80 60 9 [.agg (symL 30 0 insnK)] [] = true := by kernel_rfl
theorem run31 : lawChk Try.prog sm2 (fun g => !(Nat.beq g 26 || Nat.beq g 47 || Nat.beq g 89 || Nat.beq g 74 || Nat.beq g 73)) 80 60 9 [.agg (symL 31 0 insnK)] [] = true := by kernel_rfl
theorem run32 : lawChk Try.prog sm2 (fun g => !(Nat.beq g 26 || Nat.beq g 47 || Nat.beq g 89 || Nat.beq g 74 || Nat.beq g 73)) 80 60 9 [.agg (symL 32 0 insnK)] [] = true := by kernel_rfl
theorem run33 : lawChk Try.prog sm2 (fun g => !(Nat.beq g 26 || Nat.beq g 47 || Nat.beq g 89 || Nat.beq g 74 || Nat.beq g 73)) 80 60 9 [.agg (symL 33 0 insnK)] [] = true := by kernel_rfl
theorem run34 : lawChk Try.prog sm2 (fun g => !(Nat.beq g 26 || Nat.beq g 47 || Nat.beq g 89 || Nat.beq g 74 || Nat.beq g 73)) 80 60 9 [.agg (symL 34 0 insnK)] [] = true := by kernel_rfl
theorem run35 : lawChk Try.prog sm2 (fun g => !(Nat.beq g 26 || Nat.beq g 47 || Nat.beq g 89 || Nat.beq g 74 || Nat.beq g 73)) 80 60 9 [.agg (symL 35 0 insnK)] [] = true := by kernel_rfl
theorem run36 : lawChk Try.prog sm2 (fun g => !(Nat.beq g 26 || Nat.beq g 47 || Nat.beq g 89 || Nat.beq g 74 || Nat.beq g 73)) 80 60 9 [.agg (symL 36 0 insnK)] [] = true := by kernel_rfl
end Go.Proofs.Ytddfbikeaipepaa.insnMemory
