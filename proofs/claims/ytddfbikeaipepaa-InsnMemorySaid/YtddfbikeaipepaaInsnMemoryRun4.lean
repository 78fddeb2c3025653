/- Runs of the Go function of 'Rows.InsnMemorySaid': for each of some operations of the instruction all ways out answer true. -/
import Derived.Test.YtddfbikeaipepaaInsnKinds
import Derived.KernelRfl
namespace Go.Proofs.Ytddfbikeaipepaa.insnMemory
open Go.Sy
theorem run37 : lawChk Try.prog sm2 (fun g => !(Nat.beq g 26 || Nat.beq g 47 || Nat.beq g 89 || Nat.beq g 74 || Nat.beq g 73)) 80 60 9 [.agg (symL 37 0 insnK)] [] = true := by kernel_rfl
theorem run38 : lawChk Try.prog sm2 (fun g => !(Nat.beq g 26 || Nat.beq g 47 || Nat.beq g 89 || Nat.beq g 74 || Nat.beq g 73)) 80 60 9 [.agg (symL 38 0 insnK)] [] = true := by kernel_rfl
theorem run39 : lawChk Try.prog sm2 (fun g => !(Nat.beq g 26 || Nat.beq g 47 || Nat.beq g 89 || Nat.beq g 74 || Nat.beq g 73)) 80 60 9 [.agg (symL 39 0 insnK)] [] = true := by kernel_rfl
theorem run40 : lawChk Try.prog sm2 (fun g => !(Nat.beq g 26 || Nat.beq g 47 || Nat.beq g 89 || Nat.beq g 74 || Nat.beq g 73)) 80 60 9 [.agg (symL 40 0 insnK)] [] = true := by kernel_rfl
theorem run41 : lawChk Try.prog sm2 (fun g => !(Nat.beq g 26 || Nat.beq g 47 || Nat.beq g 89 || Nat.beq g 74 || Nat.beq g 73)) 80 60 9 [.agg (symL 41 0 insnK)] [] = true := by kernel_rfl
theorem run42 : lawChk Try.prog sm2 (fun g => !(Nat.beq g 26 || Nat.beq g 47 || Nat.beq g 89 || Nat.beq g 74 || Nat.beq g 73)) 80 60 9 [.agg (symL 42 0 insnK)] [] = true := by kernel_rfl
theorem run43 : lawChk Try.prog sm2 (fun g => !(Nat.beq g 26 || Nat.beq g 47 || Nat.beq g 89 || Nat.beq g 74 || Nat.beq g 73)) 80 60 9 [.agg (symL 43 0 insnK)] [] = true := by kernel_rfl
theorem run44 : lawChk Try.prog sm2 (fun g => !(Nat.beq g 26 || Nat.beq g 47 || Nat.beq g 89 || Nat.beq g 74 || Nat.beq g 73)) 80 60 9 [.agg (symL 44 0 insnK)] [] = true := by kernel_rfl
theorem run45 : lawChk Try.prog sm2 (fun g => !(Nat.beq g 26 || Nat.beq g 47 || Nat.beq g 89 || Nat.beq g 74 || Nat.beq g 73)) 80 60 9 [.agg (symL 45 0 insnK)] [] = true := by kernel_rfl
end Go.Proofs.Ytddfbikeaipepaa.insnMemory
