/- Runs of the Go function of 'Rows.InsnMemorySaid': for each of some operations of the instruction all ways out answer true. -/
import Derived.Test.YtddfbikeaipepaaInsnKinds
import Derived.KernelRfl
namespace Go.Proofs.Ytddfbikeaipepaa.insnMemory
open Go.Sy
theorem run46 : lawChk Try.prog sm2 (fun g => !(Nat.beq g 26 || Nat.beq g 47 || Nat.beq g 89 || Nat.beq g 74 || Nat.beq g 73)) 80 60 9 [.agg (symL 46 0 insnK)] [] = true := by kernel_rfl
theorem run47 : lawChk Try.prog sm2 (fun g => !(Nat.beq g 26 || Nat.beq g 47 || Nat.beq g 89 || Nat.beq g 74 || Nat.beq g 73)) 80 60 9 [.agg (symL 47 0 insnK)] [] = true := by kernel_rfl
theorem run48 : lawChk Try.prog sm2 (fun g => !(Nat.beq g 26 || Nat.beq g 47 || Nat.beq g 89 || Nat.beq g 74 || Nat.beq g 73)) 80 60 9 [.agg (symL 48 0 insnK)] [] = true := by kernel_rfl
theorem run49 : lawChk Try.prog sm2 (fun g => !(Nat.beq g 26 || Nat.beq g 47 || Nat.beq g 89 || Nat.beq g 74 || Nat.beq g 73)) 80 60 9 [.agg (symL 49 0 insnK)] [] = true := by kernel_rfl
theorem run50 : lawChk Try.prog sm2 (fun g => !(Nat.beq g 26 || Nat.beq g 47 || Nat.beq g 89 || Nat.beq g 74 || Nat.beq g 73)) 80 60 9 [.agg (symL 50 0 insnK)] [] = true := by kernel_rfl
theorem run51 : lawChk Try.prog sm2 (fun g => !(Nat.beq g 26 || Nat.beq g 47 || Nat.beq g 89 || Nat.beq g 74 || Nat.beq g 73)) 80 60 9 [.agg (symL 51 0 insnK)] [] = true := by kernel_rfl
theorem run52 : lawChk Try.prog sm2 (fun g => !(Nat.beq g 26 || Nat.beq g 47 || Nat.beq g 89 || Nat.beq g 74 || Nat.beq g 73)) 80 60 9 [.agg (symL 52 0 insnK)] [] = true := by kernel_rfl
theorem run53 : lawChk Try.prog sm2 (fun g => !(Nat.beq g 26 || Nat.beq g 47 || Nat.beq g 89 || Nat.beq g 74 || Nat.beq g 73)) 80 60 9 [.agg (symL 53 0 insnK)] [] = true := by kernel_rfl
end Go.Proofs.Ytddfbikeaipepaa.insnMemory
