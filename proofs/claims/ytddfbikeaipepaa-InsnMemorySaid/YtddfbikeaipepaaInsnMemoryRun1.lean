/- Runs of the Go function of 'Rows.InsnMemorySaid': for each of some operations of the instruction all ways out answer true. -/
import Derived.Test.YtddfbikeaipepaaInsnKinds
import Derived.KernelRfl
namespace Go.Proofs.Ytddfbikeaipepaa.insnMemory
open Go.Sy
theorem run10 : lawChk Try.prog sm2 (fun _ => true) 80 60 9 [.agg (symL 10 0 insnK)] [] = true := by kernel_rfl
theorem run11 : lawChk Try.prog sm2 (fun _ => true) 80 60 9 [.agg (symL 11 0 insnK)] [] = true := by kernel_rfl
theorem run12 : lawChk Try.prog sm2 (fun _ => true) 80 60 9 [.agg (symL 12 0 insnK)] [] = true := by kernel_rfl
theorem run13 : lawChk Try.prog sm2 (fun _ => true) 80 60 9 [.agg (symL 13 0 insnK)] [] = true := by kernel_rfl
theorem run14 : lawChk Try.prog sm2 (fun _ => true) 80 60 9 [.agg (symL 14 0 insnK)] [] = true := by kernel_rfl
theorem run15 : lawChk Try.prog sm2 (fun _ => true) 80 60 9 [.agg (symL 15 0 insnK)] [] = true := by kernel_rfl
theorem run16 : lawChk Try.prog sm2 (fun _ => true) 80 60 9 [.agg (symL 16 0 insnK)] [] = true := by kernel_rfl
theorem run17 : lawChk Try.prog sm2 (fun _ => true) 80 60 9 [.agg (symL 17 0 insnK)] [] = true := by kernel_rfl
theorem run18 : lawChk Try.prog sm2 (fun _ => true) 80 60 9 [.agg (symL 18 0 insnK)] [] = true := by kernel_rfl
end Go.Proofs.Ytddfbikeaipepaa.insnMemory
