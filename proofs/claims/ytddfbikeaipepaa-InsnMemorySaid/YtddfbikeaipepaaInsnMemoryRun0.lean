/- Runs of the Go function of 'Rows.InsnMemorySaid': for each of some operations of the instruction all ways out answer true. -/
import Derived.Test.YtddfbikeaipepaaInsnKinds
import Derived.KernelRfl
namespace Go.Proofs.Ytddfbikeaipepaa.insnMemory
open Go.Sy
theorem run1 : lawChk Try.prog sm2 (fun _ => true) 80 60 9 [.agg (symL 1 0 insnK)] [] = true := by kernel_rfl
theorem run2 : lawChk Try.prog sm2 (fun _ => true) 80 60 9 [.agg (symL 2 0 insnK)] [] = true := by kernel_rfl
theorem run3 : lawChk Try.prog sm2 (fun _ => true) 80 60 9 [.agg (symL 3 0 insnK)] [] = true := by kernel_rfl
theorem run4 : lawChk Try.prog sm2 (fun _ => true) 80 60 9 [.agg (symL 4 0 insnK)] [] = true := by kernel_rfl
theorem run5 : lawChk Try.prog sm2 (fun _ => true) 80 60 9 [.agg (symL 5 0 insnK)] [] = true := by kernel_rfl
theorem run6 : lawChk Try.prog sm2 (fun _ => true) 80 60 9 [.agg (symL 6 0 insnK)] [] = true := by kernel_rfl
theorem run7 : lawChk Try.prog sm2 (fun _ => true) 80 60 9 [.agg (symL 7 0 insnK)] [] = true := by kernel_rfl
theorem run8 : lawChk Try.prog sm2 (fun _ => true) 80 60 9 [.agg (symL 8 0 insnK)] [] = true := by kernel_rfl
theorem run9 : lawChk Try.prog sm2 (fun _ => true) 80 60 9 [.agg (symL 9 0 insnK)] [] = true := by kernel_rfl
theorem below : lawChk Try.prog sm2 (fun _ => true) 80 60 9 [.agg (symK 0 insnK)] [(.bin .lt opV (.lit 1), true)] = true := by kernel_rfl
theorem above : lawChk Try.prog sm2 (fun _ => true) 80 60 9 [.agg (symK 0 insnK)] [(.bin .lt opV (.lit 54), false)] = true := by kernel_rfl
end Go.Proofs.Ytddfbikeaipepaa.insnMemory
