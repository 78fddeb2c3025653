/- Runs of the Go function of 'Rows.InsnMemorySaid': for each of some operations of the instruction all ways out answer true. -/
import Derived.Test.YtddfbikeaipepaaInsnKinds
import Derived.KernelRfl
namespace Go.Proofs.Ytddfbikeaipepaa.insnMemory
open Go.Sy
theorem run19 : lawChk Try.prog sm2 (fun _ => true) 80 60 9 [.agg (symL 19 0 insnK)] [] = true := by kernel_rfl
theorem run20 : lawChk Try.prog sm2 (fun _ => true) 80 60 9 [.agg (symL 20 0 insnK)] [] = true := by kernel_rfl
theorem run21 : lawChk Try.prog sm2 (fun _ => true) 80 60 9 [.agg (symL 21 0 insnK)] [] = true := by kernel_rfl
theorem run22 : lawChk Try.prog sm2 (fun _ => true) 80 60 9 [.agg (symL 22 0 insnK)] [] = true := by kernel_rfl
theorem run23 : lawChk Try.prog sm2 (fun _ => true) 80 60 9 [.agg (symL 23 0 insnK)] [] = true := by kernel_rfl
theorem run24 : lawChk Try.prog sm2 (fun _ => true) 80 60 9 [.agg (symL 24 0 insnK)] [] = true := by kernel_rfl
theorem run25 : lawChk Try.prog sm2 (fun _ => true) 80 60 9 [.agg (symL 25 0 insnK)] [] = true := by kernel_rfl
theorem run26 : lawChk Try.prog sm2 (fun _ => true) 80 60 9 [.agg (symL 26 0 insnK)] [] = true := by kernel_rfl
theorem run27 : lawChk Try.prog sm2 (fun _ => true) 80 60 9 [.agg (symL 27 0 insnK)] [] = true := by kernel_rfl
end Go.Proofs.Ytddfbikeaipepaa.insnMemory
