/- The closed facts of the row, one by one. -/
import Derived.Test.YtgnfekfikifgiaaGreatRows
import Derived.WalkKit
import Derived.ProofKit
import Derived.OpenShut
import Derived.Below
import Derived.ChangeSame
import Derived.KernelRfl
namespace Go.Proofs.YtgnfekfikifgiaaGreat.engineLoops
open Go.ChangeShapes Go.WideShapes Go.ChangeAt Go.RowKit
set_option maxRecDepth 100000
theorem and2 {a b : Bool} (h : a = true) (k : b = true) : (a && b) = true := by rw [h, k]; rfl
theorem j1 : laidOutB Tryz.pinned.checked.prog = true := by kernel_rfl
theorem j2 : (Rows.engineLoopsRow.inPlace == Tryz.pinned.checked.prog.inPlace 3) = true := by kernel_rfl
theorem j3 : (Rows.engineLoopsRow.unfollowed == Tryz.pinned.checked.prog.unfollowed 3) = true := by kernel_rfl
theorem j4 : (Rows.engineLoopsRow.recurses == Tryz.pinned.checked.prog.recurses 3) = true := by kernel_rfl
theorem j5 : (Rows.engineLoopsRow.named == Tryz.pinned.checked.prog.varsNamed 3) = true := by kernel_rfl
theorem j6 : Tryz.pinned.checked.prog.stopsHeard = true := by kernel_rfl
theorem j7 : Tryz.pinned.checked.prog.mayEnter = true := by kernel_rfl
theorem j8 : (Rows.engineLoopsRow.lifted == Tryz.pinned.checked.prog.liftsFinal) = true := by kernel_rfl
/-- the closed facts of the row, one by one: all at once they need more memory than a text may have -/
theorem joined : joinedFacts Tryz.pinned.checked.prog 3 Tryz.f3 Rows.engineLoopsSpec Rows.engineLoopsRow = true := by
  unfold joinedFacts
  repeat' with_reducible refine and2 ?_ ?_
  all_goals first
    | with_reducible exact j1
    | with_reducible exact j2
    | with_reducible exact j3
    | with_reducible exact j4
    | with_reducible exact j5
    | with_reducible exact j6
    | with_reducible exact j7
    | with_reducible exact j8
    | (as_aux_lemma => kernel_rfl)
end Go.Proofs.YtgnfekfikifgiaaGreat.engineLoops
