/- Functions of the instructions, each told by its own run; and what follows from what they tell. -/
import Derived.Test.YtddfbikeaipepaaCardsInsn
namespace Go.Sy
theorem chk8 : chkPf Go.Proofs.Try.prog (cfP [knownP, IsP]) 60 partsP d8 [t8] = true := by kernel_rfl
theorem cf8 : CfOk Go.Proofs.Try.prog (cfP [knownP, IsP]) := cfP_ok (l := [knownP, IsP]) ⟨ok25, ok26, trivial⟩
end Go.Sy
