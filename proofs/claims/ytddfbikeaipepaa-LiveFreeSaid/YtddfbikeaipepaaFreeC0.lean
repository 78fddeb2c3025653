/- Functions, each told by its own run; and what follows from what they tell. -/
import Derived.KernelRfl
import Derived.Test.YtddfbikeaipepaaFreeD
namespace Go.Sy
theorem chk35 : chkPf Go.Proofs.Try.prog (cfL [p51, p52, p53, p54, p55, p56] [] []) 60 p35 d35 l35 = true := by kernel_rfl
end Go.Sy
