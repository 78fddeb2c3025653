/- The kinds of an instruction's cells, as letters. -/
import Derived.Test.YtddfbikeaipepaaTb
import Derived.Test.YtddfbikeaipepaaSy18
import Derived.KernelRfl
namespace Go.Sy
def insnK : List K := [.i .i64, .i .i64, .i .i64, .i .i64, .i .u32, .i .i64, .i .i64, .i .u32, .i .i64, .i .i64, .i .u32, .i .i64, .i .i64, .i .u32, .b, .i .i64]
theorem flatInsn : flat Go.Proofs.Try.prog 5 32 = some insnK := by kernel_rfl
def opV : T := .v 0 (-9223372036854775808) 9223372036854775807
end Go.Sy
