/- Calls of the program, each told by its own run. -/
import Derived.Test.YtgnfekfikifgiaaGreatTuD
import Derived.Test.YtgnfekfikifgiaaGreatTuB
namespace Go.RvC
open Go Go.Sy Go.E3
set_option maxRecDepth 100000
theorem Sc90k : Okc Sc90f Sc90 := mkK nilK Sc90w (by kernel_rfl) (by kernel_rfl)
theorem Sc91k : Okc Sc91f Sc91 := mkF nilK Sc91w (by kernel_rfl) (by kernel_rfl)
theorem Sc92k : Okc Sc92f Sc92 := mkK (consK Sc91k nilK) Sc92w (by kernel_rfl) (by kernel_rfl)
theorem Sc93k : Okc Sc93f Sc93 := mkF nilK Sc93w (by kernel_rfl) (by kernel_rfl)
theorem Sc94k : Okc Sc94f Sc94 := mkF nilK Sc94w (by kernel_rfl) (by kernel_rfl)
theorem Sc95k : Okc Sc95f Sc95 := mkF nilK Sc95w (by kernel_rfl) (by kernel_rfl)
theorem Sc96k : Okc Sc96f Sc96 := mkF nilK Sc96w (by kernel_rfl) (by kernel_rfl)
theorem Sc97k : Okc Sc97f Sc97 := mkF nilK Sc97w (by kernel_rfl) (by kernel_rfl)
theorem Sc98k : Okc Sc98f Sc98 := mkK (consK Sc93k (consK Sc94k (consK Sc95k (consK Sc96k (consK Sc97k nilK))))) Sc98w (by kernel_rfl) (by kernel_rfl)
theorem Sc99k : Okc Sc99f Sc99 := mkK (consK Sc90k (consK Sc92k (consK Sc98k nilK))) Sc99w (by kernel_rfl) (by kernel_rfl)
theorem Sc100k : Okc Sc100f Sc100 := mkK nilK Sc100w (by kernel_rfl) (by kernel_rfl)
theorem Sc101k : Okc Sc101f Sc101 := mkF nilK Sc101w (by kernel_rfl) (by kernel_rfl)
theorem Sc102k : Okc Sc102f Sc102 := mkK (consK Sc101k nilK) Sc102w (by kernel_rfl) (by kernel_rfl)
theorem Sc103k : Okc Sc103f Sc103 := mkK nilK Sc103w (by kernel_rfl) (by kernel_rfl)
theorem Sc104k : Okc Sc104f Sc104 := mkK (consK Sc100k (consK Sc102k (consK Sc103k nilK))) Sc104w (by kernel_rfl) (by kernel_rfl)
end Go.RvC
