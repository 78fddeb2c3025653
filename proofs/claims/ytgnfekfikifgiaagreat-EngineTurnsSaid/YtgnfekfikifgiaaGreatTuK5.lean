/- Calls of the program, each told by its own run. -/
import Derived.Test.YtgnfekfikifgiaaGreatTuD
import Derived.Test.YtgnfekfikifgiaaGreatTuB
namespace Go.RvC
open Go Go.Sy Go.E3
set_option maxRecDepth 100000
theorem Sc105k : Okc Sc105f Sc105 := mkK nilK Sc105w (by kernel_rfl) (by kernel_rfl)
theorem Sc106k : Okc Sc106f Sc106 := mkF nilK Sc106w (by kernel_rfl) (by kernel_rfl)
theorem Sc107k : Okc Sc107f Sc107 := mkK (consK Sc106k nilK) Sc107w (by kernel_rfl) (by kernel_rfl)
theorem Sc108k : Okc Sc108f Sc108 := mkF nilK Sc108w (by kernel_rfl) (by kernel_rfl)
theorem Sc109k : Okc Sc109f Sc109 := mkF nilK Sc109w (by kernel_rfl) (by kernel_rfl)
theorem Sc110k : Okc Sc110f Sc110 := mkF nilK Sc110w (by kernel_rfl) (by kernel_rfl)
theorem Sc111k : Okc Sc111f Sc111 := mkF nilK Sc111w (by kernel_rfl) (by kernel_rfl)
theorem Sc112k : Okc Sc112f Sc112 := mkF nilK Sc112w (by kernel_rfl) (by kernel_rfl)
theorem Sc113k : Okc Sc113f Sc113 := mkK (consK Sc108k (consK Sc109k (consK Sc110k (consK Sc111k (consK Sc112k nilK))))) Sc113w (by kernel_rfl) (by kernel_rfl)
theorem Sc114k : Okc Sc114f Sc114 := mkK (consK Sc105k (consK Sc107k (consK Sc113k nilK))) Sc114w (by kernel_rfl) (by kernel_rfl)
theorem Sc115k : Okc Sc115f Sc115 := mkK nilK Sc115w (by kernel_rfl) (by kernel_rfl)
theorem Sc116k : Okc Sc116f Sc116 := mkF nilK Sc116w (by kernel_rfl) (by kernel_rfl)
theorem Sc117k : Okc Sc117f Sc117 := mkK (consK Sc116k nilK) Sc117w (by kernel_rfl) (by kernel_rfl)
theorem Sc118k : Okc Sc118f Sc118 := mkK nilK Sc118w (by kernel_rfl) (by kernel_rfl)
theorem Sc119k : Okc Sc119f Sc119 := mkK (consK Sc115k (consK Sc117k (consK Sc118k nilK))) Sc119w (by kernel_rfl) (by kernel_rfl)
end Go.RvC
