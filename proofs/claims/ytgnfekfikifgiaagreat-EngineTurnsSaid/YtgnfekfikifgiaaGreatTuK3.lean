/- Calls of the program, each told by its own run. -/
import Derived.Test.YtgnfekfikifgiaaGreatTuD
import Derived.Test.YtgnfekfikifgiaaGreatTuB
namespace Go.RvC
open Go Go.Sy Go.E3
set_option maxRecDepth 100000
theorem Sc70k : Okc Sc70f Sc70 := mkK nilK Sc70w (by kernel_rfl) (by kernel_rfl)
theorem Sc71k : Okc Sc71f Sc71 := mkF nilK Sc71w (by kernel_rfl) (by kernel_rfl)
theorem Sc72k : Okc Sc72f Sc72 := mkK (consK Sc71k nilK) Sc72w (by kernel_rfl) (by kernel_rfl)
theorem Sc73k : Okc Sc73f Sc73 := mkK nilK Sc73w (by kernel_rfl) (by kernel_rfl)
theorem Sc74k : Okc Sc74f Sc74 := mkK (consK Sc70k (consK Sc72k (consK Sc73k nilK))) Sc74w (by kernel_rfl) (by kernel_rfl)
theorem Sc75k : Okc Sc75f Sc75 := mkK nilK Sc75w (by kernel_rfl) (by kernel_rfl)
theorem Sc76k : Okc Sc76f Sc76 := mkF nilK Sc76w (by kernel_rfl) (by kernel_rfl)
theorem Sc77k : Okc Sc77f Sc77 := mkK (consK Sc76k nilK) Sc77w (by kernel_rfl) (by kernel_rfl)
theorem Sc78k : Okc Sc78f Sc78 := mkF nilK Sc78w (by kernel_rfl) (by kernel_rfl)
theorem Sc79k : Okc Sc79f Sc79 := mkF nilK Sc79w (by kernel_rfl) (by kernel_rfl)
theorem Sc80k : Okc Sc80f Sc80 := mkF nilK Sc80w (by kernel_rfl) (by kernel_rfl)
theorem Sc81k : Okc Sc81f Sc81 := mkF nilK Sc81w (by kernel_rfl) (by kernel_rfl)
theorem Sc82k : Okc Sc82f Sc82 := mkF nilK Sc82w (by kernel_rfl) (by kernel_rfl)
theorem Sc83k : Okc Sc83f Sc83 := mkK (consK Sc78k (consK Sc79k (consK Sc80k (consK Sc81k (consK Sc82k nilK))))) Sc83w (by kernel_rfl) (by kernel_rfl)
theorem Sc84k : Okc Sc84f Sc84 := mkK (consK Sc75k (consK Sc77k (consK Sc83k nilK))) Sc84w (by kernel_rfl) (by kernel_rfl)
theorem Sc85k : Okc Sc85f Sc85 := mkK nilK Sc85w (by kernel_rfl) (by kernel_rfl)
theorem Sc86k : Okc Sc86f Sc86 := mkF nilK Sc86w (by kernel_rfl) (by kernel_rfl)
theorem Sc87k : Okc Sc87f Sc87 := mkK (consK Sc86k nilK) Sc87w (by kernel_rfl) (by kernel_rfl)
theorem Sc88k : Okc Sc88f Sc88 := mkK nilK Sc88w (by kernel_rfl) (by kernel_rfl)
theorem Sc89k : Okc Sc89f Sc89 := mkK (consK Sc85k (consK Sc87k (consK Sc88k nilK))) Sc89w (by kernel_rfl) (by kernel_rfl)
end Go.RvC
