/- Calls of the program, each told by its own run. -/
import Derived.Test.YtgnfekfikifgiaaGreatTuD
import Derived.Test.YtgnfekfikifgiaaGreatTuB
namespace Go.RvC
open Go Go.Sy Go.E3
set_option maxRecDepth 100000
theorem Sc25k : Okc Sc25f Sc25 := mkK nilK Sc25w (by kernel_rfl) (by kernel_rfl)
theorem Sc26k : Okc Sc26f Sc26 := mkF nilK Sc26w (by kernel_rfl) (by kernel_rfl)
theorem Sc27k : Okc Sc27f Sc27 := mkK (consK Sc26k nilK) Sc27w (by kernel_rfl) (by kernel_rfl)
theorem Sc28k : Okc Sc28f Sc28 := mkK nilK Sc28w (by kernel_rfl) (by kernel_rfl)
theorem Sc29k : Okc Sc29f Sc29 := mkK (consK Sc25k (consK Sc27k (consK Sc28k nilK))) Sc29w (by kernel_rfl) (by kernel_rfl)
theorem Sc30k : Okc Sc30f Sc30 := mkK nilK Sc30w (by kernel_rfl) (by kernel_rfl)
theorem Sc31k : Okc Sc31f Sc31 := mkF nilK Sc31w (by kernel_rfl) (by kernel_rfl)
theorem Sc32k : Okc Sc32f Sc32 := mkK (consK Sc31k nilK) Sc32w (by kernel_rfl) (by kernel_rfl)
theorem Sc33k : Okc Sc33f Sc33 := mkF nilK Sc33w (by kernel_rfl) (by kernel_rfl)
theorem Sc34k : Okc Sc34f Sc34 := mkF nilK Sc34w (by kernel_rfl) (by kernel_rfl)
theorem Sc35k : Okc Sc35f Sc35 := mkF nilK Sc35w (by kernel_rfl) (by kernel_rfl)
theorem Sc36k : Okc Sc36f Sc36 := mkF nilK Sc36w (by kernel_rfl) (by kernel_rfl)
theorem Sc37k : Okc Sc37f Sc37 := mkF nilK Sc37w (by kernel_rfl) (by kernel_rfl)
theorem Sc38k : Okc Sc38f Sc38 := mkK (consK Sc33k (consK Sc34k (consK Sc35k (consK Sc36k (consK Sc37k nilK))))) Sc38w (by kernel_rfl) (by kernel_rfl)
theorem Sc39k : Okc Sc39f Sc39 := mkK (consK Sc30k (consK Sc32k (consK Sc38k nilK))) Sc39w (by kernel_rfl) (by kernel_rfl)
theorem Sc40k : Okc Sc40f Sc40 := mkK nilK Sc40w (by kernel_rfl) (by kernel_rfl)
theorem Sc41k : Okc Sc41f Sc41 := mkF nilK Sc41w (by kernel_rfl) (by kernel_rfl)
theorem Sc42k : Okc Sc42f Sc42 := mkK (consK Sc41k nilK) Sc42w (by kernel_rfl) (by kernel_rfl)
theorem Sc43k : Okc Sc43f Sc43 := mkK nilK Sc43w (by kernel_rfl) (by kernel_rfl)
theorem Sc44k : Okc Sc44f Sc44 := mkK (consK Sc40k (consK Sc42k (consK Sc43k nilK))) Sc44w (by kernel_rfl) (by kernel_rfl)
end Go.RvC
