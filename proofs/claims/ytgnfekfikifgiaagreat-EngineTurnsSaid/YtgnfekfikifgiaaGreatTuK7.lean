/- Calls of the program, each told by its own run. -/
import Derived.Test.YtgnfekfikifgiaaGreatTuD2
namespace Go.RvC
open Go Go.Sy Go.E3
set_option maxRecDepth 100000
theorem Sc151k : Okc Sc151f Sc151 := mkK nilK Sc151w (by kernel_rfl) (by kernel_rfl)
theorem Sc152k : Okc Sc152f Sc152 := mkF nilK Sc152w (by kernel_rfl) (by kernel_rfl)
theorem Sc153k : Okc Sc153f Sc153 := mkK (consK Sc152k nilK) Sc153w (by kernel_rfl) (by kernel_rfl)
theorem Sc154k : Okc Sc154f Sc154 := mkF nilK Sc154w (by kernel_rfl) (by kernel_rfl)
theorem Sc155k : Okc Sc155f Sc155 := mkF nilK Sc155w (by kernel_rfl) (by kernel_rfl)
theorem Sc156k : Okc Sc156f Sc156 := mkF nilK Sc156w (by kernel_rfl) (by kernel_rfl)
theorem Sc157k : Okc Sc157f Sc157 := mkF nilK Sc157w (by kernel_rfl) (by kernel_rfl)
theorem Sc158k : Okc Sc158f Sc158 := mkF nilK Sc158w (by kernel_rfl) (by kernel_rfl)
theorem Sc159k : Okc Sc159f Sc159 := mkK (consK Sc154k (consK Sc155k (consK Sc156k (consK Sc157k (consK Sc158k nilK))))) Sc159w (by kernel_rfl) (by kernel_rfl)
theorem Sc160k : Okc Sc160f Sc160 := mkK (consK Sc151k (consK Sc153k (consK Sc159k nilK))) Sc160w (by kernel_rfl) (by kernel_rfl)
theorem Sc161k : Okc Sc161f Sc161 := mkK nilK Sc161w (by kernel_rfl) (by kernel_rfl)
theorem Sc162k : Okc Sc162f Sc162 := mkF nilK Sc162w (by kernel_rfl) (by kernel_rfl)
theorem Sc163k : Okc Sc163f Sc163 := mkK (consK Sc162k nilK) Sc163w (by kernel_rfl) (by kernel_rfl)
theorem Sc164k : Okc Sc164f Sc164 := mkK nilK Sc164w (by kernel_rfl) (by kernel_rfl)
theorem Sc165k : Okc Sc165f Sc165 := mkK (consK Sc161k (consK Sc163k (consK Sc164k nilK))) Sc165w (by kernel_rfl) (by kernel_rfl)
theorem Sc166k : Okc Sc166f Sc166 := mkK nilK Sc166w (by kernel_rfl) (by kernel_rfl)
theorem Sc167k : Okc Sc167f Sc167 := mkF nilK Sc167w (by kernel_rfl) (by kernel_rfl)
theorem Sc168k : Okc Sc168f Sc168 := mkK (consK Sc167k nilK) Sc168w (by kernel_rfl) (by kernel_rfl)
theorem Sc169k : Okc Sc169f Sc169 := mkF nilK Sc169w (by kernel_rfl) (by kernel_rfl)
theorem Sc170k : Okc Sc170f Sc170 := mkF nilK Sc170w (by kernel_rfl) (by kernel_rfl)
theorem Sc171k : Okc Sc171f Sc171 := mkF nilK Sc171w (by kernel_rfl) (by kernel_rfl)
theorem Sc172k : Okc Sc172f Sc172 := mkK (consK Sc169k (consK Sc170k (consK Sc171k nilK))) Sc172w (by kernel_rfl) (by kernel_rfl)
theorem Sc173k : Okc Sc173f Sc173 := mkK (consK Sc166k (consK Sc168k (consK Sc172k nilK))) Sc173w (by kernel_rfl) (by kernel_rfl)
theorem Sc174k : Okc Sc174f Sc174 := mkK nilK Sc174w (by kernel_rfl) (by kernel_rfl)
theorem Sc175k : Okc Sc175f Sc175 := mkF nilK Sc175w (by kernel_rfl) (by kernel_rfl)
theorem Sc176k : Okc Sc176f Sc176 := mkK (consK Sc175k nilK) Sc176w (by kernel_rfl) (by kernel_rfl)
theorem Sc177k : Okc Sc177f Sc177 := mkK nilK Sc177w (by kernel_rfl) (by kernel_rfl)
theorem Sc178k : Okc Sc178f Sc178 := mkK (consK Sc174k (consK Sc176k (consK Sc177k nilK))) Sc178w (by kernel_rfl) (by kernel_rfl)
end Go.RvC
