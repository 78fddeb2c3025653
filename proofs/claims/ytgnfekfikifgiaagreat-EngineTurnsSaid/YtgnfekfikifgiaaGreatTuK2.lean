/- Calls of the program, each told by its own run. -/
import Derived.Test.YtgnfekfikifgiaaGreatTuD
import Derived.Test.YtgnfekfikifgiaaGreatTuB
namespace Go.RvC
open Go Go.Sy Go.E3
set_option maxRecDepth 100000
theorem Sc45k : Okc Sc45f Sc45 := mkK nilK Sc45w (by kernel_rfl) (by kernel_rfl)
theorem Sc46k : Okc Sc46f Sc46 := mkF nilK Sc46w (by kernel_rfl) (by kernel_rfl)
theorem Sc47k : Okc Sc47f Sc47 := mkK (consK Sc46k nilK) Sc47w (by kernel_rfl) (by kernel_rfl)
theorem Sc48k : Okc Sc48f Sc48 := mkF nilK Sc48w (by kernel_rfl) (by kernel_rfl)
theorem Sc49k : Okc Sc49f Sc49 := mkF nilK Sc49w (by kernel_rfl) (by kernel_rfl)
theorem Sc50k : Okc Sc50f Sc50 := mkF nilK Sc50w (by kernel_rfl) (by kernel_rfl)
theorem Sc51k : Okc Sc51f Sc51 := mkF nilK Sc51w (by kernel_rfl) (by kernel_rfl)
theorem Sc52k : Okc Sc52f Sc52 := mkF nilK Sc52w (by kernel_rfl) (by kernel_rfl)
theorem Sc53k : Okc Sc53f Sc53 := mkK (consK Sc48k (consK Sc49k (consK Sc50k (consK Sc51k (consK Sc52k nilK))))) Sc53w (by kernel_rfl) (by kernel_rfl)
theorem Sc54k : Okc Sc54f Sc54 := mkK (consK Sc45k (consK Sc47k (consK Sc53k nilK))) Sc54w (by kernel_rfl) (by kernel_rfl)
theorem Sc55k : Okc Sc55f Sc55 := mkK nilK Sc55w (by kernel_rfl) (by kernel_rfl)
theorem Sc56k : Okc Sc56f Sc56 := mkF nilK Sc56w (by kernel_rfl) (by kernel_rfl)
theorem Sc57k : Okc Sc57f Sc57 := mkK (consK Sc56k nilK) Sc57w (by kernel_rfl) (by kernel_rfl)
theorem Sc58k : Okc Sc58f Sc58 := mkK nilK Sc58w (by kernel_rfl) (by kernel_rfl)
theorem Sc59k : Okc Sc59f Sc59 := mkK (consK Sc55k (consK Sc57k (consK Sc58k nilK))) Sc59w (by kernel_rfl) (by kernel_rfl)
theorem Sc60k : Okc Sc60f Sc60 := mkK nilK Sc60w (by kernel_rfl) (by kernel_rfl)
theorem Sc61k : Okc Sc61f Sc61 := mkF nilK Sc61w (by kernel_rfl) (by kernel_rfl)
theorem Sc62k : Okc Sc62f Sc62 := mkK (consK Sc61k nilK) Sc62w (by kernel_rfl) (by kernel_rfl)
theorem Sc63k : Okc Sc63f Sc63 := mkF nilK Sc63w (by kernel_rfl) (by kernel_rfl)
theorem Sc64k : Okc Sc64f Sc64 := mkF nilK Sc64w (by kernel_rfl) (by kernel_rfl)
theorem Sc65k : Okc Sc65f Sc65 := mkF nilK Sc65w (by kernel_rfl) (by kernel_rfl)
theorem Sc66k : Okc Sc66f Sc66 := mkF nilK Sc66w (by kernel_rfl) (by kernel_rfl)
theorem Sc67k : Okc Sc67f Sc67 := mkF nilK Sc67w (by kernel_rfl) (by kernel_rfl)
theorem Sc68k : Okc Sc68f Sc68 := mkK (consK Sc63k (consK Sc64k (consK Sc65k (consK Sc66k (consK Sc67k nilK))))) Sc68w (by kernel_rfl) (by kernel_rfl)
theorem Sc69k : Okc Sc69f Sc69 := mkK (consK Sc60k (consK Sc62k (consK Sc68k nilK))) Sc69w (by kernel_rfl) (by kernel_rfl)
end Go.RvC
