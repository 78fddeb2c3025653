/- Calls of the program, each told by its own run. -/
import Derived.Test.YtgnfekfikifgiaaGreatTuD
import Derived.Test.YtgnfekfikifgiaaGreatTuB
namespace Go.RvC
open Go Go.Sy Go.E3
set_option maxRecDepth 100000
theorem Sc0k : Okc Sc0f Sc0 := mkK nilK Sc0w (by kernel_rfl) (by kernel_rfl)
theorem Sc1k : Okc Sc1f Sc1 := mkK nilK Sc1w (by kernel_rfl) (by kernel_rfl)
theorem Sc2k : Okc Sc2f Sc2 := mkK nilK Sc2w (by kernel_rfl) (by kernel_rfl)
theorem Sc3k : Okc Sc3f Sc3 := mkF nilK Sc3w (by kernel_rfl) (by kernel_rfl)
theorem Sc4k : Okc Sc4f Sc4 := mkK (consK Sc3k nilK) Sc4w (by kernel_rfl) (by kernel_rfl)
theorem Sc5k : Okc Sc5f Sc5 := mkF nilK Sc5w (by kernel_rfl) (by kernel_rfl)
theorem Sc6k : Okc Sc6f Sc6 := mkF nilK Sc6w (by kernel_rfl) (by kernel_rfl)
theorem Sc7k : Okc Sc7f Sc7 := mkF nilK Sc7w (by kernel_rfl) (by kernel_rfl)
theorem Sc8k : Okc Sc8f Sc8 := mkK (consK Sc5k (consK Sc6k (consK Sc7k nilK))) Sc8w (by kernel_rfl) (by kernel_rfl)
theorem Sc9k : Okc Sc9f Sc9 := mkK (consK Sc2k (consK Sc4k (consK Sc8k nilK))) Sc9w (by kernel_rfl) (by kernel_rfl)
theorem Sc10k : Okc Sc10f Sc10 := mkK nilK Sc10w (by kernel_rfl) (by kernel_rfl)
theorem Sc11k : Okc Sc11f Sc11 := mkF nilK Sc11w (by kernel_rfl) (by kernel_rfl)
theorem Sc12k : Okc Sc12f Sc12 := mkK (consK Sc11k nilK) Sc12w (by kernel_rfl) (by kernel_rfl)
theorem Sc13k : Okc Sc13f Sc13 := mkK nilK Sc13w (by kernel_rfl) (by kernel_rfl)
theorem Sc14k : Okc Sc14f Sc14 := mkK (consK Sc10k (consK Sc12k (consK Sc13k nilK))) Sc14w (by kernel_rfl) (by kernel_rfl)
theorem Sc15k : Okc Sc15f Sc15 := mkK nilK Sc15w (by kernel_rfl) (by kernel_rfl)
theorem Sc16k : Okc Sc16f Sc16 := mkF nilK Sc16w (by kernel_rfl) (by kernel_rfl)
theorem Sc17k : Okc Sc17f Sc17 := mkK (consK Sc16k nilK) Sc17w (by kernel_rfl) (by kernel_rfl)
theorem Sc18k : Okc Sc18f Sc18 := mkF nilK Sc18w (by kernel_rfl) (by kernel_rfl)
theorem Sc19k : Okc Sc19f Sc19 := mkF nilK Sc19w (by kernel_rfl) (by kernel_rfl)
theorem Sc20k : Okc Sc20f Sc20 := mkF nilK Sc20w (by kernel_rfl) (by kernel_rfl)
theorem Sc21k : Okc Sc21f Sc21 := mkF nilK Sc21w (by kernel_rfl) (by kernel_rfl)
theorem Sc22k : Okc Sc22f Sc22 := mkF nilK Sc22w (by kernel_rfl) (by kernel_rfl)
theorem Sc23k : Okc Sc23f Sc23 := mkK (consK Sc18k (consK Sc19k (consK Sc20k (consK Sc21k (consK Sc22k nilK))))) Sc23w (by kernel_rfl) (by kernel_rfl)
theorem Sc24k : Okc Sc24f Sc24 := mkK (consK Sc15k (consK Sc17k (consK Sc23k nilK))) Sc24w (by kernel_rfl) (by kernel_rfl)
end Go.RvC
