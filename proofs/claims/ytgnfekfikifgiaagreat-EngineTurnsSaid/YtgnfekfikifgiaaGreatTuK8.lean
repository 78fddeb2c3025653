/- Calls of the program, each told by its own run. -/
import Derived.Test.YtgnfekfikifgiaaGreatTuD2
namespace Go.RvC
open Go Go.Sy Go.E3
set_option maxRecDepth 100000
theorem Sc179k : Okc Sc179f Sc179 := mkK nilK Sc179w (by kernel_rfl) (by kernel_rfl)
theorem Sc180k : Okc Sc180f Sc180 := mkF nilK Sc180w (by kernel_rfl) (by kernel_rfl)
theorem Sc181k : Okc Sc181f Sc181 := mkK (consK Sc180k nilK) Sc181w (by kernel_rfl) (by kernel_rfl)
theorem Sc182k : Okc Sc182f Sc182 := mkF nilK Sc182w (by kernel_rfl) (by kernel_rfl)
theorem Sc183k : Okc Sc183f Sc183 := mkF nilK Sc183w (by kernel_rfl) (by kernel_rfl)
theorem Sc184k : Okc Sc184f Sc184 := mkF nilK Sc184w (by kernel_rfl) (by kernel_rfl)
theorem Sc185k : Okc Sc185f Sc185 := mkF nilK Sc185w (by kernel_rfl) (by kernel_rfl)
theorem Sc186k : Okc Sc186f Sc186 := mkF nilK Sc186w (by kernel_rfl) (by kernel_rfl)
theorem Sc187k : Okc Sc187f Sc187 := mkK (consK Sc182k (consK Sc183k (consK Sc184k (consK Sc185k (consK Sc186k nilK))))) Sc187w (by kernel_rfl) (by kernel_rfl)
theorem Sc188k : Okc Sc188f Sc188 := mkK (consK Sc179k (consK Sc181k (consK Sc187k nilK))) Sc188w (by kernel_rfl) (by kernel_rfl)
theorem Sc189k : Okc Sc189f Sc189 := mkK nilK Sc189w (by kernel_rfl) (by kernel_rfl)
theorem Sc190k : Okc Sc190f Sc190 := mkF nilK Sc190w (by kernel_rfl) (by kernel_rfl)
theorem Sc191k : Okc Sc191f Sc191 := mkK (consK Sc190k nilK) Sc191w (by kernel_rfl) (by kernel_rfl)
theorem Sc192k : Okc Sc192f Sc192 := mkK nilK Sc192w (by kernel_rfl) (by kernel_rfl)
theorem Sc193k : Okc Sc193f Sc193 := mkK (consK Sc189k (consK Sc191k (consK Sc192k nilK))) Sc193w (by kernel_rfl) (by kernel_rfl)
theorem Sc194k : Okc Sc194f Sc194 := mkK nilK Sc194w (by kernel_rfl) (by kernel_rfl)
theorem Sc195k : Okc Sc195f Sc195 := mkF nilK Sc195w (by kernel_rfl) (by kernel_rfl)
theorem Sc196k : Okc Sc196f Sc196 := mkK (consK Sc195k nilK) Sc196w (by kernel_rfl) (by kernel_rfl)
theorem Sc197k : Okc Sc197f Sc197 := mkK nilK Sc197w (by kernel_rfl) (by kernel_rfl)
theorem Sc198k : Okc Sc198f Sc198 := mkK (consK Sc194k (consK Sc196k (consK Sc197k nilK))) Sc198w (by kernel_rfl) (by kernel_rfl)
end Go.RvC
