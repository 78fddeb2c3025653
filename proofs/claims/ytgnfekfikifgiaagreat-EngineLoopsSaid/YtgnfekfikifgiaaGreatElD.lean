/- Calls of the program, each told by its own run. -/
import Derived.Test.YtgnfekfikifgiaaGreatRvZ
import Derived.Test.YtgnfekfikifgiaaGreatCx
import Derived.Test.YtgnfekfikifgiaaGreatCxi64
import Derived.Test.YtgnfekfikifgiaaGreatTcB
namespace Go.RvC
open Go Go.Sy Go.E3
noncomputable section
noncomputable def known25 : Card := ⟨[], [], b1⟩
noncomputable def known28 : Card := ⟨[], [], b1⟩
/-- Calls told by theorems of their own: slices.Collect(maps.Keys(m)) of at most one key. -/
noncomputable def xx : Pc → Run := fun pc => extR (colX .u32 244 245 24 pc) (colX .i64 65 67 3 pc)
theorem xx_ok (pc : Pc) : CallOk P pc (xx pc) := extR_ok (colX_ok Col.colOk pc) (colX_ok Coli64.colOk pc)
/-- The operations that fork. -/
noncomputable def fk25 : Fk := orFk fkNext (fkCol .u32 244 245 24)
theorem fk25_ok : FkOk P fk25 := orFk_ok fkNext_ok (fkCol_ok Col.colOk2)
noncomputable def mT (i : Nat) (n j : Int) : T := .bin .eq (.bin .tmod (.v i 0 255) (.lit n)) (.lit j)
noncomputable def lawT (j : Nat) : Card := ⟨[.a (.c (.int .u8 (.v 0 0 255)))], [(mT 0 12 j, true)], b1⟩
noncomputable def lawF (j : Nat) : Card := ⟨[.a (.c (.int .u8 (.v 0 0 255)))], [(mT 0 12 j, true)], b1⟩
noncomputable def lawL (j : Nat) : Card := ⟨[.a (.c (.int .u8 (.v 0 0 255))), .a (.c (.int .u16 (.v 1 0 65535)))], [(mT 0 60 j, true)], b1⟩
end
end Go.RvC
