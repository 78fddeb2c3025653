/- Calls of the program, each told by its own run. -/
import Derived.Test.YtgnfekfikifgiaaGreatTuK0
import Derived.Test.YtgnfekfikifgiaaGreatTuK1
import Derived.Test.YtgnfekfikifgiaaGreatTuK2
import Derived.Test.YtgnfekfikifgiaaGreatTuK3
import Derived.Test.YtgnfekfikifgiaaGreatTuK4
import Derived.Test.YtgnfekfikifgiaaGreatTuK5
import Derived.Test.YtgnfekfikifgiaaGreatTuK6
import Derived.Test.YtgnfekfikifgiaaGreatTuK7
import Derived.Test.YtgnfekfikifgiaaGreatTuK8
import Derived.Test.YtgnfekfikifgiaaGreatTuT0
import Derived.Test.YtgnfekfikifgiaaGreatTuT1
import Derived.Test.YtgnfekfikifgiaaGreatTuT2
namespace Go.RvC
open Go Go.Sy Go.E3
set_option maxRecDepth 100000
/-- What the law's run tells: is the sum that the guest came to the law's own? -/
noncomputable def resT (j : Nat) : T := .bin .eq (.lit (.ofNat (5 * (j + 2) + (j + 2) * (j + 1) / 2))) (.un (.wrap .u32) (.bin .add (.bin .mul (.lit 5) (.bin .add (.bin .tmod (.v 0 0 255) (.lit 12)) (.lit 2))) (.bin .tdiv (.un (.wrap .u32) (.bin .mul (.bin .add (.bin .tmod (.v 0 0 255) (.lit 12)) (.lit 2)) (.bin .add (.bin .tmod (.v 0 0 255) (.lit 12)) (.lit 1)))) (.lit 2))))
noncomputable def lawW (j : Nat) : Card := ⟨(lawU j).ps, fT j, .a (.c (.bool (resT j)))⟩
theorem lawW0 : CardOk P 4 (lawW 0) := CardOk.ofX deck25_ok (extR_ok (tabF_ok (consK Sc0k (consK Sc1k (consK Sc9k (consK Sc14k (consK Sc24k (consK V0c4k (consK V0c9k nilK)))))))) (xx_ok _)) 1 (by kernel_rfl)
theorem lawW1 : CardOk P 4 (lawW 1) := CardOk.ofX deck25_ok (extR_ok (tabF_ok (consK Sc0k (consK Sc1k (consK Sc9k (consK Sc14k (consK Sc24k (consK Sc29k (consK Sc39k (consK V1c4k (consK V1c9k nilK)))))))))) (xx_ok _)) 1 (by kernel_rfl)
theorem lawW2 : CardOk P 4 (lawW 2) := CardOk.ofX deck25_ok (extR_ok (tabF_ok (consK Sc0k (consK Sc1k (consK Sc9k (consK Sc14k (consK Sc24k (consK Sc29k (consK Sc39k (consK Sc44k (consK Sc54k (consK V2c4k (consK V2c9k nilK)))))))))))) (xx_ok _)) 1 (by kernel_rfl)
theorem lawW3 : CardOk P 4 (lawW 3) := CardOk.ofX deck25_ok (extR_ok (tabF_ok (consK Sc0k (consK Sc1k (consK Sc9k (consK Sc14k (consK Sc24k (consK Sc29k (consK Sc39k (consK Sc44k (consK Sc54k (consK Sc59k (consK Sc69k (consK V3c4k (consK V3c9k nilK)))))))))))))) (xx_ok _)) 1 (by kernel_rfl)
theorem lawW4 : CardOk P 4 (lawW 4) := CardOk.ofX deck25_ok (extR_ok (tabF_ok (consK Sc0k (consK Sc1k (consK Sc9k (consK Sc14k (consK Sc24k (consK Sc29k (consK Sc39k (consK Sc44k (consK Sc54k (consK Sc59k (consK Sc69k (consK Sc74k (consK Sc84k (consK V4c4k (consK V4c9k nilK)))))))))))))))) (xx_ok _)) 1 (by kernel_rfl)
theorem lawW5 : CardOk P 4 (lawW 5) := CardOk.ofX deck25_ok (extR_ok (tabF_ok (consK Sc0k (consK Sc1k (consK Sc9k (consK Sc14k (consK Sc24k (consK Sc29k (consK Sc39k (consK Sc44k (consK Sc54k (consK Sc59k (consK Sc69k (consK Sc74k (consK Sc84k (consK Sc89k (consK Sc99k (consK V5c4k (consK V5c9k nilK)))))))))))))))))) (xx_ok _)) 1 (by kernel_rfl)
theorem lawW6 : CardOk P 4 (lawW 6) := CardOk.ofX deck25_ok (extR_ok (tabF_ok (consK Sc0k (consK Sc1k (consK Sc9k (consK Sc14k (consK Sc24k (consK Sc29k (consK Sc39k (consK Sc44k (consK Sc54k (consK Sc59k (consK Sc69k (consK Sc74k (consK Sc84k (consK Sc89k (consK Sc99k (consK Sc104k (consK Sc114k (consK V6c4k (consK V6c9k nilK)))))))))))))))))))) (xx_ok _)) 1 (by kernel_rfl)
theorem lawW7 : CardOk P 4 (lawW 7) := CardOk.ofX deck25_ok (extR_ok (tabF_ok (consK Sc0k (consK Sc1k (consK Sc9k (consK Sc14k (consK Sc24k (consK Sc29k (consK Sc39k (consK Sc44k (consK Sc54k (consK Sc59k (consK Sc69k (consK Sc74k (consK Sc84k (consK Sc89k (consK Sc99k (consK Sc104k (consK Sc114k (consK Sc119k (consK Sc130k (consK V7c4k (consK V7c9k nilK)))))))))))))))))))))) (xx_ok _)) 1 (by kernel_rfl)
theorem lawW8 : CardOk P 4 (lawW 8) := CardOk.ofX deck25_ok (extR_ok (tabF_ok (consK Sc0k (consK Sc1k (consK Sc9k (consK Sc14k (consK Sc24k (consK Sc29k (consK Sc39k (consK Sc44k (consK Sc54k (consK Sc59k (consK Sc69k (consK Sc74k (consK Sc84k (consK Sc89k (consK Sc99k (consK Sc104k (consK Sc114k (consK Sc119k (consK Sc130k (consK Sc135k (consK Sc145k (consK V8c4k (consK V8c9k nilK)))))))))))))))))))))))) (xx_ok _)) 1 (by kernel_rfl)
theorem lawW9 : CardOk P 4 (lawW 9) := CardOk.ofX deck25_ok (extR_ok (tabF_ok (consK Sc0k (consK Sc1k (consK Sc9k (consK Sc14k (consK Sc24k (consK Sc29k (consK Sc39k (consK Sc44k (consK Sc54k (consK Sc59k (consK Sc69k (consK Sc74k (consK Sc84k (consK Sc89k (consK Sc99k (consK Sc104k (consK Sc114k (consK Sc119k (consK Sc130k (consK Sc135k (consK Sc145k (consK Sc150k (consK Sc160k (consK V9c4k (consK V9c9k nilK)))))))))))))))))))))))))) (xx_ok _)) 1 (by kernel_rfl)
theorem lawW10 : CardOk P 4 (lawW 10) := CardOk.ofX deck25_ok (extR_ok (tabF_ok (consK Sc0k (consK Sc1k (consK Sc9k (consK Sc14k (consK Sc24k (consK Sc29k (consK Sc39k (consK Sc44k (consK Sc54k (consK Sc59k (consK Sc69k (consK Sc74k (consK Sc84k (consK Sc89k (consK Sc99k (consK Sc104k (consK Sc114k (consK Sc119k (consK Sc130k (consK Sc135k (consK Sc145k (consK Sc150k (consK Sc160k (consK Sc165k (consK Sc173k (consK V10c4k (consK V10c9k nilK)))))))))))))))))))))))))))) (xx_ok _)) 1 (by kernel_rfl)
theorem lawW11 : CardOk P 4 (lawW 11) := CardOk.ofX deck25_ok (extR_ok (tabF_ok (consK Sc0k (consK Sc1k (consK Sc9k (consK Sc14k (consK Sc24k (consK Sc29k (consK Sc39k (consK Sc44k (consK Sc54k (consK Sc59k (consK Sc69k (consK Sc74k (consK Sc84k (consK Sc89k (consK Sc99k (consK Sc104k (consK Sc114k (consK Sc119k (consK Sc130k (consK Sc135k (consK Sc145k (consK Sc150k (consK Sc160k (consK Sc165k (consK Sc173k (consK Sc178k (consK Sc188k (consK Sc193k (consK Sc198k nilK)))))))))))))))))))))))))))))) (xx_ok _)) 1 (by kernel_rfl)
theorem lawsT (j : Nat) (hj : j < 12) : CardOk P 4 (lawW j) := by
  have h : j = 0 ∨ j = 1 ∨ j = 2 ∨ j = 3 ∨ j = 4 ∨ j = 5 ∨ j = 6 ∨ j = 7 ∨ j = 8 ∨ j = 9 ∨ j = 10 ∨ j = 11 := by omega
  rcases h with rfl | rfl | rfl | rfl | rfl | rfl | rfl | rfl | rfl | rfl | rfl | rfl
  · exact lawW0
  · exact lawW1
  · exact lawW2
  · exact lawW3
  · exact lawW4
  · exact lawW5
  · exact lawW6
  · exact lawW7
  · exact lawW8
  · exact lawW9
  · exact lawW10
  · exact lawW11
noncomputable def eT (v : Nat) : Env := ⟨fun _ => ⟨(v : Int), fun _ => 0⟩, fun _ _ => [], fun _ => .nilIface⟩
theorem factsT_all : ((List.range 256).all fun v => (fT (v % 12)).all fun p => (p.1.den (eT v) != 0) == p.2) = true := by kernel_rfl
/-- The facts of a class hold of all its numbers. -/
theorem factsT (v : Nat) (hv : v < 256) : pcOk (eT v) (fT (v % 12)) := by
  have h := (List.all_eq_true.1 factsT_all) v (List.mem_range.2 hv)
  intro p hp
  exact eq_of_beq ((List.all_eq_true.1 h) p hp)
theorem resT_all : ((List.range 256).all fun v => (resT (v % 12)).den (eT v) != 0) = true := by kernel_rfl
theorem resT_ok (v : Nat) (hv : v < 256) : (resT (v % 12)).tr (eT v) = true := (List.all_eq_true.1 resT_all) v (List.mem_range.2 hv)
end Go.RvC
