/- Calls of the program, each told by its own run. -/
import Derived.Test.YtgnfekfikifgiaaGreatGoD
import Derived.Test.YtgnfekfikifgiaaGreatElK
import Derived.Test.YtgnfekfikifgiaaGreatFk3
namespace Go.RvC
open Go Go.Sy Go.E3
set_option maxRecDepth 100000
theorem Gc0x : ∀ p ∈ ([] : List (Pc × Tc)), TcOk P p.1 p.2 ∧ reachB (p.2.as.flatMap L.outs) p.2.pre = true := fun _ h => nomatch h
theorem Gc0_ok : TcOk P Gc0f Gc0 := TcOk.ofB (runX_ok deck25_ok (extR_ok (tabF_ok Gc0x) (xx_ok _)) 0) Gc0w (by kernel_rfl)
theorem Gc0g_ok : GcOk P Gc0g := ⟨Gc0_ok, by kernel_rfl⟩
theorem Gc1x : ∀ p ∈ ([] : List (Pc × Tc)), TcOk P p.1 p.2 ∧ reachB (p.2.as.flatMap L.outs) p.2.pre = true := fun _ h => nomatch h
theorem Gc1_ok : TcOk P Gc1f Gc1 := TcOk.ofB (runX_ok deck25_ok (extR_ok (tabF_ok Gc1x) (xx_ok _)) 0) Gc1w (by kernel_rfl)
theorem Gc1g_ok : GcOk P Gc1g := ⟨Gc1_ok, by kernel_rfl⟩
theorem Gc2x : ∀ p ∈ ([] : List (Pc × Tc)), TcOk P p.1 p.2 ∧ reachB (p.2.as.flatMap L.outs) p.2.pre = true := fun _ h => nomatch h
theorem Gc2_ok : TcOk P Gc2f Gc2 := TcOk.ofB (runX_ok deck25_ok (extR_ok (tabF_ok Gc2x) (xx_ok _)) 0) Gc2w (by kernel_rfl)
theorem Gc2g_ok : GcOk P Gc2g := ⟨Gc2_ok, by kernel_rfl⟩
theorem Gc3x : ∀ p ∈ ([] : List (Pc × Tc)), TcOk P p.1 p.2 ∧ reachB (p.2.as.flatMap L.outs) p.2.pre = true := fun _ h => nomatch h
theorem Gc3_ok : TcOk P Gc3f Gc3 := TcOk.ofB (runX_ok deck25_ok (extR_ok (tabF_ok Gc3x) (xx_ok _)) 0) Gc3w (by kernel_rfl)
theorem Gc3g_ok : GcOk P Gc3g := ⟨Gc3_ok, by kernel_rfl⟩
theorem Gc4x : ∀ p ∈ ([] : List (Pc × Tc)), TcOk P p.1 p.2 ∧ reachB (p.2.as.flatMap L.outs) p.2.pre = true := fun _ h => nomatch h
theorem Gc4_ok : TcOk P Gc4f Gc4 := TcOk.ofB (runX_ok deck25_ok (extR_ok (tabF_ok Gc4x) (xx_ok _)) 0) Gc4w (by kernel_rfl)
theorem Gc4g_ok : GcOk P Gc4g := ⟨Gc4_ok, by kernel_rfl⟩
theorem Gc5x : ∀ p ∈ ([] : List (Pc × Tc)), TcOk P p.1 p.2 ∧ reachB (p.2.as.flatMap L.outs) p.2.pre = true := fun _ h => nomatch h
theorem Gc5_ok : TcOk P Gc5f Gc5 := TcOk.ofB (runX_ok deck25_ok (extR_ok (tabF_ok Gc5x) (xx_ok _)) 0) Gc5w (by kernel_rfl)
theorem Gc5g_ok : GcOk P Gc5g := ⟨Gc5_ok, by kernel_rfl⟩
end Go.RvC
