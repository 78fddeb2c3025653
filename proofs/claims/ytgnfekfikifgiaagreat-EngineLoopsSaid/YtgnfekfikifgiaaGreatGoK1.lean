/- Calls of the program, each told by its own run. -/
import Derived.Test.YtgnfekfikifgiaaGreatGoD
import Derived.Test.YtgnfekfikifgiaaGreatElK
import Derived.Test.YtgnfekfikifgiaaGreatFk3
namespace Go.RvC
open Go Go.Sy Go.E3
set_option maxRecDepth 100000
theorem Gc201x : ∀ p ∈ ([] : List (Pc × Tc)), TcOk P p.1 p.2 ∧ reachB (p.2.as.flatMap L.outs) p.2.pre = true := fun _ h => nomatch h
theorem Gc201_ok : TcOk P Gc201f Gc201 := TcOk.ofBL (runL1_ok (runX_ok deck25_ok (extR_ok (tabF_ok Gc201x) (xx_ok _)) 0) fk25_ok) Gc201w (by kernel_rfl)
theorem Gc201_re : reachB (Gc201.as.flatMap L.outs) Gc201.pre = true := by kernel_rfl
theorem Gc200x : ∀ p ∈ [(Gc201f, Gc201)], TcOk P p.1 p.2 ∧ reachB (p.2.as.flatMap L.outs) p.2.pre = true := fun p hp => by
  simp only [List.mem_cons, List.not_mem_nil, or_false] at hp
  rcases hp with rfl
  · exact ⟨Gc201_ok, Gc201_re⟩
theorem Gc200_ok : TcOk P Gc200f Gc200 := TcOk.ofB (runX_ok deck25_ok (extR_ok (tabF_ok Gc200x) (xx_ok _)) 0) Gc200w (by kernel_rfl)
theorem Gc200g_ok : GcOk P Gc200g := ⟨Gc200_ok, by kernel_rfl⟩
theorem Gc500x : ∀ p ∈ ([] : List (Pc × Tc)), TcOk P p.1 p.2 ∧ reachB (p.2.as.flatMap L.outs) p.2.pre = true := fun _ h => nomatch h
theorem Gc500_ok : TcOk P Gc500f Gc500 := TcOk.ofB (runX_ok deck25_ok (extR_ok (tabF_ok Gc500x) (xx_ok _)) 0) Gc500w (by kernel_rfl)
theorem Gc500g_ok : GcOk P Gc500g := ⟨Gc500_ok, by kernel_rfl⟩
theorem Gc601x : ∀ p ∈ ([] : List (Pc × Tc)), TcOk P p.1 p.2 ∧ reachB (p.2.as.flatMap L.outs) p.2.pre = true := fun _ h => nomatch h
theorem Gc601_ok : TcOk P Gc601f Gc601 := TcOk.ofBL (runL1_ok (runX_ok deck25_ok (extR_ok (tabF_ok Gc601x) (xx_ok _)) 0) fk3_ok) Gc601w (by kernel_rfl)
theorem Gc601_re : reachB (Gc601.as.flatMap L.outs) Gc601.pre = true := by kernel_rfl
theorem Gc600x : ∀ p ∈ [(Gc601f, Gc601)], TcOk P p.1 p.2 ∧ reachB (p.2.as.flatMap L.outs) p.2.pre = true := fun p hp => by
  simp only [List.mem_cons, List.not_mem_nil, or_false] at hp
  rcases hp with rfl
  · exact ⟨Gc601_ok, Gc601_re⟩
theorem Gc600_ok : TcOk P Gc600f Gc600 := TcOk.ofB (runX_ok deck25_ok (extR_ok (tabF_ok Gc600x) (xx_ok _)) 0) Gc600w (by kernel_rfl)
theorem Gc600g_ok : GcOk P Gc600g := ⟨Gc600_ok, by kernel_rfl⟩
theorem Gc602x : ∀ p ∈ ([] : List (Pc × Tc)), TcOk P p.1 p.2 ∧ reachB (p.2.as.flatMap L.outs) p.2.pre = true := fun _ h => nomatch h
theorem Gc602_ok : TcOk P Gc602f Gc602 := TcOk.ofB (runX_ok deck25_ok (extR_ok (tabF_ok Gc602x) (xx_ok _)) 0) Gc602w (by kernel_rfl)
theorem Gc602g_ok : GcOk P Gc602g := ⟨Gc602_ok, by kernel_rfl⟩
theorem Gl27x : ∀ p ∈ ([] : List (Pc × Tc)), TcOk P p.1 p.2 ∧ reachB (p.2.as.flatMap L.outs) p.2.pre = true := fun _ h => nomatch h
theorem Gl27_in : LgIn P Gl27f 43 [true, true, true, true, true] Gl27 := LgIn.ofB (runX_ok deck25_ok (extR_ok (tabF_ok Gl27x) (xx_ok _)) 0) Gl27w (by kernel_rfl)
theorem Gl27_ne : Gl27.c.neat 3 = true := by kernel_rfl
theorem Gl27g_ok : GlIn P 43 [true, true, true, true, true] Gl27g := fun N x hx => ⟨Gl27_in N x hx, Gl27_ne⟩
end Go.RvC
