/- Calls of the program, each told by its own run. -/
import Derived.Test.YtgnfekfikifgiaaGreatGoD
import Derived.Test.YtgnfekfikifgiaaGreatElK
import Derived.Test.YtgnfekfikifgiaaGreatFk3
import Derived.Test.YtgnfekfikifgiaaGreatGoK1
namespace Go.RvC
open Go Go.Sy Go.E3
set_option maxRecDepth 100000
theorem Gl28x : ∀ k ∈ [Gl27g], GlIn P 43 [true, true, true, true, true] k := fun k hk => by
  rw [List.mem_singleton] at hk
  rw [hk]; exact Gl27g_ok
theorem Gl28_in : LgIn P [] 43 [true, true, true, true, true] Gl28 := LgIn.ofJ (jmGlIn_ok Gl28x) 2 Gl28w (by kernel_rfl)
theorem Gl28_ne : Gl28.c.neat 3 = true := by kernel_rfl
theorem Gl28g_ok : GlIn P 43 [true, true, true, true, true] Gl28g := fun N x hx => ⟨Gl28_in N x hx, Gl28_ne⟩
theorem Gl29x : ∀ k ∈ [Gl28g], GlIn P 43 [true, true, true, true, true] k := fun k hk => by
  rw [List.mem_singleton] at hk
  rw [hk]; exact Gl28g_ok
theorem Gl29_in : LgIn P [] 43 [true, true, true, true, true] Gl29 := LgIn.ofJ (jmGlIn_ok Gl29x) 2 Gl29w (by kernel_rfl)
theorem Gl29_ne : Gl29.c.neat 3 = true := by kernel_rfl
theorem Gl29g_ok : GlIn P 43 [true, true, true, true, true] Gl29g := fun N x hx => ⟨Gl29_in N x hx, Gl29_ne⟩
theorem Gl30x : ∀ k ∈ [Gl29g], GlIn P 43 [true, true, true, true, true] k := fun k hk => by
  rw [List.mem_singleton] at hk
  rw [hk]; exact Gl29g_ok
theorem Gl30_in : LgIn P [] 43 [true, true, true, true, true] Gl30 := LgIn.ofJ (jmGlIn_ok Gl30x) 2 Gl30w (by kernel_rfl)
theorem Gl30_ne : Gl30.c.neat 3 = true := by kernel_rfl
theorem Gl30g_ok : GlIn P 43 [true, true, true, true, true] Gl30g := fun N x hx => ⟨Gl30_in N x hx, Gl30_ne⟩
theorem Gl31x : ∀ k ∈ [Gl30g], GlIn P 43 [true, true, true, true, true] k := fun k hk => by
  rw [List.mem_singleton] at hk
  rw [hk]; exact Gl30g_ok
theorem Gl31_in : LgIn P [] 43 [true, true, true, true, true] Gl31 := LgIn.ofJ (jmGlIn_ok Gl31x) 2 Gl31w (by kernel_rfl)
theorem Gl31_ne : Gl31.c.neat 3 = true := by kernel_rfl
theorem Gl31g_ok : GlIn P 43 [true, true, true, true, true] Gl31g := fun N x hx => ⟨Gl31_in N x hx, Gl31_ne⟩
theorem Gl32x : ∀ k ∈ [Gl31g], GlIn P 43 [true, true, true, true, true] k := fun k hk => by
  rw [List.mem_singleton] at hk
  rw [hk]; exact Gl31g_ok
theorem Gl32_in : LgIn P [] 43 [true, true, true, true, true] Gl32 := LgIn.ofJ (jmGlIn_ok Gl32x) 2 Gl32w (by kernel_rfl)
theorem Gl32_ne : Gl32.c.neat 3 = true := by kernel_rfl
theorem Gl32g_ok : GlIn P 43 [true, true, true, true, true] Gl32g := fun N x hx => ⟨Gl32_in N x hx, Gl32_ne⟩
theorem Gl25x : ∀ p ∈ ([] : List (Pc × Tc)), TcOk P p.1 p.2 ∧ reachB (p.2.as.flatMap L.outs) p.2.pre = true := fun _ h => nomatch h
theorem Gl25_in : LgIn P Gl25f 43 [true, true, true, true, true] Gl25 := LgIn.ofB (runX_ok deck25_ok (extR_ok (tabF_ok Gl25x) (xx_ok _)) 0) Gl25w (by kernel_rfl)
theorem Gl25_ne : Gl25.c.neat 3 = true := by kernel_rfl
theorem Gl25g_ok : GlIn P 43 [true, true, true, true, true] Gl25g := fun N x hx => ⟨Gl25_in N x hx, Gl25_ne⟩
theorem Gl33x : ∀ p ∈ ([] : List (Pc × Tc)), TcOk P p.1 p.2 ∧ reachB (p.2.as.flatMap L.outs) p.2.pre = true := fun _ h => nomatch h
theorem Gl33_in : LgIn P Gl33f 43 [true, true, true, true, true] Gl33 := LgIn.ofB (runX_ok deck25_ok (extR_ok (tabF_ok Gl33x) (xx_ok _)) 0) Gl33w (by kernel_rfl)
theorem Gl33_ne : Gl33.c.neat 0 = true := by kernel_rfl
theorem Gl33g_ok : GlIn P 43 [true, true, true, true, true] Gl33g := fun N x hx => ⟨Gl33_in N x hx, Gl33_ne⟩
end Go.RvC
