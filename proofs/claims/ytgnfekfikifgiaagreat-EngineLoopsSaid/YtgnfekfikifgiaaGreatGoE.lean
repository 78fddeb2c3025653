/- Calls of the program, each told by its own run. -/
import Derived.Test.YtgnfekfikifgiaaGreatGoK0
import Derived.Test.YtgnfekfikifgiaaGreatGoK1
import Derived.Test.YtgnfekfikifgiaaGreatGoK2
namespace Go.RvC
open Go Go.Sy Go.E3
set_option maxRecDepth 100000
/-- The law's second number in one range or the other. -/
noncomputable def wT : T := .bin .lt (.bin .tmod (.v 1 0 65535) (.lit 5000)) (.lit 4500)
noncomputable def lawM (j : Nat) (s : Bool) : Card := ⟨[.a (.c (.int .u8 (.v 0 0 255))), .a (.c (.int .u16 (.v 1 0 65535)))], [(wT, s), (mT 0 60 j, true)], b1⟩
noncomputable def GT : List Gc := [Gc0g, Gc1g, Gc2g, Gc3g, Gc4g, Gc5g, Gc200g, Gc500g, Gc600g, Gc602g]
noncomputable def LT : List Gl := [Gl32g, Gl31g, Gl30g, Gl29g, Gl28g, Gl27g, Gl25g, Gl33g]
theorem GT_ok : ∀ k ∈ [Gc0g, Gc1g, Gc2g, Gc3g, Gc4g, Gc5g, Gc200g, Gc500g, Gc600g, Gc602g], GcOk P k := fun k hk => by
  simp only [List.mem_cons, List.not_mem_nil, or_false] at hk
  rcases hk with rfl | rfl | rfl | rfl | rfl | rfl | rfl | rfl | rfl | rfl
  · exact Gc0g_ok
  · exact Gc1g_ok
  · exact Gc2g_ok
  · exact Gc3g_ok
  · exact Gc4g_ok
  · exact Gc5g_ok
  · exact Gc200g_ok
  · exact Gc500g_ok
  · exact Gc600g_ok
  · exact Gc602g_ok
theorem LT_ok : ∀ k ∈ [Gl32g, Gl31g, Gl30g, Gl29g, Gl28g, Gl27g, Gl25g, Gl33g], GlIn P 43 [true, true, true, true, true] k := fun k hk => by
  simp only [List.mem_cons, List.not_mem_nil, or_false] at hk
  rcases hk with rfl | rfl | rfl | rfl | rfl | rfl | rfl | rfl
  · exact Gl32g_ok
  · exact Gl31g_ok
  · exact Gl30g_ok
  · exact Gl29g_ok
  · exact Gl28g_ok
  · exact Gl27g_ok
  · exact Gl25g_ok
  · exact Gl33g_ok
/-- What the law's run asks first: told calls, the loop's pieces. -/
noncomputable def lx (pc : Pc) : Run := extR (gcX pc GT) (extR (ifR (fstIs 1 5) (runP P (runX P pc deck25 (extR (gcX pc GT) (xx pc)) 0) pc 43 [true, true, true, true, true] (jmGl pc LT))) (xx pc))
theorem lx_ok (pc : Pc) : CallOk P pc (lx pc) := extR_ok (gcX_ok GT_ok) (extR_ok (ifR_ok (runP_ok (runX_ok deck25_ok (extR_ok (gcX_ok GT_ok) (xx_ok pc)) 0) (jmGlIn_ok LT_ok))) (xx_ok pc))
end Go.RvC
