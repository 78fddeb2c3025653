/- Calls of the program, each told by its own run. -/
import Derived.Test.YtgnfekfikifgiaaGreatElK
namespace Go.RvC
open Go Go.Sy Go.E3
/-- A told call that holds, where its facts do. -/
def Okc (f : Pc) (c : Tc) : Prop := TcOk P f c ∧ reachB (c.as.flatMap L.outs) c.pre = true
def OkL (l : List (Pc × Tc)) : Prop := ∀ p ∈ l, TcOk P p.1 p.2 ∧ reachB (p.2.as.flatMap L.outs) p.2.pre = true
theorem nilK : OkL [] := fun _ h => nomatch h
theorem consK {f : Pc} {c : Tc} {l : List (Pc × Tc)} (h : Okc f c) (t : OkL l) : OkL ((f, c) :: l) := fun p hp => by
  rcases List.mem_cons.1 hp with rfl | hp
  · exact h
  · exact t p hp
/-- A run with told calls. -/
noncomputable def runK (f : Pc) (l : List (Pc × Tc)) : Run := runX P f deck25 (extR (tabF f l) (xx f)) 0
theorem runK_ok {f : Pc} {l : List (Pc × Tc)} (h : OkL l) : CallOk P f (runK f l) := runX_ok deck25_ok (extR_ok (tabF_ok h) (xx_ok _)) 0
theorem mkK {f : Pc} {c : Tc} {l : List (Pc × Tc)} (h : OkL l) (w : List Pt) (e : tcB (runK f l) c w = true) (r : reachB (c.as.flatMap L.outs) c.pre = true) : Okc f c := ⟨TcOk.ofB (runK_ok h) w e, r⟩
theorem mkF {f : Pc} {c : Tc} {l : List (Pc × Tc)} (h : OkL l) (w : List (List Pt)) (e : tcBL (runL1 P (runK f l) fk25 f) c w = true) (r : reachB (c.as.flatMap L.outs) c.pre = true) : Okc f c := ⟨TcOk.ofBL (runL1_ok (runK_ok h) fk25_ok) w e, r⟩
end Go.RvC
