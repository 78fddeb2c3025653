/- Calls of the program, each told by its own run. -/
import Derived.Test.YtkgdmbnihdakiaaGreatRdD
namespace Go.RvC
open Go Go.Sy Go.E3
noncomputable section
noncomputable def known21 : Card := ⟨[], [], b1⟩
/-- The low twelve bits of a place as a number with a sign; facts on them and on what is left. -/
noncomputable def sX (p : T) : T := .bin (.shr .i32) (.un (.wrap .i32) (.bin (.shl .u32) p (.lit 20))) (.lit 20)
noncomputable def zX (p : T) : T := .un (.wrap .i32) (.bin .sub p (.un (.wrap .u32) (sX p)))
noncomputable def x1 (p : T) : T := .bin .eq (sX p) (.un (.wrap .i32) (sX p))
noncomputable def x2 (p : T) : T := .bin .eq (.bin (.band .i32) (zX p) (.lit 4095)) (.lit 0)
noncomputable def x3 (p : T) : T := .bin .eq (.un (.wrap .i32) (sX p)) (.lit 0)
noncomputable def x4 (p : T) : T := .bin .eq (zX p) (.lit 0)
/-- How the words lie that make a place: one small number; a great one; both. -/
noncomputable def pcX (q : Nat) (p : T) : Pc := match q with
  | 0 => [(x1 p, true), (x4 p, true)]
  | 1 => [(x2 p, true), (x3 p, true), (x4 p, false)]
  | _ => [(x1 p, true), (x2 p, true), (x3 p, false), (x4 p, false)]
/-- The place, so much further: by a number; by a letter and a number. -/
noncomputable def pC (c : Int) : T := .un (.wrap .u32) (.bin .add (.v 8 0 4294967295) (.lit c))
noncomputable def pV (i : Nat) (c : Int) : T := .un (.wrap .u32) (.bin .add (.bin .add (.v 8 0 4294967295) (.v i 0 4294967295)) (.lit c))
noncomputable def mT8 (j : Int) : T := .bin .eq (.bin .tmod (.un (.wrap .u8) (.bin .add (.v 18 0 255) (.lit 1))) (.lit 8)) (.lit j)
/-- What is told in the end: that the place is the one that the words make. -/
noncomputable def resX (q : Nat) (p : T) : T := match q with
  | 0 => .bin .eq (.un (.wrap .u32) (sX p)) p
  | 1 => .bin .eq (.un (.wrap .u32) (.bin .sub p (.un (.wrap .u32) (sX p)))) p
  | _ => .lit 1
/-- Ways of the two places that go together: one lies just behind the other. -/
def ways (q r : Nat) : Prop := (q = 0 ∧ r = 0) ∨ (q = 0 ∧ r = 2) ∨ (q = 1 ∧ r = 2) ∨ (q = 2 ∧ r = 0) ∨ (q = 2 ∧ r = 1) ∨ (q = 2 ∧ r = 2)
noncomputable def lawP (j : Nat) (q r : Nat) : Card := ⟨[st17, .a (.c (.int .u32 (.v 17 0 4294967295))), .a (.c (.int .u8 (.v 18 0 255)))], pcX r (pV 17 7) ++ (pcX q (pV 17 6) ++ [(mT6 18 8 j, true), (mT8 ((j + 1) % 8), true)]), .a (.c (.bool (resX r (pV 17 7))))⟩
end
end Go.RvC
