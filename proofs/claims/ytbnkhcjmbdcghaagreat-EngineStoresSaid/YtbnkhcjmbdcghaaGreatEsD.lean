/- Calls of the program, each told by its own run. -/
import Derived.Test.YtbnkhcjmbdcghaaGreatElD
namespace Go.RvC
open Go Go.Sy Go.E3
noncomputable section
/-- The low twelve bits of a number as a number with a sign; facts on them and on what is left. -/
noncomputable def sX (p : T) : T := .bin (.shr .i32) (.un (.wrap .i32) (.bin (.shl .u32) p (.lit 20))) (.lit 20)
noncomputable def zX (p : T) : T := .un (.wrap .i32) (.bin .sub p (.un (.wrap .u32) (sX p)))
noncomputable def x1 (p : T) : T := .bin .eq (sX p) (.un (.wrap .i32) (sX p))
noncomputable def x2 (p : T) : T := .bin .eq (.bin (.band .i32) (zX p) (.lit 4095)) (.lit 0)
noncomputable def x3 (p : T) : T := .bin .eq (.un (.wrap .i32) (sX p)) (.lit 0)
noncomputable def x4 (p : T) : T := .bin .eq (zX p) (.lit 0)
/-- How the words lie that make a number: one small number; a great one; both. -/
noncomputable def pcX (q : Nat) (p : T) : Pc := match q with
  | 0 => [(x1 p, true), (x4 p, true)]
  | 1 => [(x2 p, true), (x3 p, true), (x4 p, false)]
  | _ => [(x1 p, true), (x2 p, true), (x3 p, false), (x4 p, false)]
/-- What is told in the end: that the number is the one that the words make. -/
noncomputable def resX (q : Nat) (p : T) : T := match q with
  | 0 => .bin .eq (.un (.wrap .u32) (sX p)) p
  | 1 => .bin .eq (.un (.wrap .u32) (.bin .sub p (.un (.wrap .u32) (sX p)))) p
  | _ => .lit 1
noncomputable def mV : T := .v 0 0 4294967295
/-- The number as it lies in memory, put there by the host's words. -/
noncomputable def mV' (q : Nat) : T := match q with
  | 0 => .un (.wrap .u32) (sX mV)
  | 1 => .un (.wrap .u32) (.bin .sub mV (.un (.wrap .u32) (sX mV)))
  | _ => mV
noncomputable def pcS (q : Nat) : Pc := match q with
  | 0 => (.bin .eq (.bin .sub mV (mV' 0)) (.lit 0), true) :: (.bin .eq (.bin .sub (mV' 0) (mV' 0)) (.lit 0), true) :: (resX 0 mV, true) :: (pcX 0 mV ++ pcX 0 (mV' 0))
  | 1 => (resX 1 mV, true) :: (pcX 1 mV ++ pcX 1 (mV' 1))
  | _ => pcX 2 mV
/-- What the law's run tells: the truth, or that the words make the number. -/
noncomputable def resS (_s : Int) (_q : Nat) : T := .lit 1
noncomputable def lawS (s : Int) (q : Nat) : Card := ⟨[.a (.c (.int .u32 mV)), .a (.c (.bool (.lit s)))], pcS q, .a (.c (.bool (resS s q)))⟩
end
end Go.RvC
