/- Calls of the program, each told by its own run. -/
import Derived.Test.YtkgdmbnihdakiaaGreatRvZ
namespace Go.RvC
open Go Go.Sy Go.E3
noncomputable section
noncomputable def known22 : Card := ⟨[], [], b1⟩
/-- A guest's state: letters. -/
noncomputable def st17 : E3.L := .a (.agg [.int .u32 (.v 0 0 4294967295), .int .u32 (.v 1 0 4294967295), .int .u32 (.v 2 0 4294967295), .int .u32 (.v 3 0 4294967295), .int .u32 (.v 4 0 4294967295), .int .u32 (.v 5 0 4294967295), .int .u32 (.v 6 0 4294967295), .int .u32 (.v 7 0 4294967295), .int .u32 (.v 8 0 4294967295), .bool (.v 9 0 1), .bool (.v 10 0 1), .bool (.v 11 0 1), .bool (.v 12 0 1), .bool (.v 13 0 1), .bool (.v 14 0 1), .bool (.v 15 0 1), .int .u64 (.v 16 0 18446744073709551615)])
/-- The place, so much further. -/
noncomputable def pT (c : Int) : T := .un (.wrap .u32) (.bin .add (.v 8 0 4294967295) (.lit c))
noncomputable def sT (c : Int) : T := .bin (.shr .i32) (.un (.wrap .i32) (.bin (.shl .u32) (pT c) (.lit 20))) (.lit 20)
noncomputable def f1 (c : Int) : T := .bin .eq (.bin (.shr .i32) (.un (.wrap .i32) (.bin (.shl .u32) (.un (.wrap .u32) (sT c)) (.lit 20))) (.lit 20)) (.un (.wrap .i32) (sT c))
noncomputable def hT (c : Int) : T := .un (.wrap .i32) (.bin .sub (pT c) (.un (.wrap .u32) (sT c)))
noncomputable def f2 (c : Int) : T := .bin .eq (.bin (.band .i32) (hT c) (.lit 4095)) (.lit 0)
noncomputable def f3 (c : Int) : T := .bin .eq (.un (.wrap .i32) (sT c)) (.lit 0)
noncomputable def f4 (c : Int) : T := .bin .eq (hT c) (.lit 0)
noncomputable def mT6 (i : Nat) (n j : Int) : T := .bin .eq (.bin .tmod (.v i 0 255) (.lit n)) (.lit j)
/-- How the words lie that make a place: one small number; a great one; both. -/
noncomputable def pcW (q : Nat) (c : Int) : Pc := match q with
  | 0 => [(f1 c, true), (f4 c, true)]
  | 1 => [(f2 c, true), (f3 c, true), (f4 c, false)]
  | _ => [(f1 c, true), (f2 c, true), (f3 c, false), (f4 c, false)]
noncomputable def lawD (s : Int) (j : Int) (q : Nat) : Card := ⟨[st17, .a (.c (.bool (.lit s))), .a (.c (.int .u8 (.v 17 0 255)))], (mT6 17 6 j, true) :: pcW q (j + 3), b1⟩
end
end Go.RvC
