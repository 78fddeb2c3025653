/- Calls of the program, each told by its own run. -/
import Derived.Test.YtkgdmbnihdakiaaGreatRdK
namespace Go.RvC
open Go Go.Sy Go.E3
noncomputable section
/-- Numbers of the host: letters. -/
noncomputable def rg31 : E3.L := .a (.agg [.int .u32 (.v 18 0 4294967295), .int .u32 (.v 19 0 4294967295), .int .u32 (.v 20 0 4294967295), .int .u32 (.v 21 0 4294967295), .int .u32 (.v 22 0 4294967295), .int .u32 (.v 23 0 4294967295), .int .u32 (.v 24 0 4294967295), .int .u32 (.v 25 0 4294967295), .int .u32 (.v 26 0 4294967295), .int .u32 (.v 27 0 4294967295), .int .u32 (.v 28 0 4294967295), .int .u32 (.v 29 0 4294967295), .int .u32 (.v 30 0 4294967295), .int .u32 (.v 31 0 4294967295), .int .u32 (.v 32 0 4294967295), .int .u32 (.v 33 0 4294967295), .int .u32 (.v 34 0 4294967295), .int .u32 (.v 35 0 4294967295), .int .u32 (.v 36 0 4294967295), .int .u32 (.v 37 0 4294967295), .int .u32 (.v 38 0 4294967295), .int .u32 (.v 39 0 4294967295), .int .u32 (.v 40 0 4294967295), .int .u32 (.v 41 0 4294967295), .int .u32 (.v 42 0 4294967295), .int .u32 (.v 43 0 4294967295), .int .u32 (.v 44 0 4294967295), .int .u32 (.v 45 0 4294967295), .int .u32 (.v 46 0 4294967295), .int .u32 (.v 47 0 4294967295), .int .u32 (.v 48 0 4294967295)])
/-- A register, one more. -/
noncomputable def xT (i : Nat) : T := .un (.wrap .u32) (.bin .add (.v i 0 4294967295) (.lit 1))
noncomputable def nnT (t : T) : T := .un .not (.bin .eq (.un .not (.bin .eq t (.lit 0))) (.lit 0))
noncomputable def zfT (i : Nat) : T := .bin .eq (nnT (.bin .lt (xT i) (.lit 1))) (.bin .eq (xT i) (.lit 0))
noncomputable def cfT (i : Nat) : T := .bin .eq (nnT (.bin .lt (xT i) (.v i 0 4294967295))) (.bin .eq (xT i) (.lit 0))
noncomputable def sfT (i : Nat) : T := .bin .eq (nnT (.bin (.bor .u32) (.bin (.bor .u32) (.bin (.bor .u32) (.un (.wrap .u8) (.bin (.shr .u32) (xT i) (.lit 31))) (.lit 0)) (.lit 0)) (.lit 0))) (.bin .eq (.bin (.shr .u32) (xT i) (.lit 31)) (.lit 1))
noncomputable def blT (i : Nat) : T := .bin .eq (nnT (.v i 0 1)) (.v i 0 1)
noncomputable def flT (n : Nat) : T := match n with
  | 0 => .bin .and (blT 9) (.bin .and (blT 10) (.bin .and (blT 11) (.bin .and (blT 12) (.bin .and (blT 13) (blT 14)))))
  | i + 1 => .bin .and (.bin .and (zfT i) (cfT i)) (sfT i)
noncomputable def lawM (n : Nat) (q : Nat) : Card := ⟨[st17, .a (.c (.int .u8 (.v 17 0 255))), rg31], (mT6 17 7 n) |> fun t => (t, true) :: pcW q 27, .a (.c (.bool (flT n)))⟩
end
end Go.RvC
