/- Calls of the program, each told by its own run. -/
import Derived.Test.YtjfcnhfpnjcjaaaGreatDoorQyZd4
import Derived.KernelRfl
import Derived.Test.YtjfcnhfpnjcjaaaGreatDoorProg
namespace Go.TextN
open Go Go.Sy Go.E3
noncomputable section
noncomputable def P : Program := Go.Proofs.Tryz.prog
/-- An instruction's cells: kind, condition, operands of six cells. -/
noncomputable def opN : List E3.C := [.int .i64 (.lit 0), .int .i64 (.lit 0), .int .u32 (.lit 0), .int .i64 (.lit 0), .int .i64 (.lit 0), .int .u32 (.lit 0)]
noncomputable def opR (r : T) : List E3.C := [.int .i64 (.lit 1), .int .i64 r, .int .u32 (.lit 0), .int .i64 (.lit 0), .int .i64 (.lit 0), .int .u32 (.lit 0)]
noncomputable def opI (v : T) : List E3.C := [.int .i64 (.lit 2), .int .i64 (.lit 0), .int .u32 v, .int .i64 (.lit 0), .int .i64 (.lit 0), .int .u32 (.lit 0)]
noncomputable def opM (v : T) : List E3.C := [.int .i64 (.lit 3), .int .i64 (.lit 0), .int .u32 v, .int .i64 (.lit (-1)), .int .i64 (.lit (-1)), .int .u32 (.lit 1)]
noncomputable def ins (op : Int) (a b : List E3.C) : E3.L := .a (.agg ([.int .i64 (.lit op), .int .i64 (.lit 0)] ++ a ++ b ++ [.bool (.lit 0), .int .i64 (.lit 0)]))
noncomputable def yes : E3.L := .a (.c (.bool (.lit 1)))
noncomputable def known : Card := ⟨[], [], yes⟩
noncomputable def rdMov : Card := ⟨[.a (.c (.str [.lit 109, .lit 111, .lit 118]))], [], .tup [.c (.int .i64 (.lit 1)), .c (.int .i64 (.lit 0)), .c (.bool (.lit 1))]⟩
noncomputable def rdJmp : Card := ⟨[.a (.c (.str [.lit 106, .lit 109, .lit 112]))], [], .tup [.c (.int .i64 (.lit 32)), .c (.int .i64 (.lit 0)), .c (.bool (.lit 1))]⟩
noncomputable def is1 : Card := ⟨[ins 1 (opR (.v 0 0 7)) (opI (.v 1 0 4294967295))], [], yes⟩
noncomputable def is2 : Card := ⟨[ins 1 (opR (.v 0 0 7)) (opM (.v 1 0 4294967295))], [], yes⟩
noncomputable def is3 : Card := ⟨[ins 32 (opI (.v 0 0 4294967295)) opN], [], yes⟩
noncomputable def nd (lo hi d : Int) : Card := ⟨[.a (.c (.int .u64 (.v 0 lo hi)))], [], .a (.c (.int .i64 (.lit d)))⟩
noncomputable def law (lo hi j : Int) : Card := ⟨[.a (.c (.int .u32 (.v 0 lo hi))), .a (.c (.int .u8 (.v 1 0 255)))], [(.bin .eq (.bin .tmod (.v 1 0 255) (.lit 8)) (.lit j), true)], yes⟩
end
end Go.TextN
