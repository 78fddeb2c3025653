/- Calls of the program, each told by its own run. -/
import Derived.Test.YthmadmhnpkhndaaGreatDoorQyZd4
import Derived.KernelRfl
import Derived.Test.YthmadmhnpkhndaaGreatDoorProg
namespace Go.TextW
open Go Go.Sy Go.E3
noncomputable section
noncomputable def P : Program := Go.Proofs.Tryz.prog
noncomputable def ins (n : Int) : E3.L := .tup [.agg [.int .i64 (.lit n), .int .i64 (.lit 0), .int .i64 (.lit 0), .int .i64 (.lit 0), .int .u32 (.lit 0), .int .i64 (.lit 0), .int .i64 (.lit 0), .int .u32 (.lit 0), .int .i64 (.lit 0), .int .i64 (.lit 0), .int .u32 (.lit 0), .int .i64 (.lit 0), .int .i64 (.lit 0), .int .u32 (.lit 0), .bool (.lit 0), .int .i64 (.lit 0)], .c (.int .i64 (.lit 0))]
noncomputable def err : E3.L := .tup [.agg [.int .i64 (.lit 0), .int .i64 (.lit 0), .int .i64 (.lit 0), .int .i64 (.lit 0), .int .u32 (.lit 0), .int .i64 (.lit 0), .int .i64 (.lit 0), .int .u32 (.lit 0), .int .i64 (.lit 0), .int .i64 (.lit 0), .int .u32 (.lit 0), .int .i64 (.lit 0), .int .i64 (.lit 0), .int .u32 (.lit 0), .bool (.lit 0), .int .i64 (.lit 0)], .c (.int .i64 (.lit 270))]
noncomputable def yes : E3.L := .a (.c (.bool (.lit 1)))
/-- `` -/
noncomputable def p0 : Card := ⟨[.a (.c (.str []))], [], err⟩
/-- `mov` -/
noncomputable def p1 : Card := ⟨[.a (.c (.str [.lit 109, .lit 111, .lit 118]))], [], err⟩
/-- `mov eax` -/
noncomputable def p2 : Card := ⟨[.a (.c (.str [.lit 109, .lit 111, .lit 118, .lit 32, .lit 101, .lit 97, .lit 120]))], [], err⟩
/-- `mov eax,` -/
noncomputable def p3 : Card := ⟨[.a (.c (.str [.lit 109, .lit 111, .lit 118, .lit 32, .lit 101, .lit 97, .lit 120, .lit 44]))], [], err⟩
/-- `mov eax,ebx,ecx` -/
noncomputable def p4 : Card := ⟨[.a (.c (.str [.lit 109, .lit 111, .lit 118, .lit 32, .lit 101, .lit 97, .lit 120, .lit 44, .lit 101, .lit 98, .lit 120, .lit 44, .lit 101, .lit 99, .lit 120]))], [], err⟩
/-- `mov eax, ebx` -/
noncomputable def p5 : Card := ⟨[.a (.c (.str [.lit 109, .lit 111, .lit 118, .lit 32, .lit 101, .lit 97, .lit 120, .lit 44, .lit 32, .lit 101, .lit 98, .lit 120]))], [], err⟩
/-- `MOV eax,ebx` -/
noncomputable def p6 : Card := ⟨[.a (.c (.str [.lit 77, .lit 79, .lit 86, .lit 32, .lit 101, .lit 97, .lit 120, .lit 44, .lit 101, .lit 98, .lit 120]))], [], err⟩
/-- `mov [eax],[ebx]` -/
noncomputable def p7 : Card := ⟨[.a (.c (.str [.lit 109, .lit 111, .lit 118, .lit 32, .lit 91, .lit 101, .lit 97, .lit 120, .lit 93, .lit 44, .lit 91, .lit 101, .lit 98, .lit 120, .lit 93]))], [], err⟩
/-- `jcc 5` -/
noncomputable def p8 : Card := ⟨[.a (.c (.str [.lit 106, .lit 99, .lit 99, .lit 32, .lit 53]))], [], err⟩
/-- `jcc16 5` -/
noncomputable def p9 : Card := ⟨[.a (.c (.str [.lit 106, .lit 99, .lit 99, .lit 49, .lit 54, .lit 32, .lit 53]))], [], err⟩
/-- `set4` -/
noncomputable def p10 : Card := ⟨[.a (.c (.str [.lit 115, .lit 101, .lit 116, .lit 52]))], [], err⟩
/-- `rep mov eax,ebx` -/
noncomputable def p11 : Card := ⟨[.a (.c (.str [.lit 114, .lit 101, .lit 112, .lit 32, .lit 109, .lit 111, .lit 118, .lit 32, .lit 101, .lit 97, .lit 120, .lit 44, .lit 101, .lit 98, .lit 120]))], [], err⟩
/-- `mov8 eax,ebx` -/
noncomputable def p12 : Card := ⟨[.a (.c (.str [.lit 109, .lit 111, .lit 118, .lit 56, .lit 32, .lit 101, .lit 97, .lit 120, .lit 44, .lit 101, .lit 98, .lit 120]))], [], err⟩
/-- `mov eax,[esp*2]` -/
noncomputable def p13 : Card := ⟨[.a (.c (.str [.lit 109, .lit 111, .lit 118, .lit 32, .lit 101, .lit 97, .lit 120, .lit 44, .lit 91, .lit 101, .lit 115, .lit 112, .lit 42, .lit 50, .lit 93]))], [], err⟩
/-- `nop ` -/
noncomputable def p14 : Card := ⟨[.a (.c (.str [.lit 110, .lit 111, .lit 112, .lit 32]))], [], err⟩
/-- `nop  ` -/
noncomputable def p15 : Card := ⟨[.a (.c (.str [.lit 110, .lit 111, .lit 112, .lit 32, .lit 32]))], [], err⟩
/-- `nop   ` -/
noncomputable def p16 : Card := ⟨[.a (.c (.str [.lit 110, .lit 111, .lit 112, .lit 32, .lit 32, .lit 32]))], [], err⟩
/-- `nop    ` -/
noncomputable def p17 : Card := ⟨[.a (.c (.str [.lit 110, .lit 111, .lit 112, .lit 32, .lit 32, .lit 32, .lit 32]))], [], err⟩
/-- `what` -/
noncomputable def p18 : Card := ⟨[.a (.c (.str [.lit 119, .lit 104, .lit 97, .lit 116]))], [], err⟩
/-- `nop` -/
noncomputable def p19 : Card := ⟨[.a (.c (.str [.lit 110, .lit 111, .lit 112]))], [], (ins 44)⟩
/-- `ret` -/
noncomputable def p20 : Card := ⟨[.a (.c (.str [.lit 114, .lit 101, .lit 116]))], [], (ins 31)⟩
noncomputable def known : Card := ⟨[], [], yes⟩
noncomputable def prog1 : Card := ⟨[.a (.c (.str [.lit 110, .lit 111, .lit 112, .lit 10, .lit 119, .lit 104, .lit 97, .lit 116, .lit 10]))], [], .tup [.c .nils, .c (.int .i64 (.lit 270))]⟩
noncomputable def pcs (k j : Int) : Pc := [(.bin .eq (.bin .tmod (.v 0 0 255) (.lit 14)) (.lit k), true), (.bin .eq (.bin .tmod (.v 1 0 255) (.lit 5)) (.lit j), true)]
noncomputable def law (k j : Int) : Card := ⟨[.a (.c (.int .u8 (.v 0 0 255))), .a (.c (.int .u8 (.v 1 0 255)))], pcs k j, yes⟩
end
end Go.TextW
