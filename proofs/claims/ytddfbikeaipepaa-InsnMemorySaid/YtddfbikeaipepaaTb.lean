/- Functions without arguments of this seat, each told by what it answers: each is run once, and the answer proved. -/
import Derived.Test.YtddfbikeaipepaaSy17
import Derived.Test.YtddfbikeaipepaaProg
import Derived.KernelRfl
namespace Go.Sy
def ints (l : List Int) : A := .agg (l.map fun n => .int .i64 (.lit n))
def formsA : A := ints [0, 0, 3, 7, 3, 11, 3, 7, 3, 7, 3, 7, 3, 7, 3, 7, 3, 7, 3, 7, 3, 7, 3, 5, 3, 32, 3, 32, 3, 32, 3, 32, 3, 32, 3, 32, 1, 3, 3, 32, 3, 32, 3, 24, 3, 24, 3, 24, 3, 24, 3, 24, 1, 2, 3, 1, 7, 32, 1, 32, 7, 32, 32, 32, 7, 32, 4, 32, 3, 32, 1, 3, 1, 3, 1, 3, 32, 32, 32, 32, 32, 32, 32, 32, 32, 32, 64, 32, 32, 32, 2, 32, 2, 32, 2, 32, 2, 32, 2, 32, 2, 32, 32, 32, 32, 32, 2, 32]
def rowsA : A := ints [0, 0, 0, 0, 0, 0, 63, 0, 63, 0, 63, 1, 63, 1, 63, 0, 63, 0, 63, 0, 63, 0, 63, 0, 62, 0, 62, 0, 0, 0, 63, 0, 33, 0, 33, 0, 33, 0, 0, 0, 0, 0, 33, 33, 33, 33, 59, 59, 59, 59, 59, 59, 0, 0, 0, 0, 0, 0, 0, 0, 0, 0, 0, 0, 0, 0, 0, 63, 0, 63, 0, 63, 0, 0, 0, 0, 0, 0, 0, 0, 0, 0, 0, 0, 0, 0, 0, 0, 0, 0, 0, 0, 0, 0, 0, 0, 0, 0, 0, 0, 0, 0, 0, 0, 0, 0, 0, 0]
def sureA : A := ints [0, 0, 0, 63, 63, 63, 63, 63, 63, 63, 63, 63, 62, 62, 0, 63, 33, 33, 33, 0, 0, 0, 0, 0, 0, 0, 0, 0, 0, 0, 0, 0, 0, 0, 0, 0, 0, 0, 0, 0, 0, 0, 0, 0, 0, 0, 0, 0, 0, 0, 0, 0, 0, 0]
theorem sure_ok : ConstOk Go.Proofs.Try.prog 32 sureA := const_ok (smNone _) (cfg := fun _ => true) (fuel := 60) (by kernel_rfl)
theorem forms_ok : ConstOk Go.Proofs.Try.prog 45 formsA := const_ok (smNone _) (cfg := fun _ => true) (fuel := 60) (by kernel_rfl)
theorem rows_ok : ConstOk Go.Proofs.Try.prog 75 rowsA := const_ok (smNone _) (cfg := fun _ => true) (fuel := 60) (by kernel_rfl)
def sm1 : Nat → Pc → List A → Option A := smL [(45, formsA), (75, rowsA), (32, sureA)]
theorem sm1_ok : SmOk Go.Proofs.Try.prog sm1 := smL_ok fun _ h => by
  rcases List.mem_cons.1 h with h | h
  · rw [h]; exact forms_ok
  rcases List.mem_cons.1 h with h | h
  · rw [h]; exact rows_ok
  rcases List.mem_cons.1 h with h | h
  · rw [h]; exact sure_ok
  · cases h
theorem known25_ok : ConstOk Go.Proofs.Try.prog 25 (.c (.bool (.lit 1))) := const_ok sm1_ok (cfg := fun _ => true) (fuel := 60) (by kernel_rfl)
theorem known12_ok : ConstOk Go.Proofs.Try.prog 12 (.c (.bool (.lit 1))) := const_ok sm1_ok (cfg := fun _ => true) (fuel := 60) (by kernel_rfl)
def sm2 : Nat → Pc → List A → Option A := smL [(45, formsA), (75, rowsA), (32, sureA), (25, .c (.bool (.lit 1))), (12, .c (.bool (.lit 1)))]
theorem sm2_ok : SmOk Go.Proofs.Try.prog sm2 := smL_ok fun _ h => by
  rcases List.mem_cons.1 h with h | h
  · rw [h]; exact forms_ok
  rcases List.mem_cons.1 h with h | h
  · rw [h]; exact rows_ok
  rcases List.mem_cons.1 h with h | h
  · rw [h]; exact sure_ok
  rcases List.mem_cons.1 h with h | h
  · rw [h]; exact known25_ok
  rcases List.mem_cons.1 h with h | h
  · rw [h]; exact known12_ok
  · cases h
end Go.Sy
