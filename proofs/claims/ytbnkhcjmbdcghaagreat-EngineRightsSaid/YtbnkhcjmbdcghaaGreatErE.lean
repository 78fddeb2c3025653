/- Calls of the program, each told by its own run. -/
import Derived.Test.YtbnkhcjmbdcghaaGreatErR0
import Derived.Test.YtbnkhcjmbdcghaaGreatErR1
import Derived.Test.YtbnkhcjmbdcghaaGreatErR2
import Derived.Test.YtbnkhcjmbdcghaaGreatErR3
import Derived.Test.YtbnkhcjmbdcghaaGreatErR4
namespace Go.RvC
open Go Go.Sy Go.E3
theorem lawsR (j : Nat) (hj : j < 5) : CardOk P 4 (lawR j) := by
  match j, hj with
  | 0, _ => exact lawR0
  | 1, _ => exact lawR1
  | 2, _ => exact lawR2
  | 3, _ => exact lawR3
  | 4, _ => exact lawR4
theorem tmod_cases {a m : Int} (h0 : 0 ≤ a) (hm : 0 < m) : ∃ k : Nat, (k : Int) < m ∧ a.tmod m = k := by
  have h1 := Int.tmod_lt_of_pos a hm
  have h2 := Int.tmod_nonneg m h0
  exact ⟨(a.tmod m).toNat, by omega, by omega⟩
theorem pcN {E : Env} : pcOk E [] := fun _ h => nomatch h
theorem mT_ok {E : Env} {i : Nat} {n j a : Int} (ha : (E.x i).n = a) (r : 0 ≤ a ∧ a ≤ 255) (h : a.tmod n = j) : (mT i n j).tr E = true := by
  simp only [T.tr, mT, T.den, O2.den, tb_ne, ha, clamp_id r, h]; exact beq_self_eq_true _
end Go.RvC
