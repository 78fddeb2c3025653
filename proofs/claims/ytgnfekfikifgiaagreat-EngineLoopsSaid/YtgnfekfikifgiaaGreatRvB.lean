/- Calls of the program, each told by its own run. -/
import Derived.Test.YtgnfekfikifgiaaGreatWyZd4
import Derived.KernelRfl
import Derived.Test.YtgnfekfikifgiaaGreatProg
namespace Go.RvC
open Go Go.Sy Go.E3
noncomputable section
noncomputable def P : Program := Go.Proofs.Tryz.prog
noncomputable def b1 : E3.L := .a (.c (.bool (.lit 1)))
/-- 'rv.register(r, true)', r from 0 to 31: true. -/
noncomputable def reg : Card := ⟨[.a (.c (.int .i64 (.v 0 0 31))), b1], [], b1⟩
/-- 'truth(b)'. -/
noncomputable def tru : Card := ⟨[.a (.c (.bool (.v 0 0 1)))], [], .a (.c (.int .u32 (.v 0 0 1)))⟩
set_option maxRecDepth 100000
theorem reg_ok : CardOk P 416 reg := CardOk.ite (t := .bin .eq (.v 0 0 31) (.lit 0)) (l1 := b1) (l2 := b1) (CardOk.of DeckOk.nil 0 (by kernel_rfl)) (CardOk.of DeckOk.nil 0 (by kernel_rfl)) (by kernel_rfl)
theorem tru_ok1 : CardOk P 127 tru := CardOk.ite (t := .v 0 0 1) (l1 := .a (.c (.int .u32 (.lit 1)))) (l2 := .a (.c (.int .u32 (.lit 0)))) (CardOk.of DeckOk.nil 0 (by kernel_rfl)) (CardOk.of DeckOk.nil 0 (by kernel_rfl)) (by kernel_rfl)
theorem tru_ok2 : CardOk P 332 tru := CardOk.ite (t := .v 0 0 1) (l1 := .a (.c (.int .u32 (.lit 1)))) (l2 := .a (.c (.int .u32 (.lit 0)))) (CardOk.of DeckOk.nil 0 (by kernel_rfl)) (CardOk.of DeckOk.nil 0 (by kernel_rfl)) (by kernel_rfl)
theorem one_ok {g : Nat} {c : Card} (h : CardOk P g c) (xs : List E3.L) : ∀ d ∈ (fun _ : List E3.L => [c]) xs, CardOk P g d := fun d hd => by
  rw [List.mem_singleton] at hd
  rw [hd]; exact h
noncomputable def deck0 : Deck := Tri.put (Tri.put (Tri.put .e (path 416) (some fun _ => [reg])) (path 127) (some fun _ => [tru])) (path 332) (some fun _ => [tru])
theorem deck0_ok : DeckOk P deck0 := DeckOk.put (DeckOk.put (DeckOk.put DeckOk.nil (one_ok reg_ok)) (one_ok tru_ok1)) (one_ok tru_ok2)
/-- Cards to choose from by a number. -/
def CTOk (g : Nat) (t : Tri (List Card)) : Prop := ∀ p l, t.get p = some l → ∀ c ∈ l, CardOk P g c
theorem CTOk.nil (g : Nat) : CTOk g .e := fun p l h => by rw [Tri.get_e] at h; cases h
theorem CTOk.put {g : Nat} {t : Tri (List Card)} (h : CTOk g t) (n : Nat) {l : List Card} (hl : ∀ c ∈ l, CardOk P g c) : CTOk g (t.put (path n) (some l)) := by
  intro p l' hp
  rw [Tri.get_put] at hp
  split at hp
  · cases hp; exact hl
  · exact h p l' hp
def pickT (t : Tri (List Card)) (n : Option Nat) : List Card := match n with
  | some n => match t.get (path n) with
    | some l => l
    | none => []
  | none => []
theorem pickT_ok {g : Nat} {t : Tri (List Card)} (h : CTOk g t) (n : Option Nat) : ∀ c ∈ pickT t n, CardOk P g c := by
  unfold pickT
  split
  · split
    · rename_i hl; exact h _ _ hl
    · exact fun _ h => nomatch h
  · exact fun _ h => nomatch h
/-- A word's kind. -/
def keyE (xs : List E3.L) : Option Nat := match xs with
  | [.a (.agg (.int _ (.lit (.ofNat n)) :: _))] => some n
  | _ => none
/-- A word's bits that tell the kind. -/
def keyX (t : T) : Option Nat := match t with
  | .lit (.ofNat x) => some (Nat.add (Nat.mul (Nat.div (Nat.mod x 128) 4) 8) (Nat.mod (Nat.div x 4096) 8))
  | t => match bin2 [] (.band .u32) t (.lit 127), bin2 [] (.band .u64) (bin2 [] (.shr .u64) t (.lit 12)) (.lit 7) with
    | .lit (.ofNat a), .lit (.ofNat b) => some (Nat.add (Nat.mul (Nat.div a 4) 8) b)
    | .lit (.ofNat a), _ => some (Nat.mul (Nat.div a 4) 8)
    | _, _ => none
def keyD (xs : List E3.L) : Option Nat := match xs with
  | [.a (.c (.int _ t))] => keyX t
  | _ => none
end
end Go.RvC
