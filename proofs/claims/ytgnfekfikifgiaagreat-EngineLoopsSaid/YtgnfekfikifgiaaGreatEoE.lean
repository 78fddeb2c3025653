/- Calls of the program, each told by its own run. -/
import Derived.Test.YtgnfekfikifgiaaGreatEoR0
import Derived.Test.YtgnfekfikifgiaaGreatEoR1
import Derived.Test.YtgnfekfikifgiaaGreatEoR2
import Derived.Test.YtgnfekfikifgiaaGreatEoR3
import Derived.Test.YtgnfekfikifgiaaGreatEoR4
import Derived.Test.YtgnfekfikifgiaaGreatEoR5
namespace Go.RvC
open Go Go.Sy Go.E3
theorem lawsM (j : Nat) (hj : j < 60) (s : Bool) : CardOk P 3 (lawM j s) := by
  rcases Nat.lt_or_ge j 10 with h0 | h0
  · have h : j = 0 ∨ j = 1 ∨ j = 2 ∨ j = 3 ∨ j = 4 ∨ j = 5 ∨ j = 6 ∨ j = 7 ∨ j = 8 ∨ j = 9 := by omega
    rcases h with rfl | rfl | rfl | rfl | rfl | rfl | rfl | rfl | rfl | rfl
    · cases s
      · exact lawM0f
      · exact lawM0t
    · cases s
      · exact lawM1f
      · exact lawM1t
    · cases s
      · exact lawM2f
      · exact lawM2t
    · cases s
      · exact lawM3f
      · exact lawM3t
    · cases s
      · exact lawM4f
      · exact lawM4t
    · cases s
      · exact lawM5f
      · exact lawM5t
    · cases s
      · exact lawM6f
      · exact lawM6t
    · cases s
      · exact lawM7f
      · exact lawM7t
    · cases s
      · exact lawM8f
      · exact lawM8t
    · cases s
      · exact lawM9f
      · exact lawM9t
  rcases Nat.lt_or_ge j 20 with h1 | h1
  · have h : j = 10 ∨ j = 11 ∨ j = 12 ∨ j = 13 ∨ j = 14 ∨ j = 15 ∨ j = 16 ∨ j = 17 ∨ j = 18 ∨ j = 19 := by omega
    rcases h with rfl | rfl | rfl | rfl | rfl | rfl | rfl | rfl | rfl | rfl
    · cases s
      · exact lawM10f
      · exact lawM10t
    · cases s
      · exact lawM11f
      · exact lawM11t
    · cases s
      · exact lawM12f
      · exact lawM12t
    · cases s
      · exact lawM13f
      · exact lawM13t
    · cases s
      · exact lawM14f
      · exact lawM14t
    · cases s
      · exact lawM15f
      · exact lawM15t
    · cases s
      · exact lawM16f
      · exact lawM16t
    · cases s
      · exact lawM17f
      · exact lawM17t
    · cases s
      · exact lawM18f
      · exact lawM18t
    · cases s
      · exact lawM19f
      · exact lawM19t
  rcases Nat.lt_or_ge j 30 with h2 | h2
  · have h : j = 20 ∨ j = 21 ∨ j = 22 ∨ j = 23 ∨ j = 24 ∨ j = 25 ∨ j = 26 ∨ j = 27 ∨ j = 28 ∨ j = 29 := by omega
    rcases h with rfl | rfl | rfl | rfl | rfl | rfl | rfl | rfl | rfl | rfl
    · cases s
      · exact lawM20f
      · exact lawM20t
    · cases s
      · exact lawM21f
      · exact lawM21t
    · cases s
      · exact lawM22f
      · exact lawM22t
    · cases s
      · exact lawM23f
      · exact lawM23t
    · cases s
      · exact lawM24f
      · exact lawM24t
    · cases s
      · exact lawM25f
      · exact lawM25t
    · cases s
      · exact lawM26f
      · exact lawM26t
    · cases s
      · exact lawM27f
      · exact lawM27t
    · cases s
      · exact lawM28f
      · exact lawM28t
    · cases s
      · exact lawM29f
      · exact lawM29t
  rcases Nat.lt_or_ge j 40 with h3 | h3
  · have h : j = 30 ∨ j = 31 ∨ j = 32 ∨ j = 33 ∨ j = 34 ∨ j = 35 ∨ j = 36 ∨ j = 37 ∨ j = 38 ∨ j = 39 := by omega
    rcases h with rfl | rfl | rfl | rfl | rfl | rfl | rfl | rfl | rfl | rfl
    · cases s
      · exact lawM30f
      · exact lawM30t
    · cases s
      · exact lawM31f
      · exact lawM31t
    · cases s
      · exact lawM32f
      · exact lawM32t
    · cases s
      · exact lawM33f
      · exact lawM33t
    · cases s
      · exact lawM34f
      · exact lawM34t
    · cases s
      · exact lawM35f
      · exact lawM35t
    · cases s
      · exact lawM36f
      · exact lawM36t
    · cases s
      · exact lawM37f
      · exact lawM37t
    · cases s
      · exact lawM38f
      · exact lawM38t
    · cases s
      · exact lawM39f
      · exact lawM39t
  rcases Nat.lt_or_ge j 50 with h4 | h4
  · have h : j = 40 ∨ j = 41 ∨ j = 42 ∨ j = 43 ∨ j = 44 ∨ j = 45 ∨ j = 46 ∨ j = 47 ∨ j = 48 ∨ j = 49 := by omega
    rcases h with rfl | rfl | rfl | rfl | rfl | rfl | rfl | rfl | rfl | rfl
    · cases s
      · exact lawM40f
      · exact lawM40t
    · cases s
      · exact lawM41f
      · exact lawM41t
    · cases s
      · exact lawM42f
      · exact lawM42t
    · cases s
      · exact lawM43f
      · exact lawM43t
    · cases s
      · exact lawM44f
      · exact lawM44t
    · cases s
      · exact lawM45f
      · exact lawM45t
    · cases s
      · exact lawM46f
      · exact lawM46t
    · cases s
      · exact lawM47f
      · exact lawM47t
    · cases s
      · exact lawM48f
      · exact lawM48t
    · cases s
      · exact lawM49f
      · exact lawM49t
  · have h : j = 50 ∨ j = 51 ∨ j = 52 ∨ j = 53 ∨ j = 54 ∨ j = 55 ∨ j = 56 ∨ j = 57 ∨ j = 58 ∨ j = 59 := by omega
    rcases h with rfl | rfl | rfl | rfl | rfl | rfl | rfl | rfl | rfl | rfl
    · cases s
      · exact lawM50f
      · exact lawM50t
    · cases s
      · exact lawM51f
      · exact lawM51t
    · cases s
      · exact lawM52f
      · exact lawM52t
    · cases s
      · exact lawM53f
      · exact lawM53t
    · cases s
      · exact lawM54f
      · exact lawM54t
    · cases s
      · exact lawM55f
      · exact lawM55t
    · cases s
      · exact lawM56f
      · exact lawM56t
    · cases s
      · exact lawM57f
      · exact lawM57t
    · cases s
      · exact lawM58f
      · exact lawM58t
    · cases s
      · exact lawM59f
      · exact lawM59t
theorem tmod_cases {a m : Int} (h0 : 0 ≤ a) (hm : 0 < m) : ∃ k : Nat, (k : Int) < m ∧ a.tmod m = k := by
  have h1 := Int.tmod_lt_of_pos a hm
  have h2 := Int.tmod_nonneg m h0
  exact ⟨(a.tmod m).toNat, by omega, by omega⟩
theorem pcN {E : Env} : pcOk E [] := fun _ h => nomatch h
theorem mT_ok {E : Env} {i : Nat} {n j a : Int} (ha : (E.x i).n = a) (r : 0 ≤ a ∧ a ≤ 255) (h : a.tmod n = j) : (mT i n j).tr E = true := by
  simp only [T.tr, mT, T.den, O2.den, tb_ne, ha, clamp_id r, h]; exact beq_self_eq_true _
end Go.RvC
