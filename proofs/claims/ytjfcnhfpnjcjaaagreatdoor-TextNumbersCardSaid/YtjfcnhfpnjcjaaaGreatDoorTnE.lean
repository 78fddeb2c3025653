/- Calls of the program, each told by its own run. -/
import Derived.Test.YtjfcnhfpnjcjaaaGreatDoorTnC1
import Derived.Test.YtjfcnhfpnjcjaaaGreatDoorTnC2
import Derived.Test.YtjfcnhfpnjcjaaaGreatDoorTnC3
import Derived.Test.YtjfcnhfpnjcjaaaGreatDoorTnC4
import Derived.Test.YtjfcnhfpnjcjaaaGreatDoorTnC5
import Derived.Test.YtjfcnhfpnjcjaaaGreatDoorTnC6
import Derived.Test.YtjfcnhfpnjcjaaaGreatDoorTnC7
import Derived.Test.YtjfcnhfpnjcjaaaGreatDoorTnC8
import Derived.Test.YtjfcnhfpnjcjaaaGreatDoorTnC9
namespace Go.TextN
open Go Go.Sy Go.E3
noncomputable section
/-- Every number is of a class. -/
theorem laws (v : Int) (h0 : 0 ≤ v) (h1 : v ≤ 4294967295) (j : Nat) (hj : j < 8) : ∃ lo hi : Int, lo ≤ v ∧ v ≤ hi ∧ 0 ≤ lo ∧ hi ≤ 4294967295 ∧ CardOk P 3 (law lo hi j) := by
  have hc : (0 ≤ v ∧ v ≤ 0) ∨ (1 ≤ v ∧ v ≤ 9) ∨ (10 ≤ v ∧ v ≤ 99) ∨ (100 ≤ v ∧ v ≤ 999) ∨ (1000 ≤ v ∧ v ≤ 9999) ∨ (10000 ≤ v ∧ v ≤ 99999) ∨ (100000 ≤ v ∧ v ≤ 999999) ∨ (1000000 ≤ v ∧ v ≤ 9999999) ∨ (10000000 ≤ v ∧ v ≤ 99999999) ∨ (100000000 ≤ v ∧ v ≤ 999999999) ∨ (1000000000 ≤ v ∧ v ≤ 2147483647) ∨ (2147483648 ≤ v ∧ v ≤ 2147483648) ∨ (2147483649 ≤ v ∧ v ≤ 3294967296) ∨ (3294967297 ≤ v ∧ v ≤ 4194967296) ∨ (4194967297 ≤ v ∧ v ≤ 4284967296) ∨ (4284967297 ≤ v ∧ v ≤ 4293967296) ∨ (4293967297 ≤ v ∧ v ≤ 4294867296) ∨ (4294867297 ≤ v ∧ v ≤ 4294957296) ∨ (4294957297 ≤ v ∧ v ≤ 4294966296) ∨ (4294966297 ≤ v ∧ v ≤ 4294967196) ∨ (4294967197 ≤ v ∧ v ≤ 4294967286) ∨ (4294967287 ≤ v ∧ v ≤ 4294967295) := by omega
  rcases hc with h | h | h | h | h | h | h | h | h | h | h | h | h | h | h | h | h | h | h | h | h | h
  · refine ⟨0, 0, h.1, h.2, by decide, by decide, ?_⟩
    match j, hj with
    | 0, _ => exact z_0
    | 1, _ => exact z_1
    | 2, _ => exact z_2
    | 3, _ => exact z_3
    | 4, _ => exact z_4
    | 5, _ => exact z_5
    | 6, _ => exact z_6
    | 7, _ => exact z_7
  · refine ⟨1, 9, h.1, h.2, by decide, by decide, ?_⟩
    match j, hj with
    | 0, _ => exact d1_0
    | 1, _ => exact d1_1
    | 2, _ => exact d1_2
    | 3, _ => exact d1_3
    | 4, _ => exact d1_4
    | 5, _ => exact d1_5
    | 6, _ => exact d1_6
    | 7, _ => exact d1_7
  · refine ⟨10, 99, h.1, h.2, by decide, by decide, ?_⟩
    match j, hj with
    | 0, _ => exact d2_0
    | 1, _ => exact d2_1
    | 2, _ => exact d2_2
    | 3, _ => exact d2_3
    | 4, _ => exact d2_4
    | 5, _ => exact d2_5
    | 6, _ => exact d2_6
    | 7, _ => exact d2_7
  · refine ⟨100, 999, h.1, h.2, by decide, by decide, ?_⟩
    match j, hj with
    | 0, _ => exact d3_0
    | 1, _ => exact d3_1
    | 2, _ => exact d3_2
    | 3, _ => exact d3_3
    | 4, _ => exact d3_4
    | 5, _ => exact d3_5
    | 6, _ => exact d3_6
    | 7, _ => exact d3_7
  · refine ⟨1000, 9999, h.1, h.2, by decide, by decide, ?_⟩
    match j, hj with
    | 0, _ => exact d4_0
    | 1, _ => exact d4_1
    | 2, _ => exact d4_2
    | 3, _ => exact d4_3
    | 4, _ => exact d4_4
    | 5, _ => exact d4_5
    | 6, _ => exact d4_6
    | 7, _ => exact d4_7
  · refine ⟨10000, 99999, h.1, h.2, by decide, by decide, ?_⟩
    match j, hj with
    | 0, _ => exact d5_0
    | 1, _ => exact d5_1
    | 2, _ => exact d5_2
    | 3, _ => exact d5_3
    | 4, _ => exact d5_4
    | 5, _ => exact d5_5
    | 6, _ => exact d5_6
    | 7, _ => exact d5_7
  · refine ⟨100000, 999999, h.1, h.2, by decide, by decide, ?_⟩
    match j, hj with
    | 0, _ => exact d6_0
    | 1, _ => exact d6_1
    | 2, _ => exact d6_2
    | 3, _ => exact d6_3
    | 4, _ => exact d6_4
    | 5, _ => exact d6_5
    | 6, _ => exact d6_6
    | 7, _ => exact d6_7
  · refine ⟨1000000, 9999999, h.1, h.2, by decide, by decide, ?_⟩
    match j, hj with
    | 0, _ => exact d7_0
    | 1, _ => exact d7_1
    | 2, _ => exact d7_2
    | 3, _ => exact d7_3
    | 4, _ => exact d7_4
    | 5, _ => exact d7_5
    | 6, _ => exact d7_6
    | 7, _ => exact d7_7
  · refine ⟨10000000, 99999999, h.1, h.2, by decide, by decide, ?_⟩
    match j, hj with
    | 0, _ => exact d8_0
    | 1, _ => exact d8_1
    | 2, _ => exact d8_2
    | 3, _ => exact d8_3
    | 4, _ => exact d8_4
    | 5, _ => exact d8_5
    | 6, _ => exact d8_6
    | 7, _ => exact d8_7
  · refine ⟨100000000, 999999999, h.1, h.2, by decide, by decide, ?_⟩
    match j, hj with
    | 0, _ => exact d9_0
    | 1, _ => exact d9_1
    | 2, _ => exact d9_2
    | 3, _ => exact d9_3
    | 4, _ => exact d9_4
    | 5, _ => exact d9_5
    | 6, _ => exact d9_6
    | 7, _ => exact d9_7
  · refine ⟨1000000000, 2147483647, h.1, h.2, by decide, by decide, ?_⟩
    match j, hj with
    | 0, _ => exact d10_0
    | 1, _ => exact d10_1
    | 2, _ => exact d10_2
    | 3, _ => exact d10_3
    | 4, _ => exact d10_4
    | 5, _ => exact d10_5
    | 6, _ => exact d10_6
    | 7, _ => exact d10_7
  · refine ⟨2147483648, 2147483648, h.1, h.2, by decide, by decide, ?_⟩
    match j, hj with
    | 0, _ => exact h_0
    | 1, _ => exact h_1
    | 2, _ => exact h_2
    | 3, _ => exact h_3
    | 4, _ => exact h_4
    | 5, _ => exact h_5
    | 6, _ => exact h_6
    | 7, _ => exact h_7
  · refine ⟨2147483649, 3294967296, h.1, h.2, by decide, by decide, ?_⟩
    match j, hj with
    | 0, _ => exact m10_0
    | 1, _ => exact m10_1
    | 2, _ => exact m10_2
    | 3, _ => exact m10_3
    | 4, _ => exact m10_4
    | 5, _ => exact m10_5
    | 6, _ => exact m10_6
    | 7, _ => exact m10_7
  · refine ⟨3294967297, 4194967296, h.1, h.2, by decide, by decide, ?_⟩
    match j, hj with
    | 0, _ => exact m9_0
    | 1, _ => exact m9_1
    | 2, _ => exact m9_2
    | 3, _ => exact m9_3
    | 4, _ => exact m9_4
    | 5, _ => exact m9_5
    | 6, _ => exact m9_6
    | 7, _ => exact m9_7
  · refine ⟨4194967297, 4284967296, h.1, h.2, by decide, by decide, ?_⟩
    match j, hj with
    | 0, _ => exact m8_0
    | 1, _ => exact m8_1
    | 2, _ => exact m8_2
    | 3, _ => exact m8_3
    | 4, _ => exact m8_4
    | 5, _ => exact m8_5
    | 6, _ => exact m8_6
    | 7, _ => exact m8_7
  · refine ⟨4284967297, 4293967296, h.1, h.2, by decide, by decide, ?_⟩
    match j, hj with
    | 0, _ => exact m7_0
    | 1, _ => exact m7_1
    | 2, _ => exact m7_2
    | 3, _ => exact m7_3
    | 4, _ => exact m7_4
    | 5, _ => exact m7_5
    | 6, _ => exact m7_6
    | 7, _ => exact m7_7
  · refine ⟨4293967297, 4294867296, h.1, h.2, by decide, by decide, ?_⟩
    match j, hj with
    | 0, _ => exact m6_0
    | 1, _ => exact m6_1
    | 2, _ => exact m6_2
    | 3, _ => exact m6_3
    | 4, _ => exact m6_4
    | 5, _ => exact m6_5
    | 6, _ => exact m6_6
    | 7, _ => exact m6_7
  · refine ⟨4294867297, 4294957296, h.1, h.2, by decide, by decide, ?_⟩
    match j, hj with
    | 0, _ => exact m5_0
    | 1, _ => exact m5_1
    | 2, _ => exact m5_2
    | 3, _ => exact m5_3
    | 4, _ => exact m5_4
    | 5, _ => exact m5_5
    | 6, _ => exact m5_6
    | 7, _ => exact m5_7
  · refine ⟨4294957297, 4294966296, h.1, h.2, by decide, by decide, ?_⟩
    match j, hj with
    | 0, _ => exact m4_0
    | 1, _ => exact m4_1
    | 2, _ => exact m4_2
    | 3, _ => exact m4_3
    | 4, _ => exact m4_4
    | 5, _ => exact m4_5
    | 6, _ => exact m4_6
    | 7, _ => exact m4_7
  · refine ⟨4294966297, 4294967196, h.1, h.2, by decide, by decide, ?_⟩
    match j, hj with
    | 0, _ => exact m3_0
    | 1, _ => exact m3_1
    | 2, _ => exact m3_2
    | 3, _ => exact m3_3
    | 4, _ => exact m3_4
    | 5, _ => exact m3_5
    | 6, _ => exact m3_6
    | 7, _ => exact m3_7
  · refine ⟨4294967197, 4294967286, h.1, h.2, by decide, by decide, ?_⟩
    match j, hj with
    | 0, _ => exact m2_0
    | 1, _ => exact m2_1
    | 2, _ => exact m2_2
    | 3, _ => exact m2_3
    | 4, _ => exact m2_4
    | 5, _ => exact m2_5
    | 6, _ => exact m2_6
    | 7, _ => exact m2_7
  · refine ⟨4294967287, 4294967295, h.1, h.2, by decide, by decide, ?_⟩
    match j, hj with
    | 0, _ => exact m1_0
    | 1, _ => exact m1_1
    | 2, _ => exact m1_2
    | 3, _ => exact m1_3
    | 4, _ => exact m1_4
    | 5, _ => exact m1_5
    | 6, _ => exact m1_6
    | 7, _ => exact m1_7
end
end Go.TextN
