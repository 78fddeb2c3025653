/- Calls of the program, each told by its own run. -/
import Derived.Test.YtkgdmbnihdakiaaGreatEeC0
import Derived.Test.YtkgdmbnihdakiaaGreatEeC1
import Derived.Test.YtkgdmbnihdakiaaGreatEeC2
import Derived.Test.YtkgdmbnihdakiaaGreatEeC3
import Derived.Test.YtkgdmbnihdakiaaGreatEeC4
import Derived.Test.YtkgdmbnihdakiaaGreatEeC5
import Derived.Test.YtkgdmbnihdakiaaGreatEeC6
import Derived.Test.YtkgdmbnihdakiaaGreatEeC7
import Derived.Test.YtkgdmbnihdakiaaGreatEeC8
import Derived.Test.YtkgdmbnihdakiaaGreatEeC9
import Derived.Test.YtkgdmbnihdakiaaGreatEeC10
import Derived.Test.YtkgdmbnihdakiaaGreatEeC11
import Derived.Test.YtkgdmbnihdakiaaGreatEeC12
import Derived.Test.YtkgdmbnihdakiaaGreatEeC13
import Derived.Test.YtkgdmbnihdakiaaGreatEeC14
import Derived.Test.YtkgdmbnihdakiaaGreatEeC15
namespace Go.RvC
open Go Go.Sy Go.E3
theorem lawsE_0 (b : Bool) (q r : Nat) (hq : q < 3) (hr : r < 3) : CardOk P 10 (lawE 0 b q r) := by
  match b with
  | true => match q, hq with
    | 0, _ => match r, hr with
      | 0, _ => exact lawE0_1_0_0
      | 1, _ => exact lawE0_1_0_1
      | 2, _ => exact lawE0_1_0_2
    | 1, _ => match r, hr with
      | 0, _ => exact lawE0_1_1_0
      | 1, _ => exact lawE0_1_1_1
      | 2, _ => exact lawE0_1_1_2
    | 2, _ => match r, hr with
      | 0, _ => exact lawE0_1_2_0
      | 1, _ => exact lawE0_1_2_1
      | 2, _ => exact lawE0_1_2_2
  | false => match q, hq with
    | 0, _ => match r, hr with
      | 0, _ => exact lawE0_0_0_0
      | 1, _ => exact lawE0_0_0_1
      | 2, _ => exact lawE0_0_0_2
    | 1, _ => match r, hr with
      | 0, _ => exact lawE0_0_1_0
      | 1, _ => exact lawE0_0_1_1
      | 2, _ => exact lawE0_0_1_2
    | 2, _ => match r, hr with
      | 0, _ => exact lawE0_0_2_0
      | 1, _ => exact lawE0_0_2_1
      | 2, _ => exact lawE0_0_2_2
theorem lawsE_1 (b : Bool) (q r : Nat) (hq : q < 3) (hr : r < 3) : CardOk P 10 (lawE 1 b q r) := by
  match b with
  | true => match q, hq with
    | 0, _ => match r, hr with
      | 0, _ => exact lawE1_1_0_0
      | 1, _ => exact lawE1_1_0_1
      | 2, _ => exact lawE1_1_0_2
    | 1, _ => match r, hr with
      | 0, _ => exact lawE1_1_1_0
      | 1, _ => exact lawE1_1_1_1
      | 2, _ => exact lawE1_1_1_2
    | 2, _ => match r, hr with
      | 0, _ => exact lawE1_1_2_0
      | 1, _ => exact lawE1_1_2_1
      | 2, _ => exact lawE1_1_2_2
  | false => match q, hq with
    | 0, _ => match r, hr with
      | 0, _ => exact lawE1_0_0_0
      | 1, _ => exact lawE1_0_0_1
      | 2, _ => exact lawE1_0_0_2
    | 1, _ => match r, hr with
      | 0, _ => exact lawE1_0_1_0
      | 1, _ => exact lawE1_0_1_1
      | 2, _ => exact lawE1_0_1_2
    | 2, _ => match r, hr with
      | 0, _ => exact lawE1_0_2_0
      | 1, _ => exact lawE1_0_2_1
      | 2, _ => exact lawE1_0_2_2
theorem lawsE_2 (b : Bool) (q r : Nat) (hq : q < 3) (hr : r < 3) : CardOk P 10 (lawE 2 b q r) := by
  match b with
  | true => match q, hq with
    | 0, _ => match r, hr with
      | 0, _ => exact lawE2_1_0_0
      | 1, _ => exact lawE2_1_0_1
      | 2, _ => exact lawE2_1_0_2
    | 1, _ => match r, hr with
      | 0, _ => exact lawE2_1_1_0
      | 1, _ => exact lawE2_1_1_1
      | 2, _ => exact lawE2_1_1_2
    | 2, _ => match r, hr with
      | 0, _ => exact lawE2_1_2_0
      | 1, _ => exact lawE2_1_2_1
      | 2, _ => exact lawE2_1_2_2
  | false => match q, hq with
    | 0, _ => match r, hr with
      | 0, _ => exact lawE2_0_0_0
      | 1, _ => exact lawE2_0_0_1
      | 2, _ => exact lawE2_0_0_2
    | 1, _ => match r, hr with
      | 0, _ => exact lawE2_0_1_0
      | 1, _ => exact lawE2_0_1_1
      | 2, _ => exact lawE2_0_1_2
    | 2, _ => match r, hr with
      | 0, _ => exact lawE2_0_2_0
      | 1, _ => exact lawE2_0_2_1
      | 2, _ => exact lawE2_0_2_2
theorem lawsE_3 (b : Bool) (q r : Nat) (hq : q < 3) (hr : r < 3) : CardOk P 10 (lawE 3 b q r) := by
  match b with
  | true => match q, hq with
    | 0, _ => match r, hr with
      | 0, _ => exact lawE3_1_0_0
      | 1, _ => exact lawE3_1_0_1
      | 2, _ => exact lawE3_1_0_2
    | 1, _ => match r, hr with
      | 0, _ => exact lawE3_1_1_0
      | 1, _ => exact lawE3_1_1_1
      | 2, _ => exact lawE3_1_1_2
    | 2, _ => match r, hr with
      | 0, _ => exact lawE3_1_2_0
      | 1, _ => exact lawE3_1_2_1
      | 2, _ => exact lawE3_1_2_2
  | false => match q, hq with
    | 0, _ => match r, hr with
      | 0, _ => exact lawE3_0_0_0
      | 1, _ => exact lawE3_0_0_1
      | 2, _ => exact lawE3_0_0_2
    | 1, _ => match r, hr with
      | 0, _ => exact lawE3_0_1_0
      | 1, _ => exact lawE3_0_1_1
      | 2, _ => exact lawE3_0_1_2
    | 2, _ => match r, hr with
      | 0, _ => exact lawE3_0_2_0
      | 1, _ => exact lawE3_0_2_1
      | 2, _ => exact lawE3_0_2_2
theorem lawsE_4 (b : Bool) (q r : Nat) (hq : q < 3) (hr : r < 3) : CardOk P 10 (lawE 4 b q r) := by
  match b with
  | true => match q, hq with
    | 0, _ => match r, hr with
      | 0, _ => exact lawE4_1_0_0
      | 1, _ => exact lawE4_1_0_1
      | 2, _ => exact lawE4_1_0_2
    | 1, _ => match r, hr with
      | 0, _ => exact lawE4_1_1_0
      | 1, _ => exact lawE4_1_1_1
      | 2, _ => exact lawE4_1_1_2
    | 2, _ => match r, hr with
      | 0, _ => exact lawE4_1_2_0
      | 1, _ => exact lawE4_1_2_1
      | 2, _ => exact lawE4_1_2_2
  | false => match q, hq with
    | 0, _ => match r, hr with
      | 0, _ => exact lawE4_0_0_0
      | 1, _ => exact lawE4_0_0_1
      | 2, _ => exact lawE4_0_0_2
    | 1, _ => match r, hr with
      | 0, _ => exact lawE4_0_1_0
      | 1, _ => exact lawE4_0_1_1
      | 2, _ => exact lawE4_0_1_2
    | 2, _ => match r, hr with
      | 0, _ => exact lawE4_0_2_0
      | 1, _ => exact lawE4_0_2_1
      | 2, _ => exact lawE4_0_2_2
theorem lawsE_5 (b : Bool) (q r : Nat) (hq : q < 3) (hr : r < 3) : CardOk P 10 (lawE 5 b q r) := by
  match b with
  | true => match q, hq with
    | 0, _ => match r, hr with
      | 0, _ => exact lawE5_1_0_0
      | 1, _ => exact lawE5_1_0_1
      | 2, _ => exact lawE5_1_0_2
    | 1, _ => match r, hr with
      | 0, _ => exact lawE5_1_1_0
      | 1, _ => exact lawE5_1_1_1
      | 2, _ => exact lawE5_1_1_2
    | 2, _ => match r, hr with
      | 0, _ => exact lawE5_1_2_0
      | 1, _ => exact lawE5_1_2_1
      | 2, _ => exact lawE5_1_2_2
  | false => match q, hq with
    | 0, _ => match r, hr with
      | 0, _ => exact lawE5_0_0_0
      | 1, _ => exact lawE5_0_0_1
      | 2, _ => exact lawE5_0_0_2
    | 1, _ => match r, hr with
      | 0, _ => exact lawE5_0_1_0
      | 1, _ => exact lawE5_0_1_1
      | 2, _ => exact lawE5_0_1_2
    | 2, _ => match r, hr with
      | 0, _ => exact lawE5_0_2_0
      | 1, _ => exact lawE5_0_2_1
      | 2, _ => exact lawE5_0_2_2
theorem lawsE_6 (b : Bool) (q r : Nat) (hq : q < 3) (hr : r < 3) : CardOk P 10 (lawE 6 b q r) := by
  match b with
  | true => match q, hq with
    | 0, _ => match r, hr with
      | 0, _ => exact lawE6_1_0_0
      | 1, _ => exact lawE6_1_0_1
      | 2, _ => exact lawE6_1_0_2
    | 1, _ => match r, hr with
      | 0, _ => exact lawE6_1_1_0
      | 1, _ => exact lawE6_1_1_1
      | 2, _ => exact lawE6_1_1_2
    | 2, _ => match r, hr with
      | 0, _ => exact lawE6_1_2_0
      | 1, _ => exact lawE6_1_2_1
      | 2, _ => exact lawE6_1_2_2
  | false => match q, hq with
    | 0, _ => match r, hr with
      | 0, _ => exact lawE6_0_0_0
      | 1, _ => exact lawE6_0_0_1
      | 2, _ => exact lawE6_0_0_2
    | 1, _ => match r, hr with
      | 0, _ => exact lawE6_0_1_0
      | 1, _ => exact lawE6_0_1_1
      | 2, _ => exact lawE6_0_1_2
    | 2, _ => match r, hr with
      | 0, _ => exact lawE6_0_2_0
      | 1, _ => exact lawE6_0_2_1
      | 2, _ => exact lawE6_0_2_2
theorem lawsE_7 (b : Bool) (q r : Nat) (hq : q < 3) (hr : r < 3) : CardOk P 10 (lawE 7 b q r) := by
  match b with
  | true => match q, hq with
    | 0, _ => match r, hr with
      | 0, _ => exact lawE7_1_0_0
      | 1, _ => exact lawE7_1_0_1
      | 2, _ => exact lawE7_1_0_2
    | 1, _ => match r, hr with
      | 0, _ => exact lawE7_1_1_0
      | 1, _ => exact lawE7_1_1_1
      | 2, _ => exact lawE7_1_1_2
    | 2, _ => match r, hr with
      | 0, _ => exact lawE7_1_2_0
      | 1, _ => exact lawE7_1_2_1
      | 2, _ => exact lawE7_1_2_2
  | false => match q, hq with
    | 0, _ => match r, hr with
      | 0, _ => exact lawE7_0_0_0
      | 1, _ => exact lawE7_0_0_1
      | 2, _ => exact lawE7_0_0_2
    | 1, _ => match r, hr with
      | 0, _ => exact lawE7_0_1_0
      | 1, _ => exact lawE7_0_1_1
      | 2, _ => exact lawE7_0_1_2
    | 2, _ => match r, hr with
      | 0, _ => exact lawE7_0_2_0
      | 1, _ => exact lawE7_0_2_1
      | 2, _ => exact lawE7_0_2_2
theorem lawsE_8 (b : Bool) (q r : Nat) (hq : q < 3) (hr : r < 3) : CardOk P 10 (lawE 8 b q r) := by
  match b with
  | true => match q, hq with
    | 0, _ => match r, hr with
      | 0, _ => exact lawE8_1_0_0
      | 1, _ => exact lawE8_1_0_1
      | 2, _ => exact lawE8_1_0_2
    | 1, _ => match r, hr with
      | 0, _ => exact lawE8_1_1_0
      | 1, _ => exact lawE8_1_1_1
      | 2, _ => exact lawE8_1_1_2
    | 2, _ => match r, hr with
      | 0, _ => exact lawE8_1_2_0
      | 1, _ => exact lawE8_1_2_1
      | 2, _ => exact lawE8_1_2_2
  | false => match q, hq with
    | 0, _ => match r, hr with
      | 0, _ => exact lawE8_0_0_0
      | 1, _ => exact lawE8_0_0_1
      | 2, _ => exact lawE8_0_0_2
    | 1, _ => match r, hr with
      | 0, _ => exact lawE8_0_1_0
      | 1, _ => exact lawE8_0_1_1
      | 2, _ => exact lawE8_0_1_2
    | 2, _ => match r, hr with
      | 0, _ => exact lawE8_0_2_0
      | 1, _ => exact lawE8_0_2_1
      | 2, _ => exact lawE8_0_2_2
theorem lawsE_9 (b : Bool) (q r : Nat) (hq : q < 3) (hr : r < 3) : CardOk P 10 (lawE 9 b q r) := by
  match b with
  | true => match q, hq with
    | 0, _ => match r, hr with
      | 0, _ => exact lawE9_1_0_0
      | 1, _ => exact lawE9_1_0_1
      | 2, _ => exact lawE9_1_0_2
    | 1, _ => match r, hr with
      | 0, _ => exact lawE9_1_1_0
      | 1, _ => exact lawE9_1_1_1
      | 2, _ => exact lawE9_1_1_2
    | 2, _ => match r, hr with
      | 0, _ => exact lawE9_1_2_0
      | 1, _ => exact lawE9_1_2_1
      | 2, _ => exact lawE9_1_2_2
  | false => match q, hq with
    | 0, _ => match r, hr with
      | 0, _ => exact lawE9_0_0_0
      | 1, _ => exact lawE9_0_0_1
      | 2, _ => exact lawE9_0_0_2
    | 1, _ => match r, hr with
      | 0, _ => exact lawE9_0_1_0
      | 1, _ => exact lawE9_0_1_1
      | 2, _ => exact lawE9_0_1_2
    | 2, _ => match r, hr with
      | 0, _ => exact lawE9_0_2_0
      | 1, _ => exact lawE9_0_2_1
      | 2, _ => exact lawE9_0_2_2
theorem lawsE_10 (b : Bool) (q r : Nat) (hq : q < 3) (hr : r < 3) : CardOk P 10 (lawE 10 b q r) := by
  match b with
  | true => match q, hq with
    | 0, _ => match r, hr with
      | 0, _ => exact lawE10_1_0_0
      | 1, _ => exact lawE10_1_0_1
      | 2, _ => exact lawE10_1_0_2
    | 1, _ => match r, hr with
      | 0, _ => exact lawE10_1_1_0
      | 1, _ => exact lawE10_1_1_1
      | 2, _ => exact lawE10_1_1_2
    | 2, _ => match r, hr with
      | 0, _ => exact lawE10_1_2_0
      | 1, _ => exact lawE10_1_2_1
      | 2, _ => exact lawE10_1_2_2
  | false => match q, hq with
    | 0, _ => match r, hr with
      | 0, _ => exact lawE10_0_0_0
      | 1, _ => exact lawE10_0_0_1
      | 2, _ => exact lawE10_0_0_2
    | 1, _ => match r, hr with
      | 0, _ => exact lawE10_0_1_0
      | 1, _ => exact lawE10_0_1_1
      | 2, _ => exact lawE10_0_1_2
    | 2, _ => match r, hr with
      | 0, _ => exact lawE10_0_2_0
      | 1, _ => exact lawE10_0_2_1
      | 2, _ => exact lawE10_0_2_2
theorem lawsE_11 (b : Bool) (q r : Nat) (hq : q < 3) (hr : r < 3) : CardOk P 10 (lawE 11 b q r) := by
  match b with
  | true => match q, hq with
    | 0, _ => match r, hr with
      | 0, _ => exact lawE11_1_0_0
      | 1, _ => exact lawE11_1_0_1
      | 2, _ => exact lawE11_1_0_2
    | 1, _ => match r, hr with
      | 0, _ => exact lawE11_1_1_0
      | 1, _ => exact lawE11_1_1_1
      | 2, _ => exact lawE11_1_1_2
    | 2, _ => match r, hr with
      | 0, _ => exact lawE11_1_2_0
      | 1, _ => exact lawE11_1_2_1
      | 2, _ => exact lawE11_1_2_2
  | false => match q, hq with
    | 0, _ => match r, hr with
      | 0, _ => exact lawE11_0_0_0
      | 1, _ => exact lawE11_0_0_1
      | 2, _ => exact lawE11_0_0_2
    | 1, _ => match r, hr with
      | 0, _ => exact lawE11_0_1_0
      | 1, _ => exact lawE11_0_1_1
      | 2, _ => exact lawE11_0_1_2
    | 2, _ => match r, hr with
      | 0, _ => exact lawE11_0_2_0
      | 1, _ => exact lawE11_0_2_1
      | 2, _ => exact lawE11_0_2_2
theorem lawsE_12 (b : Bool) (q r : Nat) (hq : q < 3) (hr : r < 3) : CardOk P 10 (lawE 12 b q r) := by
  match b with
  | true => match q, hq with
    | 0, _ => match r, hr with
      | 0, _ => exact lawE12_1_0_0
      | 1, _ => exact lawE12_1_0_1
      | 2, _ => exact lawE12_1_0_2
    | 1, _ => match r, hr with
      | 0, _ => exact lawE12_1_1_0
      | 1, _ => exact lawE12_1_1_1
      | 2, _ => exact lawE12_1_1_2
    | 2, _ => match r, hr with
      | 0, _ => exact lawE12_1_2_0
      | 1, _ => exact lawE12_1_2_1
      | 2, _ => exact lawE12_1_2_2
  | false => match q, hq with
    | 0, _ => match r, hr with
      | 0, _ => exact lawE12_0_0_0
      | 1, _ => exact lawE12_0_0_1
      | 2, _ => exact lawE12_0_0_2
    | 1, _ => match r, hr with
      | 0, _ => exact lawE12_0_1_0
      | 1, _ => exact lawE12_0_1_1
      | 2, _ => exact lawE12_0_1_2
    | 2, _ => match r, hr with
      | 0, _ => exact lawE12_0_2_0
      | 1, _ => exact lawE12_0_2_1
      | 2, _ => exact lawE12_0_2_2
theorem lawsE_13 (b : Bool) (q r : Nat) (hq : q < 3) (hr : r < 3) : CardOk P 10 (lawE 13 b q r) := by
  match b with
  | true => match q, hq with
    | 0, _ => match r, hr with
      | 0, _ => exact lawE13_1_0_0
      | 1, _ => exact lawE13_1_0_1
      | 2, _ => exact lawE13_1_0_2
    | 1, _ => match r, hr with
      | 0, _ => exact lawE13_1_1_0
      | 1, _ => exact lawE13_1_1_1
      | 2, _ => exact lawE13_1_1_2
    | 2, _ => match r, hr with
      | 0, _ => exact lawE13_1_2_0
      | 1, _ => exact lawE13_1_2_1
      | 2, _ => exact lawE13_1_2_2
  | false => match q, hq with
    | 0, _ => match r, hr with
      | 0, _ => exact lawE13_0_0_0
      | 1, _ => exact lawE13_0_0_1
      | 2, _ => exact lawE13_0_0_2
    | 1, _ => match r, hr with
      | 0, _ => exact lawE13_0_1_0
      | 1, _ => exact lawE13_0_1_1
      | 2, _ => exact lawE13_0_1_2
    | 2, _ => match r, hr with
      | 0, _ => exact lawE13_0_2_0
      | 1, _ => exact lawE13_0_2_1
      | 2, _ => exact lawE13_0_2_2
theorem lawsE_14 (b : Bool) (q r : Nat) (hq : q < 3) (hr : r < 3) : CardOk P 10 (lawE 14 b q r) := by
  match b with
  | true => match q, hq with
    | 0, _ => match r, hr with
      | 0, _ => exact lawE14_1_0_0
      | 1, _ => exact lawE14_1_0_1
      | 2, _ => exact lawE14_1_0_2
    | 1, _ => match r, hr with
      | 0, _ => exact lawE14_1_1_0
      | 1, _ => exact lawE14_1_1_1
      | 2, _ => exact lawE14_1_1_2
    | 2, _ => match r, hr with
      | 0, _ => exact lawE14_1_2_0
      | 1, _ => exact lawE14_1_2_1
      | 2, _ => exact lawE14_1_2_2
  | false => match q, hq with
    | 0, _ => match r, hr with
      | 0, _ => exact lawE14_0_0_0
      | 1, _ => exact lawE14_0_0_1
      | 2, _ => exact lawE14_0_0_2
    | 1, _ => match r, hr with
      | 0, _ => exact lawE14_0_1_0
      | 1, _ => exact lawE14_0_1_1
      | 2, _ => exact lawE14_0_1_2
    | 2, _ => match r, hr with
      | 0, _ => exact lawE14_0_2_0
      | 1, _ => exact lawE14_0_2_1
      | 2, _ => exact lawE14_0_2_2
theorem lawsE_15 (b : Bool) (q r : Nat) (hq : q < 3) (hr : r < 3) : CardOk P 10 (lawE 15 b q r) := by
  match b with
  | true => match q, hq with
    | 0, _ => match r, hr with
      | 0, _ => exact lawE15_1_0_0
      | 1, _ => exact lawE15_1_0_1
      | 2, _ => exact lawE15_1_0_2
    | 1, _ => match r, hr with
      | 0, _ => exact lawE15_1_1_0
      | 1, _ => exact lawE15_1_1_1
      | 2, _ => exact lawE15_1_1_2
    | 2, _ => match r, hr with
      | 0, _ => exact lawE15_1_2_0
      | 1, _ => exact lawE15_1_2_1
      | 2, _ => exact lawE15_1_2_2
  | false => match q, hq with
    | 0, _ => match r, hr with
      | 0, _ => exact lawE15_0_0_0
      | 1, _ => exact lawE15_0_0_1
      | 2, _ => exact lawE15_0_0_2
    | 1, _ => match r, hr with
      | 0, _ => exact lawE15_0_1_0
      | 1, _ => exact lawE15_0_1_1
      | 2, _ => exact lawE15_0_1_2
    | 2, _ => match r, hr with
      | 0, _ => exact lawE15_0_2_0
      | 1, _ => exact lawE15_0_2_1
      | 2, _ => exact lawE15_0_2_2
theorem lawsE (j : Nat) (b : Bool) (q r : Nat) (hj : j < 16) (hq : q < 3) (hr : r < 3) : CardOk P 10 (lawE j b q r) := by
  have h : j = 0 ∨ j = 1 ∨ j = 2 ∨ j = 3 ∨ j = 4 ∨ j = 5 ∨ j = 6 ∨ j = 7 ∨ j = 8 ∨ j = 9 ∨ j = 10 ∨ j = 11 ∨ j = 12 ∨ j = 13 ∨ j = 14 ∨ j = 15 := by omega
  rcases h with rfl | rfl | rfl | rfl | rfl | rfl | rfl | rfl | rfl | rfl | rfl | rfl | rfl | rfl | rfl | rfl
  · exact lawsE_0 b q r hq hr
  · exact lawsE_1 b q r hq hr
  · exact lawsE_2 b q r hq hr
  · exact lawsE_3 b q r hq hr
  · exact lawsE_4 b q r hq hr
  · exact lawsE_5 b q r hq hr
  · exact lawsE_6 b q r hq hr
  · exact lawsE_7 b q r hq hr
  · exact lawsE_8 b q r hq hr
  · exact lawsE_9 b q r hq hr
  · exact lawsE_10 b q r hq hr
  · exact lawsE_11 b q r hq hr
  · exact lawsE_12 b q r hq hr
  · exact lawsE_13 b q r hq hr
  · exact lawsE_14 b q r hq hr
  · exact lawsE_15 b q r hq hr
end Go.RvC
