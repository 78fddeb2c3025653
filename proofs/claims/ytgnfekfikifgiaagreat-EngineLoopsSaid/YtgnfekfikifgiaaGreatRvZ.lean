/- Calls of the program, each told by its own run. -/
import Derived.Test.YtgnfekfikifgiaaGreatRvE1
import Derived.Test.YtgnfekfikifgiaaGreatRvE2
import Derived.Test.YtgnfekfikifgiaaGreatRvE3
import Derived.Test.YtgnfekfikifgiaaGreatRvX1
import Derived.Test.YtgnfekfikifgiaaGreatRvX2
import Derived.Test.YtgnfekfikifgiaaGreatRvX3
namespace Go.RvC
open Go Go.Sy Go.E3
set_option maxRecDepth 100000
noncomputable section
noncomputable def encT : Tri (List Card) := Tri.put (Tri.put (Tri.put (Tri.put (Tri.put (Tri.put (Tri.put (Tri.put (Tri.put (Tri.put (Tri.put (Tri.put (Tri.put (Tri.put (Tri.put (Tri.put (Tri.put (Tri.put (Tri.put (Tri.put (Tri.put (Tri.put (Tri.put (Tri.put (Tri.put (Tri.put (Tri.put (Tri.put (Tri.put (Tri.put (Tri.put (Tri.put (Tri.put (Tri.put (Tri.put (Tri.put (Tri.put (Tri.put (Tri.put (Tri.put (Tri.put (Tri.put (Tri.put (Tri.put (Tri.put (Tri.put (.e) (path 1) (some [e1])) (path 2) (some [e2])) (path 3) (some [e3])) (path 4) (some [e4])) (path 5) (some [e5])) (path 6) (some [e6])) (path 7) (some [e7])) (path 8) (some [e8])) (path 9) (some [e9])) (path 10) (some [e10])) (path 11) (some [e11])) (path 12) (some [e12])) (path 13) (some [e13])) (path 14) (some [e14])) (path 15) (some [e15])) (path 16) (some [e16])) (path 17) (some [e17])) (path 18) (some [e18])) (path 19) (some [e19])) (path 20) (some [e20])) (path 21) (some [e21])) (path 22) (some [e22])) (path 23) (some [e23])) (path 24) (some [e24])) (path 25) (some [e25])) (path 26) (some [e26])) (path 27) (some [e27])) (path 28) (some [e28])) (path 29) (some [e29])) (path 30) (some [e30])) (path 31) (some [e31])) (path 32) (some [e32])) (path 33) (some [e33])) (path 34) (some [e34])) (path 35) (some [e35])) (path 36) (some [e36])) (path 37) (some [e37])) (path 38) (some [e38])) (path 39) (some [e39])) (path 40) (some [e40])) (path 41) (some [e41])) (path 42) (some [e42])) (path 43) (some [e43])) (path 44) (some [e44])) (path 45) (some [e45])) (path 46) (some [e46])
theorem encT_ok : CTOk 214 encT := by
  have h := CTOk.nil 214
  replace h := h.put 1 (l := [e1]) (fun x hx => by
    simp only [List.mem_cons, List.not_mem_nil, or_false] at hx
    subst hx; exact e1_ok)
  replace h := h.put 2 (l := [e2]) (fun x hx => by
    simp only [List.mem_cons, List.not_mem_nil, or_false] at hx
    subst hx; exact e2_ok)
  replace h := h.put 3 (l := [e3]) (fun x hx => by
    simp only [List.mem_cons, List.not_mem_nil, or_false] at hx
    subst hx; exact e3_ok)
  replace h := h.put 4 (l := [e4]) (fun x hx => by
    simp only [List.mem_cons, List.not_mem_nil, or_false] at hx
    subst hx; exact e4_ok)
  replace h := h.put 5 (l := [e5]) (fun x hx => by
    simp only [List.mem_cons, List.not_mem_nil, or_false] at hx
    subst hx; exact e5_ok)
  replace h := h.put 6 (l := [e6]) (fun x hx => by
    simp only [List.mem_cons, List.not_mem_nil, or_false] at hx
    subst hx; exact e6_ok)
  replace h := h.put 7 (l := [e7]) (fun x hx => by
    simp only [List.mem_cons, List.not_mem_nil, or_false] at hx
    subst hx; exact e7_ok)
  replace h := h.put 8 (l := [e8]) (fun x hx => by
    simp only [List.mem_cons, List.not_mem_nil, or_false] at hx
    subst hx; exact e8_ok)
  replace h := h.put 9 (l := [e9]) (fun x hx => by
    simp only [List.mem_cons, List.not_mem_nil, or_false] at hx
    subst hx; exact e9_ok)
  replace h := h.put 10 (l := [e10]) (fun x hx => by
    simp only [List.mem_cons, List.not_mem_nil, or_false] at hx
    subst hx; exact e10_ok)
  replace h := h.put 11 (l := [e11]) (fun x hx => by
    simp only [List.mem_cons, List.not_mem_nil, or_false] at hx
    subst hx; exact e11_ok)
  replace h := h.put 12 (l := [e12]) (fun x hx => by
    simp only [List.mem_cons, List.not_mem_nil, or_false] at hx
    subst hx; exact e12_ok)
  replace h := h.put 13 (l := [e13]) (fun x hx => by
    simp only [List.mem_cons, List.not_mem_nil, or_false] at hx
    subst hx; exact e13_ok)
  replace h := h.put 14 (l := [e14]) (fun x hx => by
    simp only [List.mem_cons, List.not_mem_nil, or_false] at hx
    subst hx; exact e14_ok)
  replace h := h.put 15 (l := [e15]) (fun x hx => by
    simp only [List.mem_cons, List.not_mem_nil, or_false] at hx
    subst hx; exact e15_ok)
  replace h := h.put 16 (l := [e16]) (fun x hx => by
    simp only [List.mem_cons, List.not_mem_nil, or_false] at hx
    subst hx; exact e16_ok)
  replace h := h.put 17 (l := [e17]) (fun x hx => by
    simp only [List.mem_cons, List.not_mem_nil, or_false] at hx
    subst hx; exact e17_ok)
  replace h := h.put 18 (l := [e18]) (fun x hx => by
    simp only [List.mem_cons, List.not_mem_nil, or_false] at hx
    subst hx; exact e18_ok)
  replace h := h.put 19 (l := [e19]) (fun x hx => by
    simp only [List.mem_cons, List.not_mem_nil, or_false] at hx
    subst hx; exact e19_ok)
  replace h := h.put 20 (l := [e20]) (fun x hx => by
    simp only [List.mem_cons, List.not_mem_nil, or_false] at hx
    subst hx; exact e20_ok)
  replace h := h.put 21 (l := [e21]) (fun x hx => by
    simp only [List.mem_cons, List.not_mem_nil, or_false] at hx
    subst hx; exact e21_ok)
  replace h := h.put 22 (l := [e22]) (fun x hx => by
    simp only [List.mem_cons, List.not_mem_nil, or_false] at hx
    subst hx; exact e22_ok)
  replace h := h.put 23 (l := [e23]) (fun x hx => by
    simp only [List.mem_cons, List.not_mem_nil, or_false] at hx
    subst hx; exact e23_ok)
  replace h := h.put 24 (l := [e24]) (fun x hx => by
    simp only [List.mem_cons, List.not_mem_nil, or_false] at hx
    subst hx; exact e24_ok)
  replace h := h.put 25 (l := [e25]) (fun x hx => by
    simp only [List.mem_cons, List.not_mem_nil, or_false] at hx
    subst hx; exact e25_ok)
  replace h := h.put 26 (l := [e26]) (fun x hx => by
    simp only [List.mem_cons, List.not_mem_nil, or_false] at hx
    subst hx; exact e26_ok)
  replace h := h.put 27 (l := [e27]) (fun x hx => by
    simp only [List.mem_cons, List.not_mem_nil, or_false] at hx
    subst hx; exact e27_ok)
  replace h := h.put 28 (l := [e28]) (fun x hx => by
    simp only [List.mem_cons, List.not_mem_nil, or_false] at hx
    subst hx; exact e28_ok)
  replace h := h.put 29 (l := [e29]) (fun x hx => by
    simp only [List.mem_cons, List.not_mem_nil, or_false] at hx
    subst hx; exact e29_ok)
  replace h := h.put 30 (l := [e30]) (fun x hx => by
    simp only [List.mem_cons, List.not_mem_nil, or_false] at hx
    subst hx; exact e30_ok)
  replace h := h.put 31 (l := [e31]) (fun x hx => by
    simp only [List.mem_cons, List.not_mem_nil, or_false] at hx
    subst hx; exact e31_ok)
  replace h := h.put 32 (l := [e32]) (fun x hx => by
    simp only [List.mem_cons, List.not_mem_nil, or_false] at hx
    subst hx; exact e32_ok)
  replace h := h.put 33 (l := [e33]) (fun x hx => by
    simp only [List.mem_cons, List.not_mem_nil, or_false] at hx
    subst hx; exact e33_ok)
  replace h := h.put 34 (l := [e34]) (fun x hx => by
    simp only [List.mem_cons, List.not_mem_nil, or_false] at hx
    subst hx; exact e34_ok)
  replace h := h.put 35 (l := [e35]) (fun x hx => by
    simp only [List.mem_cons, List.not_mem_nil, or_false] at hx
    subst hx; exact e35_ok)
  replace h := h.put 36 (l := [e36]) (fun x hx => by
    simp only [List.mem_cons, List.not_mem_nil, or_false] at hx
    subst hx; exact e36_ok)
  replace h := h.put 37 (l := [e37]) (fun x hx => by
    simp only [List.mem_cons, List.not_mem_nil, or_false] at hx
    subst hx; exact e37_ok)
  replace h := h.put 38 (l := [e38]) (fun x hx => by
    simp only [List.mem_cons, List.not_mem_nil, or_false] at hx
    subst hx; exact e38_ok)
  replace h := h.put 39 (l := [e39]) (fun x hx => by
    simp only [List.mem_cons, List.not_mem_nil, or_false] at hx
    subst hx; exact e39_ok)
  replace h := h.put 40 (l := [e40]) (fun x hx => by
    simp only [List.mem_cons, List.not_mem_nil, or_false] at hx
    subst hx; exact e40_ok)
  replace h := h.put 41 (l := [e41]) (fun x hx => by
    simp only [List.mem_cons, List.not_mem_nil, or_false] at hx
    subst hx; exact e41_ok)
  replace h := h.put 42 (l := [e42]) (fun x hx => by
    simp only [List.mem_cons, List.not_mem_nil, or_false] at hx
    subst hx; exact e42_ok)
  replace h := h.put 43 (l := [e43]) (fun x hx => by
    simp only [List.mem_cons, List.not_mem_nil, or_false] at hx
    subst hx; exact e43_ok)
  replace h := h.put 44 (l := [e44]) (fun x hx => by
    simp only [List.mem_cons, List.not_mem_nil, or_false] at hx
    subst hx; exact e44_ok)
  replace h := h.put 45 (l := [e45]) (fun x hx => by
    simp only [List.mem_cons, List.not_mem_nil, or_false] at hx
    subst hx; exact e45_ok)
  replace h := h.put 46 (l := [e46]) (fun x hx => by
    simp only [List.mem_cons, List.not_mem_nil, or_false] at hx
    subst hx; exact e46_ok)
  exact h
noncomputable def decT : Tri (List Card) := Tri.put (Tri.put (Tri.put (Tri.put (Tri.put (Tri.put (Tri.put (Tri.put (Tri.put (Tri.put (Tri.put (Tri.put (Tri.put (Tri.put (Tri.put (Tri.put (Tri.put (Tri.put (Tri.put (Tri.put (Tri.put (Tri.put (Tri.put (Tri.put (Tri.put (Tri.put (Tri.put (Tri.put (Tri.put (Tri.put (Tri.put (Tri.put (Tri.put (Tri.put (Tri.put (Tri.put (Tri.put (Tri.put (Tri.put (Tri.put (Tri.put (Tri.put (Tri.put (Tri.put (Tri.put (Tri.put (Tri.put (Tri.put (Tri.put (Tri.put (Tri.put (Tri.put (Tri.put (Tri.put (Tri.put (Tri.put (.e) (path 0) (some [d11])) (path 1) (some [d12])) (path 2) (some [d13])) (path 4) (some [d14])) (path 5) (some [d15])) (path 32) (some [d19])) (path 33) (some [d25])) (path 34) (some [d20])) (path 35) (some [d21])) (path 36) (some [d22])) (path 37) (some [d26, d27])) (path 38) (some [d23])) (path 39) (some [d24])) (path 40) (some [d2])) (path 41) (some [d2])) (path 42) (some [d2])) (path 43) (some [d2])) (path 44) (some [d2])) (path 45) (some [d2])) (path 46) (some [d2])) (path 47) (some [d2])) (path 64) (some [d16])) (path 65) (some [d17])) (path 66) (some [d18])) (path 96) (some [d28, d29, d38])) (path 97) (some [d30, d39])) (path 98) (some [d31, d40])) (path 99) (some [d32, d41])) (path 100) (some [d33, d42])) (path 101) (some [d34, d35, d43])) (path 102) (some [d36, d44])) (path 103) (some [d37, d45])) (path 104) (some [d1])) (path 105) (some [d1])) (path 106) (some [d1])) (path 107) (some [d1])) (path 108) (some [d1])) (path 109) (some [d1])) (path 110) (some [d1])) (path 111) (some [d1])) (path 192) (some [d5])) (path 193) (some [d6])) (path 196) (some [d7])) (path 197) (some [d8])) (path 198) (some [d9])) (path 199) (some [d10])) (path 200) (some [d4])) (path 216) (some [d3])) (path 217) (some [d3])) (path 218) (some [d3])) (path 219) (some [d3])) (path 220) (some [d3])) (path 221) (some [d3])) (path 222) (some [d3])) (path 223) (some [d3])) (path 224) (some [d46])
theorem decT_ok : CTOk 131 decT := by
  have h := CTOk.nil 131
  replace h := h.put 0 (l := [d11]) (fun x hx => by
    simp only [List.mem_cons, List.not_mem_nil, or_false] at hx
    subst hx; exact d11_ok)
  replace h := h.put 1 (l := [d12]) (fun x hx => by
    simp only [List.mem_cons, List.not_mem_nil, or_false] at hx
    subst hx; exact d12_ok)
  replace h := h.put 2 (l := [d13]) (fun x hx => by
    simp only [List.mem_cons, List.not_mem_nil, or_false] at hx
    subst hx; exact d13_ok)
  replace h := h.put 4 (l := [d14]) (fun x hx => by
    simp only [List.mem_cons, List.not_mem_nil, or_false] at hx
    subst hx; exact d14_ok)
  replace h := h.put 5 (l := [d15]) (fun x hx => by
    simp only [List.mem_cons, List.not_mem_nil, or_false] at hx
    subst hx; exact d15_ok)
  replace h := h.put 32 (l := [d19]) (fun x hx => by
    simp only [List.mem_cons, List.not_mem_nil, or_false] at hx
    subst hx; exact d19_ok)
  replace h := h.put 33 (l := [d25]) (fun x hx => by
    simp only [List.mem_cons, List.not_mem_nil, or_false] at hx
    subst hx; exact d25_ok)
  replace h := h.put 34 (l := [d20]) (fun x hx => by
    simp only [List.mem_cons, List.not_mem_nil, or_false] at hx
    subst hx; exact d20_ok)
  replace h := h.put 35 (l := [d21]) (fun x hx => by
    simp only [List.mem_cons, List.not_mem_nil, or_false] at hx
    subst hx; exact d21_ok)
  replace h := h.put 36 (l := [d22]) (fun x hx => by
    simp only [List.mem_cons, List.not_mem_nil, or_false] at hx
    subst hx; exact d22_ok)
  replace h := h.put 37 (l := [d26, d27]) (fun x hx => by
    simp only [List.mem_cons, List.not_mem_nil, or_false] at hx
    rcases hx with rfl | rfl
    · exact d26_ok
    · exact d27_ok)
  replace h := h.put 38 (l := [d23]) (fun x hx => by
    simp only [List.mem_cons, List.not_mem_nil, or_false] at hx
    subst hx; exact d23_ok)
  replace h := h.put 39 (l := [d24]) (fun x hx => by
    simp only [List.mem_cons, List.not_mem_nil, or_false] at hx
    subst hx; exact d24_ok)
  replace h := h.put 40 (l := [d2]) (fun x hx => by
    simp only [List.mem_cons, List.not_mem_nil, or_false] at hx
    subst hx; exact d2_ok)
  replace h := h.put 41 (l := [d2]) (fun x hx => by
    simp only [List.mem_cons, List.not_mem_nil, or_false] at hx
    subst hx; exact d2_ok)
  replace h := h.put 42 (l := [d2]) (fun x hx => by
    simp only [List.mem_cons, List.not_mem_nil, or_false] at hx
    subst hx; exact d2_ok)
  replace h := h.put 43 (l := [d2]) (fun x hx => by
    simp only [List.mem_cons, List.not_mem_nil, or_false] at hx
    subst hx; exact d2_ok)
  replace h := h.put 44 (l := [d2]) (fun x hx => by
    simp only [List.mem_cons, List.not_mem_nil, or_false] at hx
    subst hx; exact d2_ok)
  replace h := h.put 45 (l := [d2]) (fun x hx => by
    simp only [List.mem_cons, List.not_mem_nil, or_false] at hx
    subst hx; exact d2_ok)
  replace h := h.put 46 (l := [d2]) (fun x hx => by
    simp only [List.mem_cons, List.not_mem_nil, or_false] at hx
    subst hx; exact d2_ok)
  replace h := h.put 47 (l := [d2]) (fun x hx => by
    simp only [List.mem_cons, List.not_mem_nil, or_false] at hx
    subst hx; exact d2_ok)
  replace h := h.put 64 (l := [d16]) (fun x hx => by
    simp only [List.mem_cons, List.not_mem_nil, or_false] at hx
    subst hx; exact d16_ok)
  replace h := h.put 65 (l := [d17]) (fun x hx => by
    simp only [List.mem_cons, List.not_mem_nil, or_false] at hx
    subst hx; exact d17_ok)
  replace h := h.put 66 (l := [d18]) (fun x hx => by
    simp only [List.mem_cons, List.not_mem_nil, or_false] at hx
    subst hx; exact d18_ok)
  replace h := h.put 96 (l := [d28, d29, d38]) (fun x hx => by
    simp only [List.mem_cons, List.not_mem_nil, or_false] at hx
    rcases hx with rfl | rfl | rfl
    · exact d28_ok
    · exact d29_ok
    · exact d38_ok)
  replace h := h.put 97 (l := [d30, d39]) (fun x hx => by
    simp only [List.mem_cons, List.not_mem_nil, or_false] at hx
    rcases hx with rfl | rfl
    · exact d30_ok
    · exact d39_ok)
  replace h := h.put 98 (l := [d31, d40]) (fun x hx => by
    simp only [List.mem_cons, List.not_mem_nil, or_false] at hx
    rcases hx with rfl | rfl
    · exact d31_ok
    · exact d40_ok)
  replace h := h.put 99 (l := [d32, d41]) (fun x hx => by
    simp only [List.mem_cons, List.not_mem_nil, or_false] at hx
    rcases hx with rfl | rfl
    · exact d32_ok
    · exact d41_ok)
  replace h := h.put 100 (l := [d33, d42]) (fun x hx => by
    simp only [List.mem_cons, List.not_mem_nil, or_false] at hx
    rcases hx with rfl | rfl
    · exact d33_ok
    · exact d42_ok)
  replace h := h.put 101 (l := [d34, d35, d43]) (fun x hx => by
    simp only [List.mem_cons, List.not_mem_nil, or_false] at hx
    rcases hx with rfl | rfl | rfl
    · exact d34_ok
    · exact d35_ok
    · exact d43_ok)
  replace h := h.put 102 (l := [d36, d44]) (fun x hx => by
    simp only [List.mem_cons, List.not_mem_nil, or_false] at hx
    rcases hx with rfl | rfl
    · exact d36_ok
    · exact d44_ok)
  replace h := h.put 103 (l := [d37, d45]) (fun x hx => by
    simp only [List.mem_cons, List.not_mem_nil, or_false] at hx
    rcases hx with rfl | rfl
    · exact d37_ok
    · exact d45_ok)
  replace h := h.put 104 (l := [d1]) (fun x hx => by
    simp only [List.mem_cons, List.not_mem_nil, or_false] at hx
    subst hx; exact d1_ok)
  replace h := h.put 105 (l := [d1]) (fun x hx => by
    simp only [List.mem_cons, List.not_mem_nil, or_false] at hx
    subst hx; exact d1_ok)
  replace h := h.put 106 (l := [d1]) (fun x hx => by
    simp only [List.mem_cons, List.not_mem_nil, or_false] at hx
    subst hx; exact d1_ok)
  replace h := h.put 107 (l := [d1]) (fun x hx => by
    simp only [List.mem_cons, List.not_mem_nil, or_false] at hx
    subst hx; exact d1_ok)
  replace h := h.put 108 (l := [d1]) (fun x hx => by
    simp only [List.mem_cons, List.not_mem_nil, or_false] at hx
    subst hx; exact d1_ok)
  replace h := h.put 109 (l := [d1]) (fun x hx => by
    simp only [List.mem_cons, List.not_mem_nil, or_false] at hx
    subst hx; exact d1_ok)
  replace h := h.put 110 (l := [d1]) (fun x hx => by
    simp only [List.mem_cons, List.not_mem_nil, or_false] at hx
    subst hx; exact d1_ok)
  replace h := h.put 111 (l := [d1]) (fun x hx => by
    simp only [List.mem_cons, List.not_mem_nil, or_false] at hx
    subst hx; exact d1_ok)
  replace h := h.put 192 (l := [d5]) (fun x hx => by
    simp only [List.mem_cons, List.not_mem_nil, or_false] at hx
    subst hx; exact d5_ok)
  replace h := h.put 193 (l := [d6]) (fun x hx => by
    simp only [List.mem_cons, List.not_mem_nil, or_false] at hx
    subst hx; exact d6_ok)
  replace h := h.put 196 (l := [d7]) (fun x hx => by
    simp only [List.mem_cons, List.not_mem_nil, or_false] at hx
    subst hx; exact d7_ok)
  replace h := h.put 197 (l := [d8]) (fun x hx => by
    simp only [List.mem_cons, List.not_mem_nil, or_false] at hx
    subst hx; exact d8_ok)
  replace h := h.put 198 (l := [d9]) (fun x hx => by
    simp only [List.mem_cons, List.not_mem_nil, or_false] at hx
    subst hx; exact d9_ok)
  replace h := h.put 199 (l := [d10]) (fun x hx => by
    simp only [List.mem_cons, List.not_mem_nil, or_false] at hx
    subst hx; exact d10_ok)
  replace h := h.put 200 (l := [d4]) (fun x hx => by
    simp only [List.mem_cons, List.not_mem_nil, or_false] at hx
    subst hx; exact d4_ok)
  replace h := h.put 216 (l := [d3]) (fun x hx => by
    simp only [List.mem_cons, List.not_mem_nil, or_false] at hx
    subst hx; exact d3_ok)
  replace h := h.put 217 (l := [d3]) (fun x hx => by
    simp only [List.mem_cons, List.not_mem_nil, or_false] at hx
    subst hx; exact d3_ok)
  replace h := h.put 218 (l := [d3]) (fun x hx => by
    simp only [List.mem_cons, List.not_mem_nil, or_false] at hx
    subst hx; exact d3_ok)
  replace h := h.put 219 (l := [d3]) (fun x hx => by
    simp only [List.mem_cons, List.not_mem_nil, or_false] at hx
    subst hx; exact d3_ok)
  replace h := h.put 220 (l := [d3]) (fun x hx => by
    simp only [List.mem_cons, List.not_mem_nil, or_false] at hx
    subst hx; exact d3_ok)
  replace h := h.put 221 (l := [d3]) (fun x hx => by
    simp only [List.mem_cons, List.not_mem_nil, or_false] at hx
    subst hx; exact d3_ok)
  replace h := h.put 222 (l := [d3]) (fun x hx => by
    simp only [List.mem_cons, List.not_mem_nil, or_false] at hx
    subst hx; exact d3_ok)
  replace h := h.put 223 (l := [d3]) (fun x hx => by
    simp only [List.mem_cons, List.not_mem_nil, or_false] at hx
    subst hx; exact d3_ok)
  replace h := h.put 224 (l := [d46]) (fun x hx => by
    simp only [List.mem_cons, List.not_mem_nil, or_false] at hx
    subst hx; exact d46_ok)
  exact h
noncomputable def deck1 : Deck := Tri.put (Tri.put deck0 (path 214) (some fun xs => pickT encT (keyE xs))) (path 131) (some fun xs => pickT decT (keyD xs))
theorem deck1_ok : DeckOk P deck1 := DeckOk.put (DeckOk.put deck0_ok fun xs => pickT_ok encT_ok (keyE xs)) fun xs => pickT_ok decT_ok (keyD xs)
end
end Go.RvC
