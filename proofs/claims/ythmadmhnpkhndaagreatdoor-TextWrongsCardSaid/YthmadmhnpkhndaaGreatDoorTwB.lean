/- Calls of the program, each told by its own run. -/
import Derived.Test.YthmadmhnpkhndaaGreatDoorTwA1
import Derived.Test.YthmadmhnpkhndaaGreatDoorTwA2
import Derived.Test.YthmadmhnpkhndaaGreatDoorTwA3
namespace Go.TextW
open Go Go.Sy Go.E3
noncomputable section
noncomputable def deck1 : Deck := Tri.put .e (path 12) (some fun _ => [p0, p1, p2, p3, p4, p5, p6, p7, p8, p9, p10, p11, p12, p13, p14, p15, p16, p17, p18, p19, p20])
theorem deck1_ok : DeckOk P deck1 := DeckOk.put DeckOk.nil fun _ c hc => by
  simp only [List.mem_cons, List.not_mem_nil, or_false] at hc
  rcases hc with rfl | rfl | rfl | rfl | rfl | rfl | rfl | rfl | rfl | rfl | rfl | rfl | rfl | rfl | rfl | rfl | rfl | rfl | rfl | rfl | rfl
  · exact p0_ok
  · exact p1_ok
  · exact p2_ok
  · exact p3_ok
  · exact p4_ok
  · exact p5_ok
  · exact p6_ok
  · exact p7_ok
  · exact p8_ok
  · exact p9_ok
  · exact p10_ok
  · exact p11_ok
  · exact p12_ok
  · exact p13_ok
  · exact p14_ok
  · exact p15_ok
  · exact p16_ok
  · exact p17_ok
  · exact p18_ok
  · exact p19_ok
  · exact p20_ok
set_option maxRecDepth 100000
theorem prog1_ok : CardOk P 18 prog1 := CardOk.of deck1_ok 1 (by kernel_rfl)
noncomputable def deck : Deck := Tri.put (Tri.put deck1 (path 9) (some fun _ => [known])) (path 18) (some fun _ => [prog1])
theorem deck_ok : DeckOk P deck := DeckOk.put (DeckOk.put deck1_ok fun _ c hc => by
  simp only [List.mem_cons, List.not_mem_nil, or_false] at hc
  subst hc; exact known_ok) fun _ c hc => by
  simp only [List.mem_cons, List.not_mem_nil, or_false] at hc
  subst hc; exact prog1_ok
end
end Go.TextW
