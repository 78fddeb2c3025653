/- Calls of the program, each told by its own run. -/
import Derived.Test.YtjfcnhfpnjcjaaaGreatDoorTnA1
import Derived.Test.YtjfcnhfpnjcjaaaGreatDoorTnA2
import Derived.Test.YtjfcnhfpnjcjaaaGreatDoorTnA3
namespace Go.TextN
open Go Go.Sy Go.E3
noncomputable section
noncomputable def deck : Deck := (Tri.put (Tri.put (Tri.put (Tri.put (Tri.put .e (path 27) (some fun _ => [big1 [], big2 [], big3 [], big4 [], big5 [], big6 [], big7 [], big8 [], big9 []])) (path 14) (some fun _ => [rdMov, rdJmp])) (path 18) (some fun _ => [is1, is2, is3])) (path 98) (some fun _ => [nd 1 9 1, nd 10 99 2, nd 100 999 3, nd 1000 9999 4, nd 10000 99999 5, nd 100000 999999 6, nd 1000000 9999999 7, nd 10000000 99999999 8, nd 100000000 999999999 9, nd 1000000000 4294967295 10])) (path 4) (some fun _ => [known]))
theorem deck_ok : DeckOk P deck := (DeckOk.put (DeckOk.put (DeckOk.put (DeckOk.put (DeckOk.put DeckOk.nil fun _ c hc => by
  simp only [List.mem_cons, List.not_mem_nil, or_false] at hc
  rcases hc with rfl | rfl | rfl | rfl | rfl | rfl | rfl | rfl | rfl
  · exact big1_ok
  · exact big2_ok
  · exact big3_ok
  · exact big4_ok
  · exact big5_ok
  · exact big6_ok
  · exact big7_ok
  · exact big8_ok
  · exact big9_ok
) fun _ c hc => by
  simp only [List.mem_cons, List.not_mem_nil, or_false] at hc
  rcases hc with rfl | rfl
  · exact rdMov_ok
  · exact rdJmp_ok
) fun _ c hc => by
  simp only [List.mem_cons, List.not_mem_nil, or_false] at hc
  rcases hc with rfl | rfl | rfl
  · exact is1_ok
  · exact is2_ok
  · exact is3_ok
) fun _ c hc => by
  simp only [List.mem_cons, List.not_mem_nil, or_false] at hc
  rcases hc with rfl | rfl | rfl | rfl | rfl | rfl | rfl | rfl | rfl | rfl
  · exact nd1_ok
  · exact nd2_ok
  · exact nd3_ok
  · exact nd4_ok
  · exact nd5_ok
  · exact nd6_ok
  · exact nd7_ok
  · exact nd8_ok
  · exact nd9_ok
  · exact nd10_ok
) fun _ c hc => by
  simp only [List.mem_cons, List.not_mem_nil, or_false] at hc
  rcases hc with rfl
  · exact known_ok
)
end
end Go.TextN
