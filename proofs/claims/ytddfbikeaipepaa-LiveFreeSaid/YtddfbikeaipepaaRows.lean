/-
  No cell of these rows narrows 'for every input' (looked for: loops, veiled, ifaces, maps, wideKeys, modest, calm, conditions, laid).
  DERIVED. THE GIVEN ROWS OF THIS SEAT. 9 by the template 'for every input the law returns true; each argument reads behind the call as it read before'; 0 by the template 'total and deterministic' (their statements: YtddfbikeaipepaaTotals.lean).
  GIVEN WITH THE SEED: the statements are not yours to turn. If you find one false, say at which input.
  Laid BY PROGRAM, IN A SANDBOX (cutbox-rows.mjs): the forced cells as the released guide's own fill.sh prints them over the translation 288e0a1193617a00… (all of the seat's roots in one cut). By AI agents, Wed Nov 11 2026. No macro, syntax, notation, axiom, sorry.
-/
import Derived.Test.YtddfbikeaipepaaChecked
import GoSem.Claim
import GoSem.ClaimJoined
import GoSem.ClaimMapViews
import Derived.JoinedTies
import Derived.KernelRfl
namespace Go.Proofs.Ytddfbikeaipepaa
/- THE CELL 'sum', in the pinned program and in every row, IS THE sha256 OF THE DUMP (.gsa) THAT YtddfbikeaipepaaProg.lean LOADS. Nothing in Lean hashes anything: it is a label: what it is worth is what the hold of that sum in a sandbox is worth. -/
noncomputable def Try.pinned : Pinned := { name := "ytddfbikeaipepaa", sum := "288e0a1193617a00f55225e0c81a9f260cb4adab1198345c46933f7dd5769a33", checked := Try.checked }
namespace Rows
def none {H : Type} : Left H := { results := [], args := [] }

/-- 'ferrymanlaw17.LiveTells': WHATEVER THE INPUT: true; the input reads as it did. -/
def liveTellsSpec : ChangeSpec := { name := "liveTells", fn := fun _ => fun
  | [d1, d2] => { results := [.lit (.bool true)], args := [d1, d2] }
  | _ => none }
def liveTellsRow : OpenClaim := { program := "ytddfbikeaipepaa", sum := "288e0a1193617a00f55225e0c81a9f260cb4adab1198345c46933f7dd5769a33", func := "ferryman/ferrymanlaw17.LiveTells", spec := "liveTells", apart := false }
def LiveTellsSaid : Prop := liveTellsRow.holds Try.pinned (OpenSpec.ofChange liveTellsSpec)

/-- ITS FALSE NEIGHBOUR: 'it returns false'. Refute it at one input. -/
def liveTellsWrong : ChangeSpec := { name := "liveTells", fn := fun _ => fun
  | [d1, d2] => { results := [.lit (.bool false)], args := [d1, d2] }
  | _ => none }
def LiveTellsWrongFalsely : Prop := liveTellsRow.holds Try.pinned (OpenSpec.ofChange liveTellsWrong)

/-- 'ferrymanlaw17.LiveEnds': WHATEVER THE INPUT: true; the input reads as it did. -/
def liveEndsSpec : ChangeSpec := { name := "liveEnds", fn := fun _ => fun
  | [d] => { results := [.lit (.bool true)], args := [d] }
  | _ => none }
def liveEndsRow : OpenClaim := { program := "ytddfbikeaipepaa", sum := "288e0a1193617a00f55225e0c81a9f260cb4adab1198345c46933f7dd5769a33", func := "ferryman/ferrymanlaw17.LiveEnds", spec := "liveEnds", apart := false }
def LiveEndsSaid : Prop := liveEndsRow.holds Try.pinned (OpenSpec.ofChange liveEndsSpec)

/-- ITS FALSE NEIGHBOUR: 'it returns false'. Refute it at one input. -/
def liveEndsWrong : ChangeSpec := { name := "liveEnds", fn := fun _ => fun
  | [d] => { results := [.lit (.bool false)], args := [d] }
  | _ => none }
def LiveEndsWrongFalsely : Prop := liveEndsRow.holds Try.pinned (OpenSpec.ofChange liveEndsWrong)

/-- 'ferrymanlaw17.LiveDead': WHATEVER THE INPUT: true; the input reads as it did. -/
def liveDeadSpec : ChangeSpec := { name := "liveDead", fn := fun _ => fun
  | [d1, d2] => { results := [.lit (.bool true)], args := [d1, d2] }
  | _ => none }
def liveDeadRow : OpenClaim := { program := "ytddfbikeaipepaa", sum := "288e0a1193617a00f55225e0c81a9f260cb4adab1198345c46933f7dd5769a33", func := "ferryman/ferrymanlaw17.LiveDead", spec := "liveDead", apart := false }
def LiveDeadSaid : Prop := liveDeadRow.holds Try.pinned (OpenSpec.ofChange liveDeadSpec)

/-- ITS FALSE NEIGHBOUR: 'it returns false'. Refute it at one input. -/
def liveDeadWrong : ChangeSpec := { name := "liveDead", fn := fun _ => fun
  | [d1, d2] => { results := [.lit (.bool false)], args := [d1, d2] }
  | _ => none }
def LiveDeadWrongFalsely : Prop := liveDeadRow.holds Try.pinned (OpenSpec.ofChange liveDeadWrong)

/-- 'ferrymanlaw17.LiveSure': WHATEVER THE INPUT: true; the input reads as it did. -/
def liveSureSpec : ChangeSpec := { name := "liveSure", fn := fun _ => fun
  | [d1, d2, d3] => { results := [.lit (.bool true)], args := [d1, d2, d3] }
  | _ => none }
def liveSureRow : OpenClaim := { program := "ytddfbikeaipepaa", sum := "288e0a1193617a00f55225e0c81a9f260cb4adab1198345c46933f7dd5769a33", func := "ferryman/ferrymanlaw17.LiveSure", spec := "liveSure", inPlace := ["math.Float64frombits", "math.Float64bits"], apart := false }
def LiveSureSaid : Prop := liveSureRow.holds Try.pinned (OpenSpec.ofChange liveSureSpec)

/-- ITS FALSE NEIGHBOUR: 'it returns false'. Refute it at one input. -/
def liveSureWrong : ChangeSpec := { name := "liveSure", fn := fun _ => fun
  | [d1, d2, d3] => { results := [.lit (.bool false)], args := [d1, d2, d3] }
  | _ => none }
def LiveSureWrongFalsely : Prop := liveSureRow.holds Try.pinned (OpenSpec.ofChange liveSureWrong)

/-- 'ferrymanlaw17.LiveFree': WHATEVER THE INPUT: true; the input reads as it did. -/
def liveFreeSpec : ChangeSpec := { name := "liveFree", fn := fun _ => fun
  | [d1, d2, d3, d4] => { results := [.lit (.bool true)], args := [d1, d2, d3, d4] }
  | _ => none }
def liveFreeRow : OpenClaim := { program := "ytddfbikeaipepaa", sum := "288e0a1193617a00f55225e0c81a9f260cb4adab1198345c46933f7dd5769a33", func := "ferryman/ferrymanlaw17.LiveFree", spec := "liveFree", inPlace := ["math.Float64frombits", "math.Float64bits"], apart := false }
def LiveFreeSaid : Prop := liveFreeRow.holds Try.pinned (OpenSpec.ofChange liveFreeSpec)

/-- ITS FALSE NEIGHBOUR: 'it returns false'. Refute it at one input. -/
def liveFreeWrong : ChangeSpec := { name := "liveFree", fn := fun _ => fun
  | [d1, d2, d3, d4] => { results := [.lit (.bool false)], args := [d1, d2, d3, d4] }
  | _ => none }
def LiveFreeWrongFalsely : Prop := liveFreeRow.holds Try.pinned (OpenSpec.ofChange liveFreeWrong)

/-- 'ferrymanlaw9.InsnParts': WHATEVER THE INPUT: true; the input reads as it did. -/
def insnPartsSpec : ChangeSpec := { name := "insnParts", fn := fun _ => fun
  | [d1, d2] => { results := [.lit (.bool true)], args := [d1, d2] }
  | _ => none }
def insnPartsRow : OpenClaim := { program := "ytddfbikeaipepaa", sum := "288e0a1193617a00f55225e0c81a9f260cb4adab1198345c46933f7dd5769a33", func := "ferryman/ferrymanlaw9.InsnParts", spec := "insnParts", unfollowed := true, recurses := true, apart := false }
def InsnPartsSaid : Prop := insnPartsRow.holds Try.pinned (OpenSpec.ofChange insnPartsSpec)

/-- ITS FALSE NEIGHBOUR: 'it returns false'. Refute it at one input. -/
def insnPartsWrong : ChangeSpec := { name := "insnParts", fn := fun _ => fun
  | [d1, d2] => { results := [.lit (.bool false)], args := [d1, d2] }
  | _ => none }
def InsnPartsWrongFalsely : Prop := insnPartsRow.holds Try.pinned (OpenSpec.ofChange insnPartsWrong)

/-- 'ferrymanlaw9.InsnMemory': WHATEVER THE INPUT: true; the input reads as it did. -/
def insnMemorySpec : ChangeSpec := { name := "insnMemory", fn := fun _ => fun
  | [d] => { results := [.lit (.bool true)], args := [d] }
  | _ => none }
def insnMemoryRow : OpenClaim := { program := "ytddfbikeaipepaa", sum := "288e0a1193617a00f55225e0c81a9f260cb4adab1198345c46933f7dd5769a33", func := "ferryman/ferrymanlaw9.InsnMemory", spec := "insnMemory", unfollowed := true, recurses := true, apart := false }
def InsnMemorySaid : Prop := insnMemoryRow.holds Try.pinned (OpenSpec.ofChange insnMemorySpec)

/-- ITS FALSE NEIGHBOUR: 'it returns false'. Refute it at one input. -/
def insnMemoryWrong : ChangeSpec := { name := "insnMemory", fn := fun _ => fun
  | [d] => { results := [.lit (.bool false)], args := [d] }
  | _ => none }
def InsnMemoryWrongFalsely : Prop := insnMemoryRow.holds Try.pinned (OpenSpec.ofChange insnMemoryWrong)

/-- 'ferrymanlaw9.InsnShapes': WHATEVER THE INPUT: true; the input reads as it did. -/
def insnShapesSpec : ChangeSpec := { name := "insnShapes", fn := fun _ => fun
  | [d1, d2, d3] => { results := [.lit (.bool true)], args := [d1, d2, d3] }
  | _ => none }
def insnShapesRow : OpenClaim := { program := "ytddfbikeaipepaa", sum := "288e0a1193617a00f55225e0c81a9f260cb4adab1198345c46933f7dd5769a33", func := "ferryman/ferrymanlaw9.InsnShapes", spec := "insnShapes", unfollowed := true, recurses := true, apart := false }
def InsnShapesSaid : Prop := insnShapesRow.holds Try.pinned (OpenSpec.ofChange insnShapesSpec)

/-- ITS FALSE NEIGHBOUR: 'it returns false'. Refute it at one input. -/
def insnShapesWrong : ChangeSpec := { name := "insnShapes", fn := fun _ => fun
  | [d1, d2, d3] => { results := [.lit (.bool false)], args := [d1, d2, d3] }
  | _ => none }
def InsnShapesWrongFalsely : Prop := insnShapesRow.holds Try.pinned (OpenSpec.ofChange insnShapesWrong)

/-- 'ferrymanlaw9.InsnPlaces': WHATEVER THE INPUT: true; the input reads as it did. -/
def insnPlacesSpec : ChangeSpec := { name := "insnPlaces", fn := fun _ => fun
  | [d1, d2, d3, d4] => { results := [.lit (.bool true)], args := [d1, d2, d3, d4] }
  | _ => none }
def insnPlacesRow : OpenClaim := { program := "ytddfbikeaipepaa", sum := "288e0a1193617a00f55225e0c81a9f260cb4adab1198345c46933f7dd5769a33", func := "ferryman/ferrymanlaw9.InsnPlaces", spec := "insnPlaces", unfollowed := true, recurses := true, apart := false }
def InsnPlacesSaid : Prop := insnPlacesRow.holds Try.pinned (OpenSpec.ofChange insnPlacesSpec)

/-- ITS FALSE NEIGHBOUR: 'it returns false'. Refute it at one input. -/
def insnPlacesWrong : ChangeSpec := { name := "insnPlaces", fn := fun _ => fun
  | [d1, d2, d3, d4] => { results := [.lit (.bool false)], args := [d1, d2, d3, d4] }
  | _ => none }
def InsnPlacesWrongFalsely : Prop := insnPlacesRow.holds Try.pinned (OpenSpec.ofChange insnPlacesWrong)

/- THE SECOND FORM. 'bulk': how many values and letters a reading holds, each counted each time it is reached (what is shared counts as often as it is met; a slice's spare places count too). A statement '..UptoSaid' is the law's where the arguments, and the package variables that the reading takes, are together of bulk at most 1048576: NARROWER than '..Said'. Prove '..Said' where nothing that the law and all that it calls make is longer than what came in: it says more and counts as full. Else prove '..UptoSaid'. A law counts once. -/
mutual
def uptoBulk {H : Type} : DataW H → Nat
  | .lit (.string bytes) => bytes.length + 1
  | .lit _ => 1
  | .nil => 1
  | .ptr d => uptoBulk d + 1
  | .slice elems spare => uptoBulkAll elems + uptoBulkAll spare + 1
  | .agg parts => uptoBulkAll parts + 1
  | .iface _ d => uptoBulk d + 1
  | .map entries => uptoBulkEntries entries + 1
  | .held _ => 1
def uptoBulkAll {H : Type} : List (DataW H) → Nat
  | [] => 0
  | d :: r => uptoBulk d + uptoBulkAll r
def uptoBulkEntries {H : Type} : List (Lit × DataW H) → Nat
  | [] => 0
  | x :: r => uptoBulkEntry x + uptoBulkEntries r
def uptoBulkEntry {H : Type} : Lit × DataW H → Nat
  | (.string bytes, d) => bytes.length + uptoBulk d + 1
  | (_, d) => uptoBulk d + 1
 end
def uptoSmall : (H : Type) → List (DataW H) → Bool := fun _ ds => decide (uptoBulkAll ds ≤ 1048576)
def OpenSpec.upto (s : _root_.Go.ChangeSpec) : _root_.Go.OpenSpec := { _root_.Go.OpenSpec.ofChange s with cond := some uptoSmall }

/-- 'ferrymanlaw17.LiveTells', WHERE WHAT IT READS IS OF BULK AT MOST 1048576: true; the input reads as it did. -/
def liveTellsUptoRow : OpenClaim := { program := "ytddfbikeaipepaa", sum := "288e0a1193617a00f55225e0c81a9f260cb4adab1198345c46933f7dd5769a33", func := "ferryman/ferrymanlaw17.LiveTells", spec := "liveTells", apart := false, narrowed := true }
def LiveTellsUptoSaid : Prop := liveTellsUptoRow.holds Try.pinned (OpenSpec.upto liveTellsSpec)

/-- 'ferrymanlaw17.LiveEnds', WHERE WHAT IT READS IS OF BULK AT MOST 1048576: true; the input reads as it did. -/
def liveEndsUptoRow : OpenClaim := { program := "ytddfbikeaipepaa", sum := "288e0a1193617a00f55225e0c81a9f260cb4adab1198345c46933f7dd5769a33", func := "ferryman/ferrymanlaw17.LiveEnds", spec := "liveEnds", apart := false, narrowed := true }
def LiveEndsUptoSaid : Prop := liveEndsUptoRow.holds Try.pinned (OpenSpec.upto liveEndsSpec)

/-- 'ferrymanlaw17.LiveDead', WHERE WHAT IT READS IS OF BULK AT MOST 1048576: true; the input reads as it did. -/
def liveDeadUptoRow : OpenClaim := { program := "ytddfbikeaipepaa", sum := "288e0a1193617a00f55225e0c81a9f260cb4adab1198345c46933f7dd5769a33", func := "ferryman/ferrymanlaw17.LiveDead", spec := "liveDead", apart := false, narrowed := true }
def LiveDeadUptoSaid : Prop := liveDeadUptoRow.holds Try.pinned (OpenSpec.upto liveDeadSpec)

/-- 'ferrymanlaw17.LiveSure', WHERE WHAT IT READS IS OF BULK AT MOST 1048576: true; the input reads as it did. -/
def liveSureUptoRow : OpenClaim := { program := "ytddfbikeaipepaa", sum := "288e0a1193617a00f55225e0c81a9f260cb4adab1198345c46933f7dd5769a33", func := "ferryman/ferrymanlaw17.LiveSure", spec := "liveSure", inPlace := ["math.Float64frombits", "math.Float64bits"], apart := false, narrowed := true }
def LiveSureUptoSaid : Prop := liveSureUptoRow.holds Try.pinned (OpenSpec.upto liveSureSpec)

/-- 'ferrymanlaw17.LiveFree', WHERE WHAT IT READS IS OF BULK AT MOST 1048576: true; the input reads as it did. -/
def liveFreeUptoRow : OpenClaim := { program := "ytddfbikeaipepaa", sum := "288e0a1193617a00f55225e0c81a9f260cb4adab1198345c46933f7dd5769a33", func := "ferryman/ferrymanlaw17.LiveFree", spec := "liveFree", inPlace := ["math.Float64frombits", "math.Float64bits"], apart := false, narrowed := true }
def LiveFreeUptoSaid : Prop := liveFreeUptoRow.holds Try.pinned (OpenSpec.upto liveFreeSpec)

/-- 'ferrymanlaw9.InsnParts', WHERE WHAT IT READS IS OF BULK AT MOST 1048576: true; the input reads as it did. -/
def insnPartsUptoRow : OpenClaim := { program := "ytddfbikeaipepaa", sum := "288e0a1193617a00f55225e0c81a9f260cb4adab1198345c46933f7dd5769a33", func := "ferryman/ferrymanlaw9.InsnParts", spec := "insnParts", unfollowed := true, recurses := true, apart := false, narrowed := true }
def InsnPartsUptoSaid : Prop := insnPartsUptoRow.holds Try.pinned (OpenSpec.upto insnPartsSpec)

/-- 'ferrymanlaw9.InsnMemory', WHERE WHAT IT READS IS OF BULK AT MOST 1048576: true; the input reads as it did. -/
def insnMemoryUptoRow : OpenClaim := { program := "ytddfbikeaipepaa", sum := "288e0a1193617a00f55225e0c81a9f260cb4adab1198345c46933f7dd5769a33", func := "ferryman/ferrymanlaw9.InsnMemory", spec := "insnMemory", unfollowed := true, recurses := true, apart := false, narrowed := true }
def InsnMemoryUptoSaid : Prop := insnMemoryUptoRow.holds Try.pinned (OpenSpec.upto insnMemorySpec)

/-- 'ferrymanlaw9.InsnShapes', WHERE WHAT IT READS IS OF BULK AT MOST 1048576: true; the input reads as it did. -/
def insnShapesUptoRow : OpenClaim := { program := "ytddfbikeaipepaa", sum := "288e0a1193617a00f55225e0c81a9f260cb4adab1198345c46933f7dd5769a33", func := "ferryman/ferrymanlaw9.InsnShapes", spec := "insnShapes", unfollowed := true, recurses := true, apart := false, narrowed := true }
def InsnShapesUptoSaid : Prop := insnShapesUptoRow.holds Try.pinned (OpenSpec.upto insnShapesSpec)

/-- 'ferrymanlaw9.InsnPlaces', WHERE WHAT IT READS IS OF BULK AT MOST 1048576: true; the input reads as it did. -/
def insnPlacesUptoRow : OpenClaim := { program := "ytddfbikeaipepaa", sum := "288e0a1193617a00f55225e0c81a9f260cb4adab1198345c46933f7dd5769a33", func := "ferryman/ferrymanlaw9.InsnPlaces", spec := "insnPlaces", unfollowed := true, recurses := true, apart := false, narrowed := true }
def InsnPlacesUptoSaid : Prop := insnPlacesUptoRow.holds Try.pinned (OpenSpec.upto insnPlacesSpec)

end Rows
end Go.Proofs.Ytddfbikeaipepaa
