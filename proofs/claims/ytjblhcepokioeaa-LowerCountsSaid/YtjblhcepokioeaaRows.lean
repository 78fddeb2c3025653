/-
  No cell of these rows narrows 'for every input' (looked for: loops, veiled, ifaces, maps, wideKeys, modest, calm, conditions, laid).
  DERIVED. THE GIVEN ROWS OF THIS SEAT. 2 by the template 'for every input the law returns true; each argument reads behind the call as it read before'; 0 by the template 'total and deterministic' (their statements: YtjblhcepokioeaaTotals.lean).
  GIVEN WITH THE SEED: the statements are not yours to turn. If you find one false, say at which input.
  Laid BY PROGRAM, IN A SANDBOX (cutbox-rows.mjs): the forced cells as the released guide's own fill.sh prints them over the translation fa3d64843c670cdf… (all of the seat's roots in one cut). By AI agents, Wed Nov 11 2026. No macro, syntax, notation, axiom, sorry.
-/
import Derived.Test.YtjblhcepokioeaaChecked
import GoSem.Claim
import GoSem.ClaimJoined
import GoSem.ClaimMapViews
import Derived.JoinedTies
import Derived.KernelRfl
namespace Go.Proofs.Ytjblhcepokioeaa
/- THE CELL 'sum', in the pinned program and in every row, IS THE sha256 OF THE DUMP (.gsa) THAT YtjblhcepokioeaaProg.lean LOADS. Nothing in Lean hashes anything: it is a label: what it is worth is what the hold of that sum in a sandbox is worth. -/
noncomputable def Try.pinned : Pinned := { name := "ytjblhcepokioeaa", sum := "fa3d64843c670cdf6b0e3a9f24df1d45144ca357dc1501eab510d37648df2bdb", checked := Try.checked }
namespace Rows
def none {H : Type} : Left H := { results := [], args := [] }

/-- 'ferrymanlaw19.LowerPlaces': WHATEVER THE INPUT: true; the input reads as it did. -/
def lowerPlacesSpec : ChangeSpec := { name := "lowerPlaces", fn := fun _ => fun
  | [d1, d2, d3, d4, d5] => { results := [.lit (.bool true)], args := [d1, d2, d3, d4, d5] }
  | _ => none }
def lowerPlacesRow : OpenClaim := { program := "ytjblhcepokioeaa", sum := "fa3d64843c670cdf6b0e3a9f24df1d45144ca357dc1501eab510d37648df2bdb", func := "ferryman/ferrymanlaw19.LowerPlaces", spec := "lowerPlaces", inPlace := ["math.Float64frombits", "math.Float64bits"], unfollowed := true, recurses := true, apart := false }
def LowerPlacesSaid : Prop := lowerPlacesRow.holds Try.pinned (OpenSpec.ofChange lowerPlacesSpec)

/-- ITS FALSE NEIGHBOUR: 'it returns false'. Refute it at one input. -/
def lowerPlacesWrong : ChangeSpec := { name := "lowerPlaces", fn := fun _ => fun
  | [d1, d2, d3, d4, d5] => { results := [.lit (.bool false)], args := [d1, d2, d3, d4, d5] }
  | _ => none }
def LowerPlacesWrongFalsely : Prop := lowerPlacesRow.holds Try.pinned (OpenSpec.ofChange lowerPlacesWrong)

/-- 'ferrymanlaw19.LowerCounts': WHATEVER THE INPUT: true; the input reads as it did. -/
def lowerCountsSpec : ChangeSpec := { name := "lowerCounts", fn := fun _ => fun
  | [d1, d2] => { results := [.lit (.bool true)], args := [d1, d2] }
  | _ => none }
def lowerCountsRow : OpenClaim := { program := "ytjblhcepokioeaa", sum := "fa3d64843c670cdf6b0e3a9f24df1d45144ca357dc1501eab510d37648df2bdb", func := "ferryman/ferrymanlaw19.LowerCounts", spec := "lowerCounts", inPlace := ["math.Float64frombits", "math.Float64bits"], unfollowed := true, recurses := true, apart := false }
def LowerCountsSaid : Prop := lowerCountsRow.holds Try.pinned (OpenSpec.ofChange lowerCountsSpec)

/-- ITS FALSE NEIGHBOUR: 'it returns false'. Refute it at one input. -/
def lowerCountsWrong : ChangeSpec := { name := "lowerCounts", fn := fun _ => fun
  | [d1, d2] => { results := [.lit (.bool false)], args := [d1, d2] }
  | _ => none }
def LowerCountsWrongFalsely : Prop := lowerCountsRow.holds Try.pinned (OpenSpec.ofChange lowerCountsWrong)

/- THE SECOND FORM. 'bulk': how many values and letters a reading holds, each counted each time it is reached (what is shared counts as often as it is met; a slice's spare places count too). A statement '..UptoSaid' is the law's where the arguments, and the package variables that the reading takes, are together of bulk at most 1048576: NARROWER than '..Said'. Prove '..Said' where nothing that the law and all that it calls make is longer than what came in: it says more and counts as full. Else prove '..UptoSaid'. A law counts once. -/
mutual
def uptoBulk {H : Type} : DataW H → Nat
  | .lit (.string bytes) => bytes.length + 1
  | .lit _ => 1
  | .nil => 1
  | .ptr d => uptoBulk d + 1
  | .slice elems spare => uptoBulkAll elems + uptoBulkAll spare + 1
  | .agg parts => uptoBulkAll parts + 1
  | .iface _ d => uptoBulk d + 1
  | .map entries => uptoBulkEntries entries + 1
  | .held _ => 1
def uptoBulkAll {H : Type} : List (DataW H) → Nat
  | [] => 0
  | d :: r => uptoBulk d + uptoBulkAll r
def uptoBulkEntries {H : Type} : List (Lit × DataW H) → Nat
  | [] => 0
  | x :: r => uptoBulkEntry x + uptoBulkEntries r
def uptoBulkEntry {H : Type} : Lit × DataW H → Nat
  | (.string bytes, d) => bytes.length + uptoBulk d + 1
  | (_, d) => uptoBulk d + 1
 end
def uptoSmall : (H : Type) → List (DataW H) → Bool := fun _ ds => decide (uptoBulkAll ds ≤ 1048576)
def OpenSpec.upto (s : _root_.Go.ChangeSpec) : _root_.Go.OpenSpec := { _root_.Go.OpenSpec.ofChange s with cond := some uptoSmall }

/-- 'ferrymanlaw19.LowerPlaces', WHERE WHAT IT READS IS OF BULK AT MOST 1048576: true; the input reads as it did. -/
def lowerPlacesUptoRow : OpenClaim := { program := "ytjblhcepokioeaa", sum := "fa3d64843c670cdf6b0e3a9f24df1d45144ca357dc1501eab510d37648df2bdb", func := "ferryman/ferrymanlaw19.LowerPlaces", spec := "lowerPlaces", inPlace := ["math.Float64frombits", "math.Float64bits"], unfollowed := true, recurses := true, apart := false, narrowed := true }
def LowerPlacesUptoSaid : Prop := lowerPlacesUptoRow.holds Try.pinned (OpenSpec.upto lowerPlacesSpec)

/-- 'ferrymanlaw19.LowerCounts', WHERE WHAT IT READS IS OF BULK AT MOST 1048576: true; the input reads as it did. -/
def lowerCountsUptoRow : OpenClaim := { program := "ytjblhcepokioeaa", sum := "fa3d64843c670cdf6b0e3a9f24df1d45144ca357dc1501eab510d37648df2bdb", func := "ferryman/ferrymanlaw19.LowerCounts", spec := "lowerCounts", inPlace := ["math.Float64frombits", "math.Float64bits"], unfollowed := true, recurses := true, apart := false, narrowed := true }
def LowerCountsUptoSaid : Prop := lowerCountsUptoRow.holds Try.pinned (OpenSpec.upto lowerCountsSpec)

end Rows
end Go.Proofs.Ytjblhcepokioeaa
