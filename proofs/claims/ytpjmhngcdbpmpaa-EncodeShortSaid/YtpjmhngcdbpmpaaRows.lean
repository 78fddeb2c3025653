/-
  No cell of these rows narrows 'for every input' (looked for: loops, veiled, ifaces, maps, wideKeys, modest, calm, conditions, laid).
  DERIVED. THE GIVEN ROWS OF THIS SEAT. 5 by the template 'for every input the law returns true; each argument reads behind the call as it read before'; 0 by the template 'total and deterministic' (their statements: YtpjmhngcdbpmpaaTotals.lean).
  GIVEN WITH THE SEED: the statements are not yours to turn. If you find one false, say at which input.
  Laid BY PROGRAM, IN A SANDBOX (cutbox-rows.mjs): the forced cells as the released guide's own fill.sh prints them over the translation b69ae4827e6babab… (all of the seat's roots in one cut). By AI agents, Wed Nov 11 2026. No macro, syntax, notation, axiom, sorry.
-/
import Derived.Test.YtpjmhngcdbpmpaaChecked
import GoSem.Claim
import GoSem.ClaimJoined
import GoSem.ClaimMapViews
import Derived.JoinedTies
import Derived.KernelRfl
namespace Go.Proofs.Ytpjmhngcdbpmpaa
/- THE CELL 'sum', in the pinned program and in every row, IS THE sha256 OF THE DUMP (.gsa) THAT YtpjmhngcdbpmpaaProg.lean LOADS. Nothing in Lean hashes anything: it is a label: what it is worth is what the hold of that sum in a sandbox is worth. -/
noncomputable def Try.pinned : Pinned := { name := "ytpjmhngcdbpmpaa", sum := "b69ae4827e6bababd485c26ea048b6c2cbfe5e9860ab2d3d37136e171982da9f", checked := Try.checked }
namespace Rows
def none {H : Type} : Left H := { results := [], args := [] }

/-- 'ferrymanlaw11.EncodeTells': WHATEVER THE INPUT: true; the input reads as it did. -/
def encodeTellsSpec : ChangeSpec := { name := "encodeTells", fn := fun _ => fun
  | [d] => { results := [.lit (.bool true)], args := [d] }
  | _ => none }
def encodeTellsRow : OpenClaim := { program := "ytpjmhngcdbpmpaa", sum := "b69ae4827e6bababd485c26ea048b6c2cbfe5e9860ab2d3d37136e171982da9f", func := "ferryman/ferrymanlaw11.EncodeTells", spec := "encodeTells", inPlace := ["internal/bytealg.Compare"], unfollowed := true, recurses := true, apart := false }
def EncodeTellsSaid : Prop := encodeTellsRow.holds Try.pinned (OpenSpec.ofChange encodeTellsSpec)

/-- ITS FALSE NEIGHBOUR: 'it returns false'. Refute it at one input. -/
def encodeTellsWrong : ChangeSpec := { name := "encodeTells", fn := fun _ => fun
  | [d] => { results := [.lit (.bool false)], args := [d] }
  | _ => none }
def EncodeTellsWrongFalsely : Prop := encodeTellsRow.holds Try.pinned (OpenSpec.ofChange encodeTellsWrong)

/-- 'ferrymanlaw11.EncodeBack': WHATEVER THE INPUT: true; the input reads as it did. -/
def encodeBackSpec : ChangeSpec := { name := "encodeBack", fn := fun _ => fun
  | [d1, d2] => { results := [.lit (.bool true)], args := [d1, d2] }
  | _ => none }
def encodeBackRow : OpenClaim := { program := "ytpjmhngcdbpmpaa", sum := "b69ae4827e6bababd485c26ea048b6c2cbfe5e9860ab2d3d37136e171982da9f", func := "ferryman/ferrymanlaw11.EncodeBack", spec := "encodeBack", inPlace := ["internal/bytealg.Compare"], unfollowed := true, recurses := true, apart := false }
def EncodeBackSaid : Prop := encodeBackRow.holds Try.pinned (OpenSpec.ofChange encodeBackSpec)

/-- ITS FALSE NEIGHBOUR: 'it returns false'. Refute it at one input. -/
def encodeBackWrong : ChangeSpec := { name := "encodeBack", fn := fun _ => fun
  | [d1, d2] => { results := [.lit (.bool false)], args := [d1, d2] }
  | _ => none }
def EncodeBackWrongFalsely : Prop := encodeBackRow.holds Try.pinned (OpenSpec.ofChange encodeBackWrong)

/-- 'ferrymanlaw11.EncodeRows': WHATEVER THE INPUT: true; the input reads as it did. -/
def encodeRowsSpec : ChangeSpec := { name := "encodeRows", fn := fun _ => fun
  | [d] => { results := [.lit (.bool true)], args := [d] }
  | _ => none }
def encodeRowsRow : OpenClaim := { program := "ytpjmhngcdbpmpaa", sum := "b69ae4827e6bababd485c26ea048b6c2cbfe5e9860ab2d3d37136e171982da9f", func := "ferryman/ferrymanlaw11.EncodeRows", spec := "encodeRows", inPlace := ["internal/bytealg.Compare"], unfollowed := true, recurses := true, apart := false }
def EncodeRowsSaid : Prop := encodeRowsRow.holds Try.pinned (OpenSpec.ofChange encodeRowsSpec)

/-- ITS FALSE NEIGHBOUR: 'it returns false'. Refute it at one input. -/
def encodeRowsWrong : ChangeSpec := { name := "encodeRows", fn := fun _ => fun
  | [d] => { results := [.lit (.bool false)], args := [d] }
  | _ => none }
def EncodeRowsWrongFalsely : Prop := encodeRowsRow.holds Try.pinned (OpenSpec.ofChange encodeRowsWrong)

/-- 'ferrymanlaw11.EncodeShort': WHATEVER THE INPUT: true; the input reads as it did. -/
def encodeShortSpec : ChangeSpec := { name := "encodeShort", fn := fun _ => fun
  | [d1, d2, d3] => { results := [.lit (.bool true)], args := [d1, d2, d3] }
  | _ => none }
def encodeShortRow : OpenClaim := { program := "ytpjmhngcdbpmpaa", sum := "b69ae4827e6bababd485c26ea048b6c2cbfe5e9860ab2d3d37136e171982da9f", func := "ferryman/ferrymanlaw11.EncodeShort", spec := "encodeShort", inPlace := ["internal/bytealg.Compare"], unfollowed := true, recurses := true, apart := false }
def EncodeShortSaid : Prop := encodeShortRow.holds Try.pinned (OpenSpec.ofChange encodeShortSpec)

/-- ITS FALSE NEIGHBOUR: 'it returns false'. Refute it at one input. -/
def encodeShortWrong : ChangeSpec := { name := "encodeShort", fn := fun _ => fun
  | [d1, d2, d3] => { results := [.lit (.bool false)], args := [d1, d2, d3] }
  | _ => none }
def EncodeShortWrongFalsely : Prop := encodeShortRow.holds Try.pinned (OpenSpec.ofChange encodeShortWrong)

/-- 'ferrymanlaw11.EncodePlaces': WHATEVER THE INPUT: true; the input reads as it did. -/
def encodePlacesSpec : ChangeSpec := { name := "encodePlaces", fn := fun _ => fun
  | [d1, d2, d3, d4] => { results := [.lit (.bool true)], args := [d1, d2, d3, d4] }
  | _ => none }
def encodePlacesRow : OpenClaim := { program := "ytpjmhngcdbpmpaa", sum := "b69ae4827e6bababd485c26ea048b6c2cbfe5e9860ab2d3d37136e171982da9f", func := "ferryman/ferrymanlaw11.EncodePlaces", spec := "encodePlaces", inPlace := ["internal/bytealg.Compare"], unfollowed := true, recurses := true, apart := false }
def EncodePlacesSaid : Prop := encodePlacesRow.holds Try.pinned (OpenSpec.ofChange encodePlacesSpec)

/-- ITS FALSE NEIGHBOUR: 'it returns false'. Refute it at one input. -/
def encodePlacesWrong : ChangeSpec := { name := "encodePlaces", fn := fun _ => fun
  | [d1, d2, d3, d4] => { results := [.lit (.bool false)], args := [d1, d2, d3, d4] }
  | _ => none }
def EncodePlacesWrongFalsely : Prop := encodePlacesRow.holds Try.pinned (OpenSpec.ofChange encodePlacesWrong)

/- THE SECOND FORM. 'bulk': how many values and letters a reading holds, each counted each time it is reached (what is shared counts as often as it is met; a slice's spare places count too). A statement '..UptoSaid' is the law's where the arguments, and the package variables that the reading takes, are together of bulk at most 1048576: NARROWER than '..Said'. Prove '..Said' where nothing that the law and all that it calls make is longer than what came in: it says more and counts as full. Else prove '..UptoSaid'. A law counts once. -/
mutual
def uptoBulk {H : Type} : DataW H → Nat
  | .lit (.string bytes) => bytes.length + 1
  | .lit _ => 1
  | .nil => 1
  | .ptr d => uptoBulk d + 1
  | .slice elems spare => uptoBulkAll elems + uptoBulkAll spare + 1
  | .agg parts => uptoBulkAll parts + 1
  | .iface _ d => uptoBulk d + 1
  | .map entries => uptoBulkEntries entries + 1
  | .held _ => 1
def uptoBulkAll {H : Type} : List (DataW H) → Nat
  | [] => 0
  | d :: r => uptoBulk d + uptoBulkAll r
def uptoBulkEntries {H : Type} : List (Lit × DataW H) → Nat
  | [] => 0
  | x :: r => uptoBulkEntry x + uptoBulkEntries r
def uptoBulkEntry {H : Type} : Lit × DataW H → Nat
  | (.string bytes, d) => bytes.length + uptoBulk d + 1
  | (_, d) => uptoBulk d + 1
 end
def uptoSmall : (H : Type) → List (DataW H) → Bool := fun _ ds => decide (uptoBulkAll ds ≤ 1048576)
def OpenSpec.upto (s : _root_.Go.ChangeSpec) : _root_.Go.OpenSpec := { _root_.Go.OpenSpec.ofChange s with cond := some uptoSmall }

/-- 'ferrymanlaw11.EncodeTells', WHERE WHAT IT READS IS OF BULK AT MOST 1048576: true; the input reads as it did. -/
def encodeTellsUptoRow : OpenClaim := { program := "ytpjmhngcdbpmpaa", sum := "b69ae4827e6bababd485c26ea048b6c2cbfe5e9860ab2d3d37136e171982da9f", func := "ferryman/ferrymanlaw11.EncodeTells", spec := "encodeTells", inPlace := ["internal/bytealg.Compare"], unfollowed := true, recurses := true, apart := false, narrowed := true }
def EncodeTellsUptoSaid : Prop := encodeTellsUptoRow.holds Try.pinned (OpenSpec.upto encodeTellsSpec)

/-- 'ferrymanlaw11.EncodeBack', WHERE WHAT IT READS IS OF BULK AT MOST 1048576: true; the input reads as it did. -/
def encodeBackUptoRow : OpenClaim := { program := "ytpjmhngcdbpmpaa", sum := "b69ae4827e6bababd485c26ea048b6c2cbfe5e9860ab2d3d37136e171982da9f", func := "ferryman/ferrymanlaw11.EncodeBack", spec := "encodeBack", inPlace := ["internal/bytealg.Compare"], unfollowed := true, recurses := true, apart := false, narrowed := true }
def EncodeBackUptoSaid : Prop := encodeBackUptoRow.holds Try.pinned (OpenSpec.upto encodeBackSpec)

/-- 'ferrymanlaw11.EncodeRows', WHERE WHAT IT READS IS OF BULK AT MOST 1048576: true; the input reads as it did. -/
def encodeRowsUptoRow : OpenClaim := { program := "ytpjmhngcdbpmpaa", sum := "b69ae4827e6bababd485c26ea048b6c2cbfe5e9860ab2d3d37136e171982da9f", func := "ferryman/ferrymanlaw11.EncodeRows", spec := "encodeRows", inPlace := ["internal/bytealg.Compare"], unfollowed := true, recurses := true, apart := false, narrowed := true }
def EncodeRowsUptoSaid : Prop := encodeRowsUptoRow.holds Try.pinned (OpenSpec.upto encodeRowsSpec)

/-- 'ferrymanlaw11.EncodeShort', WHERE WHAT IT READS IS OF BULK AT MOST 1048576: true; the input reads as it did. -/
def encodeShortUptoRow : OpenClaim := { program := "ytpjmhngcdbpmpaa", sum := "b69ae4827e6bababd485c26ea048b6c2cbfe5e9860ab2d3d37136e171982da9f", func := "ferryman/ferrymanlaw11.EncodeShort", spec := "encodeShort", inPlace := ["internal/bytealg.Compare"], unfollowed := true, recurses := true, apart := false, narrowed := true }
def EncodeShortUptoSaid : Prop := encodeShortUptoRow.holds Try.pinned (OpenSpec.upto encodeShortSpec)

/-- 'ferrymanlaw11.EncodePlaces', WHERE WHAT IT READS IS OF BULK AT MOST 1048576: true; the input reads as it did. -/
def encodePlacesUptoRow : OpenClaim := { program := "ytpjmhngcdbpmpaa", sum := "b69ae4827e6bababd485c26ea048b6c2cbfe5e9860ab2d3d37136e171982da9f", func := "ferryman/ferrymanlaw11.EncodePlaces", spec := "encodePlaces", inPlace := ["internal/bytealg.Compare"], unfollowed := true, recurses := true, apart := false, narrowed := true }
def EncodePlacesUptoSaid : Prop := encodePlacesUptoRow.holds Try.pinned (OpenSpec.upto encodePlacesSpec)

end Rows
end Go.Proofs.Ytpjmhngcdbpmpaa
