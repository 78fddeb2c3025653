/-
  No cell of these rows narrows 'for every input' (looked for: loops, veiled, ifaces, maps, wideKeys, modest, calm, conditions, laid).
  DERIVED. THE GIVEN ROWS OF THIS SEAT. 9 by the template 'for every input the law returns true; each argument reads behind the call as it read before'; 0 by the template 'total and deterministic' (their statements: YtkgdmbnihdakiaaGreatTotals.lean).
  GIVEN WITH THE SEED: the statements are not yours to turn. If you find one false, say at which input.
  Laid BY PROGRAM, IN A SANDBOX (cutbox-rows.mjs): the forced cells as the released guide's own fill.sh prints them over the translation 959fe634a4f3d16d… (all of the seat's roots in one cut). By AI agents, Wed Nov 11 2026. No macro, syntax, notation, axiom, sorry.
-/
import Derived.Test.YtkgdmbnihdakiaaGreatChecked
import GoSem.Claim
import GoSem.ClaimJoined
import GoSem.ClaimMapViews
import Derived.JoinedTies
import Derived.KernelRfl
namespace Go.Proofs.YtkgdmbnihdakiaaGreat
/- THE CELL 'sum', in the pinned program and in every row, IS THE sha256 OF THE DUMP (.gsa) THAT YtkgdmbnihdakiaaGreatProg.lean LOADS. Nothing in Lean hashes anything: it is a label: what it is worth is what the hold of that sum in a sandbox is worth. -/
noncomputable def Tryz.pinned : Pinned := { name := "ytkgdmbnihdakiaagreat", sum := "959fe634a4f3d16d0bae9c53f04ca304eb90abe824c734262498f060dd153f4e", checked := Tryz.checked }
namespace Rows
def none {H : Type} : Left H := { results := [], args := [] }

/-- 'ferrymanlaw23.CacheDrops': WHATEVER THE INPUT: true; the input reads as it did. -/
def cacheDropsSpec : ChangeSpec := { name := "cacheDrops", fn := fun _ => fun
  | [d1, d2, d3] => { results := [.lit (.bool true)], args := [d1, d2, d3] }
  | _ => none }
def cacheDropsRow : OpenClaim := { program := "ytkgdmbnihdakiaagreat", sum := "959fe634a4f3d16d0bae9c53f04ca304eb90abe824c734262498f060dd153f4e", func := "ferryman/ferrymanlaw23.CacheDrops", spec := "cacheDrops", unfollowed := true, recurses := true, plainKeys := false, apart := false }
def CacheDropsSaid : Prop := cacheDropsRow.holds Tryz.pinned (OpenSpec.ofChange cacheDropsSpec)

/-- ITS FALSE NEIGHBOUR: 'it returns false'. Refute it at one input. -/
def cacheDropsWrong : ChangeSpec := { name := "cacheDrops", fn := fun _ => fun
  | [d1, d2, d3] => { results := [.lit (.bool false)], args := [d1, d2, d3] }
  | _ => none }
def CacheDropsWrongFalsely : Prop := cacheDropsRow.holds Tryz.pinned (OpenSpec.ofChange cacheDropsWrong)

/-- 'ferrymanlaw24.ChainOrders': WHATEVER THE INPUT: true; the input reads as it did. -/
def chainOrdersSpec : ChangeSpec := { name := "chainOrders", fn := fun _ => fun
  | [d1, d2, d3] => { results := [.lit (.bool true)], args := [d1, d2, d3] }
  | _ => none }
def chainOrdersRow : OpenClaim := { program := "ytkgdmbnihdakiaagreat", sum := "959fe634a4f3d16d0bae9c53f04ca304eb90abe824c734262498f060dd153f4e", func := "ferryman/ferrymanlaw24.ChainOrders", spec := "chainOrders", unfollowed := true, recurses := true, plainKeys := false, apart := false }
def ChainOrdersSaid : Prop := chainOrdersRow.holds Tryz.pinned (OpenSpec.ofChange chainOrdersSpec)

/-- ITS FALSE NEIGHBOUR: 'it returns false'. Refute it at one input. -/
def chainOrdersWrong : ChangeSpec := { name := "chainOrders", fn := fun _ => fun
  | [d1, d2, d3] => { results := [.lit (.bool false)], args := [d1, d2, d3] }
  | _ => none }
def ChainOrdersWrongFalsely : Prop := chainOrdersRow.holds Tryz.pinned (OpenSpec.ofChange chainOrdersWrong)

/-- 'ferrymanlaw23.CacheFull': WHATEVER THE INPUT: true; the input reads as it did. -/
def cacheFullSpec : ChangeSpec := { name := "cacheFull", fn := fun _ => fun
  | [d1, d2] => { results := [.lit (.bool true)], args := [d1, d2] }
  | _ => none }
def cacheFullRow : OpenClaim := { program := "ytkgdmbnihdakiaagreat", sum := "959fe634a4f3d16d0bae9c53f04ca304eb90abe824c734262498f060dd153f4e", func := "ferryman/ferrymanlaw23.CacheFull", spec := "cacheFull", unfollowed := true, recurses := true, plainKeys := false, apart := false }
def CacheFullSaid : Prop := cacheFullRow.holds Tryz.pinned (OpenSpec.ofChange cacheFullSpec)

/-- ITS FALSE NEIGHBOUR: 'it returns false'. Refute it at one input. -/
def cacheFullWrong : ChangeSpec := { name := "cacheFull", fn := fun _ => fun
  | [d1, d2] => { results := [.lit (.bool false)], args := [d1, d2] }
  | _ => none }
def CacheFullWrongFalsely : Prop := cacheFullRow.holds Tryz.pinned (OpenSpec.ofChange cacheFullWrong)

/-- 'ferrymanlaw22.RestateMiddle': WHATEVER THE INPUT: true; the input reads as it did. -/
def restateMiddleSpec : ChangeSpec := { name := "restateMiddle", fn := fun _ => fun
  | [d1, d2, d3] => { results := [.lit (.bool true)], args := [d1, d2, d3] }
  | _ => none }
def restateMiddleRow : OpenClaim := { program := "ytkgdmbnihdakiaagreat", sum := "959fe634a4f3d16d0bae9c53f04ca304eb90abe824c734262498f060dd153f4e", func := "ferryman/ferrymanlaw22.RestateMiddle", spec := "restateMiddle", inPlace := ["math.Float64frombits", "math.Float64bits"], unfollowed := true, recurses := true, plainKeys := false, apart := false }
def RestateMiddleSaid : Prop := restateMiddleRow.holds Tryz.pinned (OpenSpec.ofChange restateMiddleSpec)

/-- ITS FALSE NEIGHBOUR: 'it returns false'. Refute it at one input. -/
def restateMiddleWrong : ChangeSpec := { name := "restateMiddle", fn := fun _ => fun
  | [d1, d2, d3] => { results := [.lit (.bool false)], args := [d1, d2, d3] }
  | _ => none }
def RestateMiddleWrongFalsely : Prop := restateMiddleRow.holds Tryz.pinned (OpenSpec.ofChange restateMiddleWrong)

/-- 'ferrymanlaw22.RestateDivides': WHATEVER THE INPUT: true; the input reads as it did. -/
def restateDividesSpec : ChangeSpec := { name := "restateDivides", fn := fun _ => fun
  | [d1, d2, d3] => { results := [.lit (.bool true)], args := [d1, d2, d3] }
  | _ => none }
def restateDividesRow : OpenClaim := { program := "ytkgdmbnihdakiaagreat", sum := "959fe634a4f3d16d0bae9c53f04ca304eb90abe824c734262498f060dd153f4e", func := "ferryman/ferrymanlaw22.RestateDivides", spec := "restateDivides", inPlace := ["math.Float64frombits", "math.Float64bits"], unfollowed := true, recurses := true, plainKeys := false, apart := false }
def RestateDividesSaid : Prop := restateDividesRow.holds Tryz.pinned (OpenSpec.ofChange restateDividesSpec)

/-- ITS FALSE NEIGHBOUR: 'it returns false'. Refute it at one input. -/
def restateDividesWrong : ChangeSpec := { name := "restateDivides", fn := fun _ => fun
  | [d1, d2, d3] => { results := [.lit (.bool false)], args := [d1, d2, d3] }
  | _ => none }
def RestateDividesWrongFalsely : Prop := restateDividesRow.holds Tryz.pinned (OpenSpec.ofChange restateDividesWrong)

/-- 'ferrymanlaw21.EmitAdds': WHATEVER THE INPUT: true; the input reads as it did. -/
def emitAddsSpec : ChangeSpec := { name := "emitAdds", fn := fun _ => fun
  | [d1, d2, d3] => { results := [.lit (.bool true)], args := [d1, d2, d3] }
  | _ => none }
def emitAddsRow : OpenClaim := { program := "ytkgdmbnihdakiaagreat", sum := "959fe634a4f3d16d0bae9c53f04ca304eb90abe824c734262498f060dd153f4e", func := "ferryman/ferrymanlaw21.EmitAdds", spec := "emitAdds", inPlace := ["math.Float64frombits", "math.Float64bits"], unfollowed := true, recurses := true, plainKeys := false, apart := false }
def EmitAddsSaid : Prop := emitAddsRow.holds Tryz.pinned (OpenSpec.ofChange emitAddsSpec)

/-- ITS FALSE NEIGHBOUR: 'it returns false'. Refute it at one input. -/
def emitAddsWrong : ChangeSpec := { name := "emitAdds", fn := fun _ => fun
  | [d1, d2, d3] => { results := [.lit (.bool false)], args := [d1, d2, d3] }
  | _ => none }
def EmitAddsWrongFalsely : Prop := emitAddsRow.holds Tryz.pinned (OpenSpec.ofChange emitAddsWrong)

/-- 'ferrymanlaw21.EmitPatched': WHATEVER THE INPUT: true; the input reads as it did. -/
def emitPatchedSpec : ChangeSpec := { name := "emitPatched", fn := fun _ => fun
  | [d1, d2, d3] => { results := [.lit (.bool true)], args := [d1, d2, d3] }
  | _ => none }
def emitPatchedRow : OpenClaim := { program := "ytkgdmbnihdakiaagreat", sum := "959fe634a4f3d16d0bae9c53f04ca304eb90abe824c734262498f060dd153f4e", func := "ferryman/ferrymanlaw21.EmitPatched", spec := "emitPatched", inPlace := ["math.Float64frombits", "math.Float64bits"], unfollowed := true, recurses := true, plainKeys := false, apart := false }
def EmitPatchedSaid : Prop := emitPatchedRow.holds Tryz.pinned (OpenSpec.ofChange emitPatchedSpec)

/-- ITS FALSE NEIGHBOUR: 'it returns false'. Refute it at one input. -/
def emitPatchedWrong : ChangeSpec := { name := "emitPatched", fn := fun _ => fun
  | [d1, d2, d3] => { results := [.lit (.bool false)], args := [d1, d2, d3] }
  | _ => none }
def EmitPatchedWrongFalsely : Prop := emitPatchedRow.holds Tryz.pinned (OpenSpec.ofChange emitPatchedWrong)

/-- 'ferrymanlaw21.EmitExits': WHATEVER THE INPUT: true; the input reads as it did. -/
def emitExitsSpec : ChangeSpec := { name := "emitExits", fn := fun _ => fun
  | [d1, d2, d3] => { results := [.lit (.bool true)], args := [d1, d2, d3] }
  | _ => none }
def emitExitsRow : OpenClaim := { program := "ytkgdmbnihdakiaagreat", sum := "959fe634a4f3d16d0bae9c53f04ca304eb90abe824c734262498f060dd153f4e", func := "ferryman/ferrymanlaw21.EmitExits", spec := "emitExits", inPlace := ["math.Float64frombits", "math.Float64bits"], unfollowed := true, recurses := true, plainKeys := false, apart := false }
def EmitExitsSaid : Prop := emitExitsRow.holds Tryz.pinned (OpenSpec.ofChange emitExitsSpec)

/-- ITS FALSE NEIGHBOUR: 'it returns false'. Refute it at one input. -/
def emitExitsWrong : ChangeSpec := { name := "emitExits", fn := fun _ => fun
  | [d1, d2, d3] => { results := [.lit (.bool false)], args := [d1, d2, d3] }
  | _ => none }
def EmitExitsWrongFalsely : Prop := emitExitsRow.holds Tryz.pinned (OpenSpec.ofChange emitExitsWrong)

/-- 'ferrymanlaw24.ChainRuns': WHATEVER THE INPUT: true; the input reads as it did. -/
def chainRunsSpec : ChangeSpec := { name := "chainRuns", fn := fun _ => fun
  | [d1, d2, d3] => { results := [.lit (.bool true)], args := [d1, d2, d3] }
  | _ => none }
def chainRunsRow : OpenClaim := { program := "ytkgdmbnihdakiaagreat", sum := "959fe634a4f3d16d0bae9c53f04ca304eb90abe824c734262498f060dd153f4e", func := "ferryman/ferrymanlaw24.ChainRuns", spec := "chainRuns", unfollowed := true, recurses := true, plainKeys := false, apart := false }
def ChainRunsSaid : Prop := chainRunsRow.holds Tryz.pinned (OpenSpec.ofChange chainRunsSpec)

/-- ITS FALSE NEIGHBOUR: 'it returns false'. Refute it at one input. -/
def chainRunsWrong : ChangeSpec := { name := "chainRuns", fn := fun _ => fun
  | [d1, d2, d3] => { results := [.lit (.bool false)], args := [d1, d2, d3] }
  | _ => none }
def ChainRunsWrongFalsely : Prop := chainRunsRow.holds Tryz.pinned (OpenSpec.ofChange chainRunsWrong)

/- THE SECOND FORM. 'bulk': how many values and letters a reading holds, each counted each time it is reached (what is shared counts as often as it is met; a slice's spare places count too). A statement '..UptoSaid' is the law's where the arguments, and the package variables that the reading takes, are together of bulk at most 1048576: NARROWER than '..Said'. Prove '..Said' where nothing that the law and all that it calls make is longer than what came in: it says more and counts as full. Else prove '..UptoSaid'. A law counts once. -/
mutual
def uptoBulk {H : Type} : DataW H → Nat
  | .lit (.string bytes) => bytes.length + 1
  | .lit _ => 1
  | .nil => 1
  | .ptr d => uptoBulk d + 1
  | .slice elems spare => uptoBulkAll elems + uptoBulkAll spare + 1
  | .agg parts => uptoBulkAll parts + 1
  | .iface _ d => uptoBulk d + 1
  | .map entries => uptoBulkEntries entries + 1
  | .held _ => 1
def uptoBulkAll {H : Type} : List (DataW H) → Nat
  | [] => 0
  | d :: r => uptoBulk d + uptoBulkAll r
def uptoBulkEntries {H : Type} : List (Lit × DataW H) → Nat
  | [] => 0
  | x :: r => uptoBulkEntry x + uptoBulkEntries r
def uptoBulkEntry {H : Type} : Lit × DataW H → Nat
  | (.string bytes, d) => bytes.length + uptoBulk d + 1
  | (_, d) => uptoBulk d + 1
 end
def uptoSmall : (H : Type) → List (DataW H) → Bool := fun _ ds => decide (uptoBulkAll ds ≤ 1048576)
def OpenSpec.upto (s : _root_.Go.ChangeSpec) : _root_.Go.OpenSpec := { _root_.Go.OpenSpec.ofChange s with cond := some uptoSmall }

/-- 'ferrymanlaw23.CacheDrops', WHERE WHAT IT READS IS OF BULK AT MOST 1048576: true; the input reads as it did. -/
def cacheDropsUptoRow : OpenClaim := { program := "ytkgdmbnihdakiaagreat", sum := "959fe634a4f3d16d0bae9c53f04ca304eb90abe824c734262498f060dd153f4e", func := "ferryman/ferrymanlaw23.CacheDrops", spec := "cacheDrops", unfollowed := true, recurses := true, plainKeys := false, apart := false, narrowed := true }
def CacheDropsUptoSaid : Prop := cacheDropsUptoRow.holds Tryz.pinned (OpenSpec.upto cacheDropsSpec)

/-- 'ferrymanlaw24.ChainOrders', WHERE WHAT IT READS IS OF BULK AT MOST 1048576: true; the input reads as it did. -/
def chainOrdersUptoRow : OpenClaim := { program := "ytkgdmbnihdakiaagreat", sum := "959fe634a4f3d16d0bae9c53f04ca304eb90abe824c734262498f060dd153f4e", func := "ferryman/ferrymanlaw24.ChainOrders", spec := "chainOrders", unfollowed := true, recurses := true, plainKeys := false, apart := false, narrowed := true }
def ChainOrdersUptoSaid : Prop := chainOrdersUptoRow.holds Tryz.pinned (OpenSpec.upto chainOrdersSpec)

/-- 'ferrymanlaw23.CacheFull', WHERE WHAT IT READS IS OF BULK AT MOST 1048576: true; the input reads as it did. -/
def cacheFullUptoRow : OpenClaim := { program := "ytkgdmbnihdakiaagreat", sum := "959fe634a4f3d16d0bae9c53f04ca304eb90abe824c734262498f060dd153f4e", func := "ferryman/ferrymanlaw23.CacheFull", spec := "cacheFull", unfollowed := true, recurses := true, plainKeys := false, apart := false, narrowed := true }
def CacheFullUptoSaid : Prop := cacheFullUptoRow.holds Tryz.pinned (OpenSpec.upto cacheFullSpec)

/-- 'ferrymanlaw22.RestateMiddle', WHERE WHAT IT READS IS OF BULK AT MOST 1048576: true; the input reads as it did. -/
def restateMiddleUptoRow : OpenClaim := { program := "ytkgdmbnihdakiaagreat", sum := "959fe634a4f3d16d0bae9c53f04ca304eb90abe824c734262498f060dd153f4e", func := "ferryman/ferrymanlaw22.RestateMiddle", spec := "restateMiddle", inPlace := ["math.Float64frombits", "math.Float64bits"], unfollowed := true, recurses := true, plainKeys := false, apart := false, narrowed := true }
def RestateMiddleUptoSaid : Prop := restateMiddleUptoRow.holds Tryz.pinned (OpenSpec.upto restateMiddleSpec)

/-- 'ferrymanlaw22.RestateDivides', WHERE WHAT IT READS IS OF BULK AT MOST 1048576: true; the input reads as it did. -/
def restateDividesUptoRow : OpenClaim := { program := "ytkgdmbnihdakiaagreat", sum := "959fe634a4f3d16d0bae9c53f04ca304eb90abe824c734262498f060dd153f4e", func := "ferryman/ferrymanlaw22.RestateDivides", spec := "restateDivides", inPlace := ["math.Float64frombits", "math.Float64bits"], unfollowed := true, recurses := true, plainKeys := false, apart := false, narrowed := true }
def RestateDividesUptoSaid : Prop := restateDividesUptoRow.holds Tryz.pinned (OpenSpec.upto restateDividesSpec)

/-- 'ferrymanlaw21.EmitAdds', WHERE WHAT IT READS IS OF BULK AT MOST 1048576: true; the input reads as it did. -/
def emitAddsUptoRow : OpenClaim := { program := "ytkgdmbnihdakiaagreat", sum := "959fe634a4f3d16d0bae9c53f04ca304eb90abe824c734262498f060dd153f4e", func := "ferryman/ferrymanlaw21.EmitAdds", spec := "emitAdds", inPlace := ["math.Float64frombits", "math.Float64bits"], unfollowed := true, recurses := true, plainKeys := false, apart := false, narrowed := true }
def EmitAddsUptoSaid : Prop := emitAddsUptoRow.holds Tryz.pinned (OpenSpec.upto emitAddsSpec)

/-- 'ferrymanlaw21.EmitPatched', WHERE WHAT IT READS IS OF BULK AT MOST 1048576: true; the input reads as it did. -/
def emitPatchedUptoRow : OpenClaim := { program := "ytkgdmbnihdakiaagreat", sum := "959fe634a4f3d16d0bae9c53f04ca304eb90abe824c734262498f060dd153f4e", func := "ferryman/ferrymanlaw21.EmitPatched", spec := "emitPatched", inPlace := ["math.Float64frombits", "math.Float64bits"], unfollowed := true, recurses := true, plainKeys := false, apart := false, narrowed := true }
def EmitPatchedUptoSaid : Prop := emitPatchedUptoRow.holds Tryz.pinned (OpenSpec.upto emitPatchedSpec)

/-- 'ferrymanlaw21.EmitExits', WHERE WHAT IT READS IS OF BULK AT MOST 1048576: true; the input reads as it did. -/
def emitExitsUptoRow : OpenClaim := { program := "ytkgdmbnihdakiaagreat", sum := "959fe634a4f3d16d0bae9c53f04ca304eb90abe824c734262498f060dd153f4e", func := "ferryman/ferrymanlaw21.EmitExits", spec := "emitExits", inPlace := ["math.Float64frombits", "math.Float64bits"], unfollowed := true, recurses := true, plainKeys := false, apart := false, narrowed := true }
def EmitExitsUptoSaid : Prop := emitExitsUptoRow.holds Tryz.pinned (OpenSpec.upto emitExitsSpec)

/-- 'ferrymanlaw24.ChainRuns', WHERE WHAT IT READS IS OF BULK AT MOST 1048576: true; the input reads as it did. -/
def chainRunsUptoRow : OpenClaim := { program := "ytkgdmbnihdakiaagreat", sum := "959fe634a4f3d16d0bae9c53f04ca304eb90abe824c734262498f060dd153f4e", func := "ferryman/ferrymanlaw24.ChainRuns", spec := "chainRuns", unfollowed := true, recurses := true, plainKeys := false, apart := false, narrowed := true }
def ChainRunsUptoSaid : Prop := chainRunsUptoRow.holds Tryz.pinned (OpenSpec.upto chainRunsSpec)

end Rows
end Go.Proofs.YtkgdmbnihdakiaaGreat
