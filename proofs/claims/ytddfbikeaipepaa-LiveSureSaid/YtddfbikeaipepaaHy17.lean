/- Part 17 of a checked reader of Go texts in their model form: it runs a function at terms in the place of numbers, and each part proves that its answers hold of the model. -/
import Derived.Test.YtddfbikeaipepaaHy16
namespace Go.Sy
/-- Letters for cells of these kinds, from 'i' on. -/
def symK : Nat → List K → List C
  | _, [] => []
  | i, .i k :: ks => .int k (.v i (kmin k) (kmax k)) :: symK (i + 1) ks
  | i, .b :: ks => .bool (.v i 0 1) :: symK (i + 1) ks
def noSm : Nat → St → List A → Option SmR := fun _ _ _ => none
def noLp : Nat → Code → St → (Code → St → Option (List Out)) → Option (List Out) := fun _ _ _ _ => none
theorem noSm_ok [Fs] {P : Program} : SmOk P noSm := fun _ _ _ _ h => nomatch h
theorem noLp_ok [Fs] {P : Program} : LpOk P noLp := fun _ _ _ _ _ _ h => nomatch h
/-- A run's surroundings: cards of functions that only reckon; everything made one. -/
def cfP (l : List Pf) : Cf := ⟨noSm, spOf l, fun _ => true, noLp⟩
theorem cfP_ok [Fs] {P : Program} {l : List Pf} (h : AllP P l) : CfOk P (cfP l) := ⟨noSm_ok, spOf_ok h, noLp_ok⟩
/-- A function without arguments, told by what it answers. -/
def constPf (g : Nat) (y : A) : Pf := ⟨g, 0, [], [], .a y, 0⟩
def runConst (P : Program) (cf : Cf) (fuel g : Nat) : Option A := match outsP P cf fuel ⟨g, 0, [], [], .a .dead, 0⟩ with
  | some (fn, [.good .norm st]) => match resL P st fn.results.toList with
    | some (.a y) => some y
    | _ => none
  | _ => none
theorem const_ok [Fs] {P : Program} {cf : Cf} (hcf : CfOk P cf) {fuel g : Nat} {y : A} {pc : Pc} {ds : List Df} (h : runPf P cf fuel (constPf g y) = some ⟨pc, ds, []⟩) (hF : Fs.F g [] = []) : PfOk P (constPf g y) :=
  pf_ok hcf h rfl fun _ _ _ _ => hF
end Go.Sy
