/- Part 24 of a checked reader of Go texts in their model form: it runs a function at terms in the place of numbers, and each part proves that its answers hold of the model. -/
import Derived.Test.YtddfbikeaipepaaHy23
namespace Go.Sy
/-- Does a run tell this? -/
def chkMf (P : Program) (cf : Cf) (fuel : Nat) (c : Mf) (ds : List Df) (ls : List T) : Bool := match runMf P cf fuel c with
  | some t => listB Df.beq t.ds ds && listB T.beq t.ls ls
  | none => false
theorem chkMf_ok [Fs] {P : Program} {cf : Cf} {fuel : Nat} {c : Mf} {ds : List Df} {ls : List T} (h : chkMf P cf fuel c ds ls = true) : ∃ pc, runMf P cf fuel c = some ⟨pc, ds, ls⟩ := by
  unfold chkMf at h
  split at h
  · rename_i t ht
    simp only [Bool.and_eq_true] at h
    obtain ⟨h1, h2⟩ := h
    obtain ⟨pc, ds', ls'⟩ := t
    have e1 := listB_eq (fun _ _ => Df.beq_eq) h1
    have e2 := listB_eq (fun _ _ => T.beq_eq) h2
    simp only at e1 e2
    subst e1 e2
    exact ⟨pc, ht⟩
  · cases h
theorem cardM_ok [Fs] {P : Program} {cf : Cf} (hcf : CfOk P cf) {fuel : Nat} {c : Mf} {ds : List Df} {ls : List T} (h : chkMf P cf fuel c ds ls = true) (l1 l2 : List Fk) (hT : Fs.F = mkF (l1 ++ ⟨c.id, c.n, ds, ls⟩ :: l2)) (ho : okF (l1 ++ ⟨c.id, c.n, ds, ls⟩ :: l2) = true) : MfOk P c := by
  obtain ⟨pc, hr⟩ := chkMf_ok h
  refine mf_ok hcf hr fun E hE _ hd => ?_
  have := spec_ok (c := ⟨c.id, c.n, ds, ls⟩) ho (E := E) (hE.trans hT) hd
  rw [← hT] at this
  exact this
end Go.Sy
