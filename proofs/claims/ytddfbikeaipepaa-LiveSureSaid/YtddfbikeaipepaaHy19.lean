/- Part 19 of a checked reader of Go texts in their model form: it runs a function at terms in the place of numbers, and each part proves that its answers hold of the model. -/
import Derived.Test.YtddfbikeaipepaaHy18
namespace Go.Sy
/-- Does a run tell this? -/
def chkPf (P : Program) (cf : Cf) (fuel : Nat) (c : Pf) (ds : List Df) (ls : List T) : Bool := match runPf P cf fuel c with
  | some t => c.args.all (·.blk 0) && listB Df.beq t.ds ds && listB T.beq t.ls ls
  | none => false
theorem chkPf_ok [Fs] {P : Program} {cf : Cf} {fuel : Nat} {c : Pf} {ds : List Df} {ls : List T} (h : chkPf P cf fuel c ds ls = true) : ∃ pc, runPf P cf fuel c = some ⟨pc, ds, ls⟩ ∧ c.args.all (·.blk 0) = true := by
  unfold chkPf at h
  split at h
  · rename_i t ht
    simp only [Bool.and_eq_true] at h
    obtain ⟨⟨h0, h1⟩, h2⟩ := h
    obtain ⟨pc, ds', ls'⟩ := t
    have e1 := listB_eq (fun _ _ => Df.beq_eq) h1
    have e2 := listB_eq (fun _ _ => T.beq_eq) h2
    simp only at e1 e2
    subst e1 e2
    exact ⟨pc, ht, h0⟩
  · cases h
theorem card_ok [Fs] {P : Program} {cf : Cf} (hcf : CfOk P cf) {fuel : Nat} {c : Pf} {ds : List Df} {ls : List T} (h : chkPf P cf fuel c ds ls = true) (l1 l2 : List Fk) (hT : Fs.F = mkF (l1 ++ ⟨c.g, c.n, ds, ls⟩ :: l2)) (ho : okF (l1 ++ ⟨c.g, c.n, ds, ls⟩ :: l2) = true) : PfOk P c := by
  obtain ⟨pc, hr, hb⟩ := chkPf_ok h
  refine pf_ok hcf hr hb fun E hE _ hd => ?_
  have := spec_ok (c := ⟨c.g, c.n, ds, ls⟩) ho (E := E) (hE.trans hT) hd
  rw [← hT] at this
  exact this
/-- A term whose row is its number all along. -/
def T.even : T → Bool
  | .lit _ | .bin _ _ _ | .eqr _ _ _ => true
  | .un .not _ => true
  | .un (.wrap _) _ => true
  | _ => false
theorem T.even_row [Fs] {t : T} (h : t.even = true) (E : Env) (j : Int) : t.row E j = t.den E := by
  unfold T.even at h
  split at h <;> first | rfl | cases h
def boolR : L := .a (.c (.bool (.v 0 0 1)))
/-- A law: its one result is true by the plain law. -/
def lawF (g n : Nat) : Fk := ⟨g, n, [], [.lit 1]⟩
theorem law_ok [Fs] {P : Program} {cf : Cf} (hcf : CfOk P cf) {fuel : Nat} {c : Pf} {ds : List Df} {t : T} (h : chkPf P cf fuel c ds [t] = true) (hr : c.res = boolR) (hc : c.cnt = 1) (he : t.even = true) (l2 : List Fk) (hT : Fs.F = mkF (lawF c.g c.n :: l2))
    (hplain : ∀ E : Env, E.F = Fs.F → (∀ d ∈ ds, d.ok E) → t.den E = 1) {E : Env} (hE : E.F = Fs.F) {ρ : Nat → Rb} {N : Nat} {args : Array Value} (hpre : pcOk E c.pre) (ha : F2 (Ar E ρ N) c.args args) (w : World) :
    Calls P c.g args w fun e w' => e = .returned (.bool true) ∧ RowKit.Below w.heap.size w w' := by
  obtain ⟨pc, hrun, hb⟩ := chkPf_ok h
  have hF : ∀ as : List Arg, Fs.F c.g as = [⟨1, fun _ => 1⟩] := fun as => by
    rw [hT]
    have : Nat.beq c.g (lawF c.g c.n).g = true := Nat.beq_refl _
    simp only [mkF, this, cond_true]
    rfl
  have hok : PfOk P c := pf_ok hcf hrun hb fun E hE _ hd => by
    rw [hF]
    have h1 := hplain E hE hd
    simp only [List.map_cons, List.map_nil, T.me, h1]
    congr 2
    funext j
    rw [T.even_row he, h1]
  obtain ⟨-, h2⟩ := hok
  obtain ⟨v, h3, h4⟩ := h2 E ρ N args hE hpre ha
  have h5 := h3 ρ N
  rw [hr] at h5
  simp only [boolR, Lr, Ar, Cr] at h5
  have : v = .bool true := by
    rw [h5]
    congr 1
    simp only [T.tr, T.den, resE, hc, Nat.lt_one_iff, if_pos, hE, hF]
    rfl
  rw [this] at h4
  exact h4 w
end Go.Sy
