/- Part 21 of a checked reader of Go texts in their model form: it runs a function at terms in the place of numbers, and each part proves that its answers hold of the model. -/
import Derived.Test.YtddfbikeaipepaaHy20
namespace Go.Sy
/-- A law, wherever it stands in the table. -/
theorem law_okF [Fs] {P : Program} {cf : Cf} (hcf : CfOk P cf) {fuel : Nat} {c : Pf} {ds : List Df} {t : T} (h : chkPf P cf fuel c ds [t] = true) (hr : c.res = boolR) (hc : c.cnt = 1) (he : t.even = true) (hF : ∀ as : List Arg, Fs.F c.g as = [⟨1, fun _ => 1⟩])
    (hplain : ∀ E : Env, E.F = Fs.F → (∀ d ∈ ds, d.ok E) → t.den E = 1) : IsFn P c.g ∧ ∀ {E : Env}, E.F = Fs.F → ∀ {ρ : Nat → Rb} {N : Nat} {args : Array Value}, pcOk E c.pre → F2 (Ar E ρ N) c.args args → ∀ w : World,
    Calls P c.g args w fun e w' => e = .returned (.bool true) ∧ RowKit.Below w.heap.size w w' := by
  obtain ⟨pc, hrun, hb⟩ := chkPf_ok h
  have hok : PfOk P c := pf_ok hcf hrun hb fun E hE _ hd => by
    rw [hF]
    have h1 := hplain E hE hd
    simp only [List.map_cons, List.map_nil, T.me, h1]
    congr 2
    funext j
    rw [T.even_row he, h1]
  obtain ⟨h1, h2⟩ := hok
  refine ⟨h1, fun {E} hE {ρ N args} hpre ha w => ?_⟩
  obtain ⟨v, h3, h4⟩ := h2 E ρ N args hE hpre ha
  have h5 := h3 ρ N
  rw [hr] at h5
  simp only [boolR, Lr, Ar, Cr] at h5
  have : v = .bool true := by
    rw [h5]
    congr 1
    simp only [T.tr, T.den, resE, hc, Nat.lt_one_iff, if_pos, hE, hF]
    rfl
  rw [this] at h4
  exact h4 w
/-- A law without arguments, as a card that tells 'true'. -/
theorem true_ok [Fs] {P : Program} {g : Nat} (h1 : IsFn P g) (h2 : ∀ w : World, Calls P g #[] w fun e w' => e = .returned (.bool true) ∧ RowKit.Below w.heap.size w w') : PfOk P (constPf g (.c (.bool (.lit 1)))) := by
  refine ⟨h1, fun E ρ N args _ _ ha => ⟨.bool true, fun _ _ => rfl, fun w => ?_⟩⟩
  obtain rfl : args = #[] := by
    have := ha.1
    exact Array.eq_empty_of_size_eq_zero (by simpa [constPf] using this)
  exact h2 w
/-- Letters' meanings, worked out from the first ones. -/
theorem den_ext [Fs] {ds : List Df} {n h : Nat} {t : T} (hc : contig n ds = some h) (hb : t.bel h = true) {E E0 : Env} (hF : E.F = E0.F) (hx : ∀ i, i < n → E.x i = E0.x i) (hd : ∀ d ∈ ds, d.ok E) : t.den E = t.den (extL E0 ds) := by
  have ag := contig_ok hF hx hc hd
  have := T.bel_me ag hb
  exact congrArg Arg.n this
end Go.Sy
