/- Part 31 of a checked reader of Go texts in their model form: it runs a function at terms in the place of numbers, and each part proves that its answers hold of the model. -/
import Derived.Test.YtpjmhngcdbpmpaaLy29
namespace Go.Sy
/-- A law over memory. -/
theorem law_okM [Fs] {P : Program} {cf : Cf} (hcf : CfOk P cf) {fuel : Nat} {c : Mf} {ds : List Df} {t : T} (h : chkMf P cf fuel c ds [t] = true) {lo hi : Int} (hr : c.res = .a (.c (.bool (.v c.n lo hi)))) (hlo : lo ≤ 1) (hhi : 1 ≤ hi) (hc : c.cnt = 1) (he : t.even = true) (hF : ∀ as : List Arg, Fs.F c.id as = [⟨1, fun _ => 1⟩])
    (hplain : ∀ E : Env, E.F = Fs.F → (∀ d ∈ ds, d.ok E) → t.den E = 1) : IsFn P c.g ∧ ∀ (E : Env) (ρ : Nat → Rb) (args : Array Value) (w : World), E.F = Fs.F → pcOk E c.pre → F2 (Ar E ρ c.blks.length) c.args args → InB E ρ c.blks w →
    Calls P c.g args w fun e w' => e = .returned (.bool true) ∧ RowKit.Below w.heap.size w w' := by
  obtain ⟨pc, hrun⟩ := chkMf_ok h
  have hok : MfOk P c := mf_ok hcf hrun fun E hE _ hd => by
    rw [hF]
    have h1 := hplain E hE hd
    simp only [List.map_cons, List.map_nil, T.me, h1]
    congr 2
    funext j
    rw [T.even_row he, h1]
  obtain ⟨h1, h2⟩ := hok
  refine ⟨h1, fun E ρ args w hE hpre ha hb => ?_⟩
  refine Calls.mono (h2 E ρ args w hE hpre ha hb) fun e w' q => ?_
  obtain ⟨v, ρ', q1, q2, q3, _, _⟩ := q
  rw [hr] at q3
  simp only [Lr, Ar, Cr] at q3
  refine ⟨?_, q2⟩
  rw [q1, q3]
  congr 2
  simp only [T.tr, T.den, resX, hc, hF]
  rw [if_neg (by omega), if_pos (by omega), Nat.sub_self]
  simp only [List.getElem?_cons_zero, Option.getD_some]
  rw [clamp_id ⟨hlo, hhi⟩]; rfl
end Go.Sy
