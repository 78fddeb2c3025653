/- Part 17 of a checked reader of Go texts in their model form: it runs a function at terms in the place of numbers, and each part proves that its answers hold of the model. -/
import Derived.Test.YtddfbikeaipepaaSy16
namespace Go.Sy
def C.pure : C → Bool
  | .int _ _ | .bool _ | .nilp | .nils | .fn _ | .raw _ => true
  | _ => false
def A.pure : A → Bool
  | .c x => x.pure
  | .agg xs => xs.all C.pure
  | .dead => false
theorem Cr_pure {E : Env} {ρ ρ' : Nat → Nat} {n n' : Nat} {x : C} {v : Value} (h : x.pure = true) (hr : Cr E ρ n x v) : Cr E ρ' n' x v := by
  cases x <;> first | exact hr | cases h
theorem Ar_pure {E : Env} {ρ ρ' : Nat → Nat} {n n' : Nat} {x : A} {v : Value} (h : x.pure = true) (hr : Ar E ρ n x v) : Ar E ρ' n' x v := by
  cases x with
  | c x => exact Cr_pure h hr
  | agg xs =>
    obtain ⟨cs, h1, h2⟩ := hr
    refine ⟨cs, h1, h2.1, fun i x hx => ?_⟩
    obtain ⟨v, hv, hr⟩ := h2.2 i x hx
    exact ⟨v, hv, Cr_pure (List.all_eq_true.1 h x (List.mem_of_getElem? hx)) hr⟩
  | dead => cases h
/-- The first state of a call, without blocks. -/
theorem rel0 {E : Env} {xs : List A} {args : Array Value} {pc : Pc} {k : Nat} {w : World} (hargs : F2 (Ar E (fun _ => 0) 0) xs args) (hpc : pcOk E pc) :
    Rel ⟨E, 0, fun _ => 0, w⟩ (fun _ => 0) ⟨ini (xs.map L.a) k, [], pc⟩ { tmps := args ++ Array.replicate (k - args.size) undef, defers := [] } w := by
  refine ⟨⟨?_, hpc⟩, rfl, ⟨fun i b hi => (by simp at hi), fun i j bi bj hi => (by simp at hi), Nat.le_refl _, fun _ hi => absurd hi (Nat.not_lt_zero _), fun i b _ hi => (by simp at hi), ⟨rfl, rfl, rfl, Nat.le_refl _, fun _ _ _ => rfl⟩⟩⟩
  have e1 : F2 (Lr E (fun _ => 0) 0) (xs.map L.a) args := hargs.map _ fun _ _ hr => hr
  exact ini_ok e1 _
theorem below_of {E : Env} {w w' : World} (h : Fr ⟨E, 0, fun _ => 0, w⟩ w') : RowKit.Below w.heap.size w w' :=
  ⟨h.os, h.tape, h.output, h.size, fun k hk => h.block k hk (fun _ hi => absurd hi (Nat.not_lt_zero _))⟩

/-- What a function without arguments tells. -/
def constRes (P : Program) (sm : Nat → Pc → List A → Option A) (cfg : Nat → Bool) (fuel : Nat) (f : Nat) : Option A :=
  match P.funcs[f]? with
  | some fn => bif fn.name == "runtime.NumGoroutine" then none else match fn.body with
    | some c => match evC P sm cfg fuel (cfg f) false c ⟨ini [] fn.ntmps, [], []⟩ with
      | some [.good e st] => match e with
        | .exit _ => none
        | _ => match resL P st fn.results.toList with
          | some (.a y) => bif y.pure then some y else none
          | _ => none
      | _ => none
    | none => none
  | none => none
def ConstOk (P : Program) (g : Nat) (y : A) : Prop :=
  (∃ fn, P.funcs[g]? = some fn ∧ fn.body.isSome = true ∧ (fn.name == "runtime.NumGoroutine") = false) ∧
  ∀ (E : Env) (ρ : Nat → Nat) (n : Nat) (w : World), Calls P g #[] w fun e w' => (∃ v, e = .returned v ∧ Ar E ρ n y v) ∧ RowKit.Below w.heap.size w w'
theorem const_ok {P : Program} {sm : Nat → Pc → List A → Option A} (hsm : SmOk P sm) {cfg : Nat → Bool} {fuel f : Nat} {y : A} (h : constRes P sm cfg fuel f = some y) : ConstOk P f y := by
  unfold constRes at h
  split at h
  · rename_i fn hf
    cases hn : fn.name == "runtime.NumGoroutine" <;> simp only [hn, cond_true, cond_false] at h
    · split at h
      · rename_i c hb
        refine ⟨⟨fn, hf, by rw [hb]; rfl, hn⟩, fun E ρ n w => ?_⟩
        split at h
        · rename_i e st he
          refine (calls_of_wp (R := fun e w' => (∃ v, e = .returned v ∧ Ar E ρ n y v) ∧ Fr ⟨E, 0, fun _ => 0, w⟩ w') hf hb ?_).mono fun e w' ⟨h1, h2⟩ => ⟨h1, below_of h2⟩
          have hrel : Rel ⟨E, 0, fun _ => 0, w⟩ (fun _ => 0) ⟨ini [] fn.ntmps, [], []⟩ { tmps := #[] ++ Array.replicate (fn.ntmps - (#[] : Array Value).size) undef, defers := [] } w :=
            rel0 (xs := []) (args := #[]) (F2.ofL (vs := []) trivial) (fun _ h => nomatch h)
          have hne : ∀ id, e ≠ .exit id := by
            intro id hid; subst hid; simp only at h; cases h
          have h' : (match resL P st fn.results.toList with
            | some (.a y) => bif y.pure then some y else none
            | _ => none) = some y := by
            cases e with
            | exit id => exact absurd rfl (hne id)
            | norm => exact h
            | ret => exact h
          refine (evC_ok P hsm cfg fuel).1 _ _ _ _ he _ _ _ w hrel _ fun o ho => ?_
          rw [List.mem_singleton] at ho
          subst ho
          intro ρ' a' w' g1 g2 g3
          split at h'
          · rename_i y' hy
            cases hp : y'.pure <;> simp only [hp, cond_true, cond_false] at h'
            · cases h'
            · cases h'
              obtain ⟨v, h1, h2⟩ := resL_ok g3 hy
              have hq : (∃ v', Ending.returned v = Ending.returned v' ∧ Ar E ρ n y v') ∧ Fr ⟨E, 0, fun _ => 0, w⟩ w' := ⟨⟨v, rfl, Ar_pure hp h2⟩, g3.mr.fr⟩
              cases e with
              | exit id => exact absurd rfl (hne id)
              | norm => exact ⟨g3.dfr, v, h1, hq⟩
              | ret => exact ⟨g3.dfr, v, h1, hq⟩
          · cases h'
        · cases h
      · cases h
    · cases h
  · cases h
/-- Functions without arguments, told. -/
def look (g : Nat) : List (Nat × A) → Option A
  | [] => none
  | (f, y) :: l => bif Nat.beq f g then some y else look g l
def smL (l : List (Nat × A)) (g : Nat) (_ : Pc) : List A → Option A
  | [] => look g l
  | _ :: _ => none
theorem smL_ok {P : Program} {l : List (Nat × A)} (h : ∀ p ∈ l, ConstOk P p.1 p.2) : SmOk P (smL l) := by
  intro g pc xs y hy E ρ n args w _ ha
  cases xs with
  | cons x xs => cases hy
  | nil =>
    obtain rfl : args = #[] := Array.eq_empty_of_size_eq_zero ha.1
    have : ConstOk P g y := by
      simp only [smL] at hy
      induction l with
      | nil => cases hy
      | cons p l ih =>
        simp only [look] at hy
        cases hb : Nat.beq p.1 g
        · simp only [hb, cond_false] at hy
          exact ih (fun q hq => h q (List.mem_cons_of_mem _ hq)) hy
        · simp only [hb, cond_true, Option.some.injEq] at hy
          have := h p List.mem_cons_self
          rw [← hy, ← Nat.eq_of_beq_eq_true hb]; exact this
    exact ⟨this.1, this.2 E ρ n w⟩
end Go.Sy
