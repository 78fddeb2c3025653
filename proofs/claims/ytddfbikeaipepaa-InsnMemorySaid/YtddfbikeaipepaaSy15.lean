/- Part 15 of a checked reader of Go texts in their model form: it runs a function at terms in the place of numbers, and each part proves that its answers hold of the model. -/
import Derived.Test.YtddfbikeaipepaaSy14
namespace Go.Sy
/-- What is left to show of a law's ways out: facts, and the truth that must follow. -/
def residue (P : Program) (rs : List ResultVar) : List Out → Option (List (Pc × T))
  | [] => some []
  | .bad pc :: l => (residue P rs l).map ((pc, .lit 0) :: ·)
  | .good (.exit _) _ :: _ => none
  | .good _ st :: l => match resL P st rs with
    | some (.a (.c (.bool t))) => match dec st.pc t with
      | some true => residue P rs l
      | _ => (residue P rs l).map ((st.pc, t) :: ·)
    | _ => none
theorem residue_ok {P : Program} {X : Cx} {fn : Func} {ρ : Nat → Nat} {n : Nat} : ∀ {l : List Out} {rs : List (Pc × T)}, residue P fn.results.toList l = some rs → (∀ p ∈ rs, pcOk X.E p.1 → p.2.tr X.E = true) →
    ∀ o ∈ l, Sat X ρ n (bodyPost P fn fun e w' => e = .returned (.bool true) ∧ Fr X w') o := by
  intro l
  induction l with
  | nil => intro rs _ _ o ho; cases ho
  | cons x l ih =>
    intro rs h hs o ho
    cases x with
    | bad pc =>
      simp only [residue, Option.map_eq_some_iff] at h
      obtain ⟨rs', h', rfl⟩ := h
      rcases List.mem_cons.1 ho with rfl | ho
      · intro hpc
        have := hs _ List.mem_cons_self hpc
        simp [T.tr, T.den] at this
      · exact ih h' (fun p hp => hs p (List.mem_cons_of_mem _ hp)) o ho
    | good e st =>
      have step : ∀ t, resL P st fn.results.toList = some (.a (.c (.bool t))) → (e = .norm ∨ e = .ret) → (pcOk X.E st.pc → t.tr X.E = true) → Sat X ρ n (bodyPost P fn fun e w' => e = .returned (.bool true) ∧ Fr X w') (.good e st) := by
        intro t ht he hpc ρ' a' w' g1 g2 g3
        obtain ⟨v, h1, h2⟩ := resL_ok g3 ht
        have hv : v = .bool true := by
          have : v = .bool (t.tr X.E) := h2
          rw [this, hpc g3.pc]
        subst hv
        rcases he with rfl | rfl <;> exact ⟨g3.dfr, _, h1, rfl, g3.mr.fr⟩
      have main : (e = .norm ∨ e = .ret) → (match resL P st fn.results.toList with
          | some (.a (.c (.bool t))) => match dec st.pc t with
            | some true => residue P fn.results.toList l
            | _ => (residue P fn.results.toList l).map ((st.pc, t) :: ·)
          | _ => none) = some rs → Sat X ρ n (bodyPost P fn fun e w' => e = .returned (.bool true) ∧ Fr X w') o := by
        intro he h
        split at h
        · rename_i t ht
          split at h
          · rename_i hd
            rcases List.mem_cons.1 ho with rfl | ho
            · exact step t ht he fun hpc => dec_ok hpc hd
            · exact ih h hs o ho
          · rw [Option.map_eq_some_iff] at h
            obtain ⟨rs', h', rfl⟩ := h
            rcases List.mem_cons.1 ho with rfl | ho
            · exact step t ht he (hs _ List.mem_cons_self)
            · exact ih h' (fun p hp => hs p (List.mem_cons_of_mem _ hp)) o ho
        · cases h
      cases e with
      | exit id => simp [residue] at h
      | norm => exact main (.inl rfl) (by simpa only [residue] using h)
      | ret => exact main (.inr rfl) (by simpa only [residue] using h)

/-- A law over plain values. -/
def lawRes (P : Program) (sm : Nat → Pc → List A → Option A) (cfg : Nat → Bool) (fuel : Nat) (f : Nat) (xs : List A) : Option (List (Pc × T)) :=
  match P.funcs[f]? with
  | some fn => match fn.body with
    | some c => match evC P sm cfg fuel (cfg f) false c ⟨ini (xs.map L.a) fn.ntmps, [], []⟩ with
      | some outs => residue P fn.results.toList outs
      | none => none
    | none => none
  | none => none
theorem law_ok {P : Program} {sm : Nat → Pc → List A → Option A} (hsm : SmOk P sm) {cfg : Nat → Bool} {fuel f : Nat} {xs : List A} {rs : List (Pc × T)} (h : lawRes P sm cfg fuel f xs = some rs) (E : Env) {args : Array Value} (hargs : F2 (Ar E (fun _ => 0) 0) xs args) (hs : ∀ p ∈ rs, pcOk E p.1 → p.2.tr E = true) (w : World) :
    Calls P f args w fun e w' => e = .returned (.bool true) ∧ RowKit.Below w.heap.size w w' := by
  unfold lawRes at h
  split at h
  · rename_i fn hf
    split at h
    · rename_i c hb
      split at h
      · rename_i outs he
        let X : Cx := ⟨E, 0, fun _ => 0, w⟩
        have hfr : ∀ w', Fr X w' → RowKit.Below w.heap.size w w' := fun w' h => ⟨h.os, h.tape, h.output, h.size, fun k hk => h.block k hk (fun i hi => absurd hi (Nat.not_lt_zero _))⟩
        refine (calls_of_wp (R := fun e w' => e = .returned (.bool true) ∧ Fr X w') hf hb ?_).mono fun e w' ⟨h1, h2⟩ => ⟨h1, hfr w' h2⟩
        have hrel : Rel X (fun _ => 0) ⟨ini (xs.map L.a) fn.ntmps, [], []⟩ { tmps := args ++ Array.replicate (fn.ntmps - args.size) undef, defers := [] } w := by
          refine ⟨⟨?_, fun p hp => (nomatch hp)⟩, rfl, ⟨fun i b hi => (by simp at hi), fun i j bi bj hi => (by simp at hi), Nat.le_refl _, fun i hi => absurd hi (Nat.not_lt_zero _), fun i b _ hi => (by simp at hi), ⟨rfl, rfl, rfl, Nat.le_refl _, fun _ _ _ => rfl⟩⟩⟩
          have e1 : F2 (Lr E (fun _ => 0) 0) (xs.map L.a) args := hargs.map _ fun _ _ hr => hr
          exact ini_ok e1 _
        exact (evC_ok P hsm cfg fuel).1 _ _ _ _ he X _ _ w hrel _ (residue_ok h hs)
      · cases h
    · cases h
  · cases h
end Go.Sy
