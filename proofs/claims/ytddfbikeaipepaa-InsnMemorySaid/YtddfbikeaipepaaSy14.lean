/- Part 14 of a checked reader of Go texts in their model form: it runs a function at terms in the place of numbers, and each part proves that its answers hold of the model. -/
import Derived.Test.YtddfbikeaipepaaSy13
namespace Go.Sy

/-- A function's body: its ways out made one, where that loses nothing. -/
def runF (P : Program) (cfg : Nat → Bool) (run : Nat → Code → St → Option (List Out)) (g : Nat) (c : Code) (st : St) : Option (List Out) :=
  match run g c st with
  | some outs => let rs := ((P.funcs[g]?).map (·.results.toList)).getD []
    some (bif cfg g then merge (okRes st.m.length rs) st.pc (outs.map (trimO (rsSlots rs))) else outs.map (trimO (rsSlots rs)))
  | none => none

/-- A code, with fuel; 'mg': ways that meet are made one; the second truth: the code is a loop's body, behind a round. -/
def evC (P : Program) (sm : Nat → Pc → List A → Option A) (cfg : Nat → Bool) : Nat → Bool → Bool → Code → St → Option (List Out)
  | 0, _, _, _, _ => none
  | n + 1, mg, true, body, st => match evC P sm cfg n mg false body st with
    | some outs => bindL (evC P sm cfg n mg true body) outs
    | none => none
  | n + 1, mg, false, c, st => match c with
    | .skip => some [.good .norm st]
    | .region _ ops false => evOps P ⟨runF P cfg (fun g => evC P sm cfg n (cfg g) false), sm⟩ ops (List.range ops.size) st
    | .region _ ops true => evDraw P ⟨runF P cfg (fun g => evC P sm cfg n (cfg g) false), sm⟩ ops st
    | .seq x y => match evC P sm cfg n mg false x st with
      | some outs => bindL (evC P sm cfg n mg false y) outs
      | none => none
    | .cond c x y => match opC st c with
      | some (.bool t) => match dec st.pc t with
        | some true => evC P sm cfg n mg false x st
        | some false => evC P sm cfg n mg false y st
        | none => match evC P sm cfg n mg false x (withPc st t true), evC P sm cfg n mg false y (withPc st t false) with
          | some a, some b => some (bif mg then merge (okAll st.m.length) st.pc (a ++ b) else a ++ b)
          | _, _ => none
      | _ => none
    | .block id x => match evC P sm cfg n mg false x st with
      | some l => let l' := l.map fun
          | .good (.exit id') st' => if id' = id then .good .norm st' else .good (.exit id') st'
          | o => o
        some (bif mg then merge (okAll st.m.length) st.pc l' else l')
      | none => none
    | .loop x => evC P sm cfg n mg true x st
    | .exit id => some [.good (.exit id) st]
    | .ret => some [.good .ret st]
    | _ => none

section
variable {P : Program} {X : Cx}
theorem runF_ok {cfg : Nat → Bool} {run : Nat → Code → St → Option (List Out)} (h : ∀ g, RunOk P (run g)) (g : Nat) : RunE P (runF P cfg run g) := by
  intro c st outs he X ρ a w hr Q hQ hs
  unfold runF at he
  split at he
  · rename_i outs1 h1
    cases he
    have hs' : ∀ o ∈ outs1.map (trimO (rsSlots (((P.funcs[g]?).map (·.results.toList)).getD []))), Sat X ρ st.m.length Q o := by
      cases hc : cfg g <;> simp only [hc, cond_true, cond_false] at hs
      · exact hs
      · exact merge_ok hs
    refine h g c st outs1 h1 X ρ a w hr Q fun o ho => ?_
    have := hs' _ (List.mem_map_of_mem ho)
    cases o with
    | bad pc => exact this
    | good e st' =>
      cases e with
      | norm => exact fun ρ' a' w' g1 g2 g3 => this ρ' a' w' g1 g2 (g3.only _)
      | ret => exact fun ρ' a' w' g1 g2 g3 => (hQ _ _).1 (this ρ' a' w' g1 g2 (g3.only _))
      | exit id => exact this
  · cases he
theorem evC_ok (P : Program) {sm : Nat → Pc → List A → Option A} (hsm : SmOk P sm) (cfg : Nat → Bool) : ∀ (n : Nat), (∀ mg, RunOk P (evC P sm cfg n mg false)) ∧ (∀ mg c st outs, evC P sm cfg n mg true c st = some outs → ∀ X ρ a w, Rel X ρ st a w → ∀ Q, (∀ o ∈ outs, Sat X ρ st.m.length Q o) → c.wp P (Exit.then (wpIn P c Q) Q) a w) := by
  intro n
  induction n with
  | zero => exact ⟨fun mg c st outs h => by simp [evC] at h, fun mg c st outs h => by simp [evC] at h⟩
  | succ n ih =>
    obtain ⟨ih1, ih2⟩ := ih
    constructor
    · intro mg c st outs he X ρ a w h Q hs
      simp only [evC] at he
      split at he
      · cases he
        exact wp_skip (hs _ List.mem_cons_self ρ a w (fun _ _ => rfl) (Nat.le_refl _) h)
      · exact wp_region (evOps_ok ⟨runF_ok fun g => ih1 (cfg g), hsm⟩ he h hs)
      · exact evDraw_ok ⟨runF_ok fun g => ih1 (cfg g), hsm⟩ he h hs _
      · rename_i x y
        split at he
        · rename_i outs1 hx
          refine wp_seq (ih1 _ _ _ _ hx X ρ a w h _ ?_)
          refine bindL_ok (Q := Q) (fun st' outs' hf ρ1 a1 w1 hρ hn hrel hs' => ?_) (fun e a w he hq => then_of e a w he hq) he hs
          exact ih1 _ _ _ _ hf X ρ1 a1 w1 hrel Q fun x hx => (hs' x hx).from hρ hn
        · cases he
      · rename_i c' x y
        split at he
        · rename_i t hc
          have hv : a.eval c' = .bool (t.tr X.E) := opC_ok h.toSRel hc
          split at he
          · rename_i hd
            refine wp_cond_true (by rw [hv, dec_ok h.pc hd]) (ih1 _ _ _ _ he X ρ a w h Q hs)
          · rename_i hd
            refine wp_cond_false (by rw [hv, dec_ok h.pc hd]) (ih1 _ _ _ _ he X ρ a w h Q hs)
          · split at he
            · rename_i oa ob ha hb
              cases he
              have hs' : ∀ o ∈ oa ++ ob, Sat X ρ st.m.length Q o := by
                cases mg
                · exact hs
                · exact merge_ok hs
              refine wp_cond_split hv (fun ht => ?_) (fun ht => ?_)
              · exact ih1 _ _ _ _ ha X ρ a w (h.withPc ht) Q fun x hx => hs' x (List.mem_append_left _ hx)
              · exact ih1 _ _ _ _ hb X ρ a w (h.withPc ht) Q fun x hx => hs' x (List.mem_append_right _ hx)
            · cases he
        · cases he
      · rename_i id x
        split at he
        · rename_i l hl
          cases he
          have hs' : ∀ o ∈ l.map (fun | .good (.exit id') st' => if id' = id then Out.good .norm st' else .good (.exit id') st' | o => o), Sat X ρ st.m.length Q o := by
            cases mg
            · exact hs
            · exact merge_ok hs
          refine wp_block (ih1 _ _ _ _ hl X ρ a w h _ fun o ho => ?_)
          have := hs' _ (List.mem_map_of_mem ho)
          cases o with
          | bad pc => exact this
          | good e st' =>
            cases e with
            | norm => exact this
            | ret => exact this
            | exit id' =>
              simp only at this
              intro ρ' a' w' g1 g2 g3
              simp only [Ex.to, Exit.inBlock]
              by_cases hid : id' = id
              · rw [if_pos hid] at this ⊢; exact this ρ' a' w' g1 g2 g3
              · rw [if_neg hid] at this ⊢; exact this ρ' a' w' g1 g2 g3
        · cases he
      · exact loop_of (ih2 _ _ _ _ he X ρ a w h Q hs)
      · cases he
        exact wp_exit (hs _ List.mem_cons_self ρ a w (fun _ _ => rfl) (Nat.le_refl _) h)
      · cases he
        exact wp_ret (hs _ List.mem_cons_self ρ a w (fun _ _ => rfl) (Nat.le_refl _) h)
      · cases he
    · intro mg c st outs he X ρ a w h Q hs
      simp only [evC] at he
      split at he
      · rename_i outs1 hx
        refine ih1 _ _ _ _ hx X ρ a w h _ ?_
        refine bindL_ok (Q := Q) (fun st' outs' hf ρ1 a1 w1 hρ hn hrel hs' => ?_) (fun e a w he hq => then_of e a w he hq) he hs
        exact wpIn_of (ih2 _ _ _ _ hf X ρ1 a1 w1 hrel Q fun x hx => (hs' x hx).from hρ hn)
      · cases he
end
end Go.Sy
