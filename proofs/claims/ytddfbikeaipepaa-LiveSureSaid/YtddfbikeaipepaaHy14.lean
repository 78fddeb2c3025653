/- Part 14 of a checked reader of Go texts in their model form: it runs a function at terms in the place of numbers, and each part proves that its answers hold of the model. -/
import Derived.Test.YtddfbikeaipepaaHy13
namespace Go.Sy

/-- What stands fast in a run: the functions that are told, where ways are made one, how loops are gone through. -/
structure Cf where
  sm : Nat → St → List A → Option SmR
  sp : Nat → Pc → Kn → List A → Option SpR
  cfg : Nat → Bool
  lp : Nat → Code → St → (Code → St → Option (List Out)) → Option (List Out)

/-- A function's body: its ways out made one, where that loses nothing. -/
def runF (P : Program) (cfg : Nat → Bool) (run : Nat → Code → St → Option (List Out)) (g : Nat) (c : Code) (st : St) : Option (List Out) :=
  match run g c st with
  | some outs => let rs := ((P.funcs[g]?).map (·.results.toList)).getD []
    some (bif cfg g then merge (okRes st.m.length rs) st (outs.map (trimO (rsSlots rs))) else outs.map (trimO (rsSlots rs)))
  | none => none
def blockO (id : Nat) : Out → Out
  | .good (.exit id') st' => if id' = id then .good .norm st' else .good (.exit id') st'
  | o => o

/-- A code, with fuel; 'g': of which function; 'mg': ways that meet are made one; the second truth: the code is a loop's body, behind a round. -/
def evC (P : Program) (cf : Cf) : Nat → Nat → Bool → Bool → Code → St → Option (List Out)
  | 0, _, _, _, _, _ => none
  | n + 1, g, mg, true, body, st => match evC P cf n g mg false body st with
    | some outs => bindL (evC P cf n g mg true body) outs
    | none => none
  | n + 1, g, mg, false, c, st => match c with
    | .skip => some [.good .norm st]
    | .region _ ops false => st.fc fun st => evOps2 P ⟨runF P cf.cfg (fun g => evC P cf n g (cf.cfg g) false), cf.sm, cf.sp⟩ ops (List.range ops.size) st
    | .region _ ops true => st.fc fun st => evDraw P ⟨runF P cf.cfg (fun g => evC P cf n g (cf.cfg g) false), cf.sm, cf.sp⟩ ops st
    | .seq x y => match evC P cf n g mg false x st with
      | some outs => bindL (evC P cf n g mg false y) outs
      | none => none
    | .cond c x y => match opC st c with
      | some (.bool t) => match dec st.pc t with
        | some true => evC P cf n g mg false x st
        | some false => evC P cf n g mg false y st
        | none => match evC P cf n g mg false x (withPc st t true), evC P cf n g mg false y (withPc st t false) with
          | some a, some b => some (bif mg then merge (okAll st.m.length) st (a ++ b) else a ++ b)
          | _, _ => none
      | _ => none
    | .block id x => match evC P cf n g mg false x st with
      | some l => some (bif mg then merge (okAll st.m.length) st (l.map (blockO id)) else l.map (blockO id))
      | none => none
    | .loop x => match cf.lp g x st (evC P cf n g mg false) with
      | some outs => some outs
      | none => evC P cf n g mg true x st
    | .exit id => some [.good (.exit id) st]
    | .ret => some [.good .ret st]
    | _ => none

section
variable {P : Program} {X : Cx}
theorem runF_ok [Fs] {cfg : Nat → Bool} {run : Nat → Code → St → Option (List Out)} (h : ∀ g, RunOk P (run g)) (g : Nat) : RunE P (runF P cfg run g) := by
  intro c st outs he X ρ a w hr Q hQ hs
  unfold runF at he
  split at he
  · rename_i outs1 h1
    cases he
    have hs' : ∀ o ∈ outs1.map (trimO (rsSlots (((P.funcs[g]?).map (·.results.toList)).getD []))), Sat X ρ st.m.length st.k.nv Q o := by
      cases hc : cfg g <;> simp only [hc, cond_true, cond_false] at hs
      · exact hs
      · exact merge_ok hs
    refine h g c st outs1 h1 X ρ a w hr Q fun o ho => ?_
    have := hs' _ (List.mem_map_of_mem ho)
    cases o with
    | bad pc ds => exact this
    | good e st' =>
      cases e with
      | norm => exact fun E' ρ' a' w' L g3 => this E' ρ' a' w' ⟨L.E, L.ρ, L.n, L.v⟩ (g3.only _)
      | ret => exact fun E' ρ' a' w' L g3 => (hQ _ _).1 (this E' ρ' a' w' ⟨L.E, L.ρ, L.n, L.v⟩ (g3.only _))
      | exit id => exact this
  · cases he
/-- What is told of loops is so. -/
def LpOk [Fs] (P : Program) (lp : Nat → Code → St → (Code → St → Option (List Out)) → Option (List Out)) : Prop :=
  ∀ g body st run outs, RunOk P run → lp g body st run = some outs → ∀ X ρ a w, Rel X ρ st a w → ∀ Q, (∀ o ∈ outs, Sat X ρ st.m.length st.k.nv Q o) → (Code.loop body).wp P Q a w
structure CfOk [Fs] (P : Program) (cf : Cf) : Prop where
  sm : SmOk P cf.sm
  sp : SpOk P cf.sp
  lp : LpOk P cf.lp
theorem evC_ok [Fs] (P : Program) {cf : Cf} (hcf : CfOk P cf) : ∀ (n : Nat), (∀ g mg, RunOk P (evC P cf n g mg false)) ∧ (∀ g mg c st outs, evC P cf n g mg true c st = some outs → ∀ X ρ a w, Rel X ρ st a w → ∀ Q, (∀ o ∈ outs, Sat X ρ st.m.length st.k.nv Q o) → c.wp P (Exit.then (wpIn P c Q) Q) a w) := by
  intro n
  induction n with
  | zero => exact ⟨fun g mg c st outs h => by simp [evC] at h, fun g mg c st outs h => by simp [evC] at h⟩
  | succ n ih =>
    obtain ⟨ih1, ih2⟩ := ih
    constructor
    · intro g mg c st outs he X ρ a w h Q hs
      simp only [evC] at he
      split at he
      · cases he
        exact wp_skip (hs _ List.mem_cons_self X.E ρ a w (Later.refl _ _ _) h)
      · rw [St.fc_eq] at he
        exact wp_region (evOps2_ok ⟨runF_ok fun g => ih1 g (cf.cfg g), hcf.sm, hcf.sp⟩ he h hs)
      · rw [St.fc_eq] at he
        exact evDraw_ok ⟨runF_ok fun g => ih1 g (cf.cfg g), hcf.sm, hcf.sp⟩ he h hs _
      · rename_i x y
        split at he
        · rename_i outs1 hx
          refine wp_seq (ih1 _ _ _ _ _ hx X ρ a w h _ ?_)
          refine bindL_ok (Q := Q) (fun st' outs' hf E1 ρ1 a1 w1 L hrel hs' => ?_) (fun e a w he hq => then_of e a w he hq) he hs
          exact ih1 _ _ _ _ _ hf (X.at E1) ρ1 a1 w1 hrel Q fun x hx => (hs' x hx).from L
        · cases he
      · rename_i c' x y
        split at he
        · rename_i t hc
          have hv : a.eval c' = .bool (t.tr X.E) := opC_ok h.toSRel hc
          split at he
          · rename_i hd
            refine wp_cond_true (by rw [hv, dec_ok h.pc hd]) (ih1 _ _ _ _ _ he X ρ a w h Q hs)
          · rename_i hd
            refine wp_cond_false (by rw [hv, dec_ok h.pc hd]) (ih1 _ _ _ _ _ he X ρ a w h Q hs)
          · split at he
            · rename_i oa ob ha hb
              cases he
              have hs' : ∀ o ∈ oa ++ ob, Sat X ρ st.m.length st.k.nv Q o := by
                cases mg
                · exact hs
                · exact merge_ok hs
              refine wp_cond_split hv (fun ht => ?_) (fun ht => ?_)
              · exact ih1 _ _ _ _ _ ha X ρ a w (h.withPc ht) Q fun x hx => hs' x (List.mem_append_left _ hx)
              · exact ih1 _ _ _ _ _ hb X ρ a w (h.withPc ht) Q fun x hx => hs' x (List.mem_append_right _ hx)
            · cases he
        · cases he
      · rename_i id x
        split at he
        · rename_i l hl
          cases he
          have hs' : ∀ o ∈ l.map (blockO id), Sat X ρ st.m.length st.k.nv Q o := by
            cases mg
            · exact hs
            · exact merge_ok hs
          refine wp_block (ih1 _ _ _ _ _ hl X ρ a w h _ fun o ho => ?_)
          have := hs' _ (List.mem_map_of_mem ho)
          cases o with
          | bad pc ds => exact this
          | good e st' =>
            cases e with
            | norm => exact this
            | ret => exact this
            | exit id' =>
              simp only [blockO] at this
              intro E' ρ' a' w' L g3
              simp only [Ex.to, Exit.inBlock]
              by_cases hid : id' = id
              · rw [if_pos hid] at this ⊢; exact this E' ρ' a' w' L g3
              · rw [if_neg hid] at this ⊢; exact this E' ρ' a' w' L g3
        · cases he
      · split at he
        · rename_i outs' hl
          cases he
          exact hcf.lp _ _ _ _ _ (ih1 g mg) hl X ρ a w h Q hs
        · exact loop_of (ih2 _ _ _ _ _ he X ρ a w h Q hs)
      · cases he
        exact wp_exit (hs _ List.mem_cons_self X.E ρ a w (Later.refl _ _ _) h)
      · cases he
        exact wp_ret (hs _ List.mem_cons_self X.E ρ a w (Later.refl _ _ _) h)
      · cases he
    · intro g mg c st outs he X ρ a w h Q hs
      simp only [evC] at he
      split at he
      · rename_i outs1 hx
        refine ih1 _ _ _ _ _ hx X ρ a w h _ ?_
        refine bindL_ok (Q := Q) (fun st' outs' hf E1 ρ1 a1 w1 L hrel hs' => ?_) (fun e a w he hq => then_of e a w he hq) he hs
        exact wpIn_of (ih2 _ _ _ _ _ hf (X.at E1) ρ1 a1 w1 hrel Q fun x hx => (hs' x hx).from L)
      · cases he
end
end Go.Sy
