/- Part 14 of a checked reader of Go texts in their model form: it runs a function at terms in the place of numbers, and each part proves that its answers hold of the model. -/
import Derived.Test.YtpjmhngcdbpmpaaLy13
namespace Go.Sy

/-- What stands fast in a run: the functions that are told, where ways are made one, how loops are gone through. -/
structure Cf where
  sm : Nat → St → List A → Option SmR
  sp : Nat → Pc → Kn → List A → Option SpR
  cfg : Nat → Bool
  lp : Nat → Code → St → (Code → St → Option (List Out)) → Option (List Out)

/-- A function's body: its ways out made one, where that loses nothing. -/
def runF (P : Program) (cfg : Nat → Bool) (run : Nat → Code → St → Option (List Out)) (g : Nat) (c : Code) (st : St) : Option (List Out) :=
  match run g c st with
  | some outs => let rs := ((P.funcs[g]?).map (·.results.toList)).getD []
    fcLs Out.fcT (outs.map (trimO (rsSlots rs))) fun outs => some (bif cfg g then merge (okRes st.m.length rs) st outs else outs)
  | none => none
/-- .. which may defer something. -/
def runFB (P : Program) (cfg : Nat → Bool) (run : Nat → Code → St → Option (List Out)) (g : Nat) (c : Code) (st : St) : Option (List Out) :=
  bif dfB 4 c then
    let rs := ((P.funcs[g]?).map (·.results.toList)).getD []
    match runDB P run (rsSlots rs) g c st with
    | some outs => fcLs Out.fcT (outs.map (trimO (rsSlots rs))) fun outs => some (bif cfg g then merge (okRes st.m.length rs) st outs else outs)
    | none => none
  else runF P cfg run g c st
def blockO (id : Nat) : Out → Out
  | .good (.exit id') st' => if id' = id then .good .norm st' else .good (.exit id') st'
  | o => o

/-- A code, with fuel; 'g': of which function; 'mg': ways that meet are made one; the second truth: the code is a loop's body, behind a round. -/
def evC (P : Program) (cf : Cf) : Nat → Nat → Bool → Bool → Code → St → Option (List Out)
  | 0, _, _, _, _, _ => none
  | n + 1, g, mg, true, body, st => match evC P cf n g mg false body st with
    | some outs => bindL (evC P cf n g mg true body) outs
    | none => none
  | n + 1, g, mg, false, c, st => match c with
    | .skip => some [.good .norm st]
    | .region _ ops false => evOps2 P ⟨runFB P cf.cfg (fun g => evC P cf n g (cf.cfg g) false), cf.sm, cf.sp⟩ ops (List.range ops.size) st
    | .region _ ops true => evDraw P ⟨runFB P cf.cfg (fun g => evC P cf n g (cf.cfg g) false), cf.sm, cf.sp⟩ ops st
    | .seq x y => match evC P cf n g mg false x st with
      | some outs => bindL (evC P cf n g mg false y) outs
      | none => none
    | .cond c x y => match opC st c with
      | some (.bool t) => match dec st.pc t with
        | some true => evC P cf n g mg false x st
        | some false => evC P cf n g mg false y st
        | none => fcPc (addP t true st.pc) fun pc1 => fcPc (addP t false st.pc) fun pc0 => match evC P cf n g mg false x ⟨st.s, st.m, pc1, st.k⟩, evC P cf n g mg false y ⟨st.s, st.m, pc0, st.k⟩ with
          | some a, some b => some (bif mg then merge (okAll st.m.length) st (a ++ b) else a ++ b)
          | _, _ => none
      | _ => none
    | .block id x => match evC P cf n g mg false x st with
      | some l => some (bif mg then merge (okAll st.m.length) st (l.map (blockO id)) else l.map (blockO id))
      | none => none
    | .loop x => match cf.lp g x st (evC P cf n g mg false) with
      | some outs => some outs
      | none => evC P cf n g mg true x st
    | .exit id => some [.good (.exit id) st]
    | .ret => some [.good .ret st]
    | _ => none

section
variable {P : Program} {X : Cx}
theorem runF_ok [Fs] {cfg : Nat → Bool} {run : Nat → Code → St → Option (List Out)} (h : ∀ g, RunOk P (run g)) (g : Nat) : RunE P (runF P cfg run g) := by
  intro c st outs he X ρ a w hr Q hQ hs
  unfold runF at he
  simp only [fcLs_eq Out.fcT_eq] at he
  split at he
  · rename_i outs1 h1
    cases he
    have hs' : ∀ o ∈ outs1.map (trimO (rsSlots (((P.funcs[g]?).map (·.results.toList)).getD []))), Sat X ρ st.m.length st.k.nv Q o := by
      cases hc : cfg g <;> simp only [hc, cond_true, cond_false] at hs
      · exact hs
      · exact merge_ok hs
    refine h g c st outs1 h1 X ρ a w hr Q fun o ho => ?_
    have := hs' _ (List.mem_map_of_mem ho)
    cases o with
    | bad pc ds => exact this
    | good e st' =>
      cases e with
      | norm => exact fun E' ρ' a' w' L g3 => this E' ρ' a' w' ⟨L.E, L.ρ, L.n, L.v⟩ (g3.only _)
      | ret => exact fun E' ρ' a' w' L g3 => (hQ _ _).1 (this E' ρ' a' w' ⟨L.E, L.ρ, L.n, L.v⟩ (g3.only _))
      | exit id => exact this
      | pan c => exact this
  · cases he
theorem trim_sat [Fs] {X : Cx} {ρ : Nat → Rb} {n v : Nat} {fn : Func} {R : Ending → World → Prop} {rs : List Nat} {o : Out} (h : Sat X ρ n v (bodyPost P fn R) (trimO rs o)) : Sat X ρ n v (bodyPost P fn R) o := by
  cases o with
  | bad pc ds => exact h
  | good e st' =>
    cases e with
    | norm => exact fun E' ρ' a' w' L g3 => h E' ρ' a' w' ⟨L.E, L.ρ, L.n, L.v⟩ (g3.only _)
    | ret => exact fun E' ρ' a' w' L g3 => h E' ρ' a' w' ⟨L.E, L.ρ, L.n, L.v⟩ (g3.only _)
    | exit id => exact h
    | pan c => exact h
theorem runFB_ok [Fs] {cfg : Nat → Bool} {run : Nat → Code → St → Option (List Out)} (h : ∀ g, RunOk P (run g)) (g : Nat) : RunB P g (runFB P cfg run g) := by
  intro fn body st outs hf hb he X ρ args w hX hr R hs
  unfold runFB at he
  cases hd : dfB 4 body <;> simp only [hd, cond_true, cond_false] at he
  · exact calls_of_wp hf hb (runF_ok h g body st outs he X ρ _ w hr _ (fun _ _ => Iff.rfl) hs)
  · simp only [fcLs_eq Out.fcT_eq] at he
    split at he
    · rename_i outs1 h1
      cases he
      refine runDB_ok h _ g fn body st outs1 hf hb h1 X ρ args w hX hr R fun o ho => ?_
      have hs' : ∀ o ∈ outs1.map (trimO (rsSlots (((P.funcs[g]?).map (·.results.toList)).getD []))), Sat X ρ st.m.length st.k.nv (bodyPost P fn R) o := by
        cases hc : cfg g <;> simp only [hc, cond_true, cond_false] at hs
        · exact hs
        · exact merge_ok hs
      exact trim_sat (hs' _ (List.mem_map_of_mem ho))
    · cases he
/-- What is told of loops is so. -/
def LpOk [Fs] (P : Program) (lp : Nat → Code → St → (Code → St → Option (List Out)) → Option (List Out)) : Prop :=
  ∀ g body st run outs, RunOk P run → lp g body st run = some outs → ∀ X ρ a w, Rel X ρ st a w → ∀ Q, (∀ o ∈ outs, Sat X ρ st.m.length st.k.nv Q o) → (Code.loop body).wp P Q a w
structure CfOk [Fs] (P : Program) (cf : Cf) : Prop where
  sm : SmOk P cf.sm
  sp : SpOk P cf.sp
  lp : LpOk P cf.lp
theorem evC_ok [Fs] (P : Program) {cf : Cf} (hcf : CfOk P cf) : ∀ (n : Nat), (∀ g mg, RunOk P (evC P cf n g mg false)) ∧ (∀ g mg c st outs, evC P cf n g mg true c st = some outs → ∀ X ρ a w, Rel X ρ st a w → ∀ Q, (∀ o ∈ outs, Sat X ρ st.m.length st.k.nv Q o) → c.wp P (Exit.then (wpIn P c Q) Q) a w) := by
  intro n
  induction n with
  | zero => exact ⟨fun g mg c st outs h => by simp [evC] at h, fun g mg c st outs h => by simp [evC] at h⟩
  | succ n ih =>
    obtain ⟨ih1, ih2⟩ := ih
    constructor
    · intro g mg c st outs he X ρ a w h Q hs
      simp only [evC] at he
      split at he
      · cases he
        exact wp_skip (hs _ List.mem_cons_self X.E ρ a w (Later.refl _ _ _) h)
      · exact wp_region (evOps2_ok ⟨runFB_ok fun g => ih1 g (cf.cfg g), hcf.sm, hcf.sp⟩ he h hs)
      · exact evDraw_ok ⟨runFB_ok fun g => ih1 g (cf.cfg g), hcf.sm, hcf.sp⟩ he h hs _
      · rename_i x y
        split at he
        · rename_i outs1 hx
          refine wp_seq (ih1 _ _ _ _ _ hx X ρ a w h _ ?_)
          refine bindL_ok (Q := Q) (fun st' outs' hf E1 ρ1 a1 w1 L hrel hs' => ?_) (fun e a w he hq => then_of e a w he hq) he hs
          exact ih1 _ _ _ _ _ hf (X.at E1) ρ1 a1 w1 hrel Q fun x hx => (hs' x hx).from L
        · cases he
      · rename_i c' x y
        split at he
        · rename_i t hc
          have hv : a.eval c' = .bool (t.tr X.E) := opC_ok h.toSRel hc
          split at he
          · rename_i hd
            refine wp_cond_true (by rw [hv, dec_ok h.pc hd]) (ih1 _ _ _ _ _ he X ρ a w h Q hs)
          · rename_i hd
            refine wp_cond_false (by rw [hv, dec_ok h.pc hd]) (ih1 _ _ _ _ _ he X ρ a w h Q hs)
          · simp only [fcPc_eq] at he
            split at he
            · rename_i oa ob ha hb
              cases he
              have hs' : ∀ o ∈ oa ++ ob, Sat X ρ st.m.length st.k.nv Q o := by
                cases mg
                · exact hs
                · exact merge_ok hs
              refine wp_cond_split hv (fun ht => ?_) (fun ht => ?_)
              · exact ih1 _ _ _ _ _ ha X ρ a w (h.withPc ht) Q fun x hx => hs' x (List.mem_append_left _ hx)
              · exact ih1 _ _ _ _ _ hb X ρ a w (h.withPc ht) Q fun x hx => hs' x (List.mem_append_right _ hx)
            · cases he
        · cases he
      · rename_i id x
        split at he
        · rename_i l hl
          cases he
          have hs' : ∀ o ∈ l.map (blockO id), Sat X ρ st.m.length st.k.nv Q o := by
            cases mg
            · exact hs
            · exact merge_ok hs
          refine wp_block (ih1 _ _ _ _ _ hl X ρ a w h _ fun o ho => ?_)
          have := hs' _ (List.mem_map_of_mem ho)
          cases o with
          | bad pc ds => exact this
          | good e st' =>
            cases e with
            | norm => exact this
            | ret => exact this
            | pan c => exact this
            | exit id' =>
              simp only [blockO] at this
              intro E' ρ' a' w' L g3
              simp only [Ex.to, Exit.inBlock]
              by_cases hid : id' = id
              · rw [if_pos hid] at this ⊢; exact this E' ρ' a' w' L g3
              · rw [if_neg hid] at this ⊢; exact this E' ρ' a' w' L g3
        · cases he
      · split at he
        · rename_i outs' hl
          cases he
          exact hcf.lp _ _ _ _ _ (ih1 g mg) hl X ρ a w h Q hs
        · exact loop_of (ih2 _ _ _ _ _ he X ρ a w h Q hs)
      · cases he
        exact wp_exit (hs _ List.mem_cons_self X.E ρ a w (Later.refl _ _ _) h)
      · cases he
        exact wp_ret (hs _ List.mem_cons_self X.E ρ a w (Later.refl _ _ _) h)
      · cases he
    · intro g mg c st outs he X ρ a w h Q hs
      simp only [evC] at he
      split at he
      · rename_i outs1 hx
        refine ih1 _ _ _ _ _ hx X ρ a w h _ ?_
        refine bindL_ok (Q := Q) (fun st' outs' hf E1 ρ1 a1 w1 L hrel hs' => ?_) (fun e a w he hq => then_of e a w he hq) he hs
        exact wpIn_of (ih2 _ _ _ _ _ hf (X.at E1) ρ1 a1 w1 hrel Q fun x hx => (hs' x hx).from L)
      · cases he
end
end Go.Sy
namespace Go.Sy

/-! told functions: matching -/
/-- Every block that is named is below. -/
def C.blk (n : Nat) : C → Bool
  | .ptr b _ | .pti b _ _ _ _ | .slc b _ _ | .slr b _ _ _ | .sln b _ _ | .pta b _ _ _ _ | .sle b _ _ => Nat.blt b n
  | .clo _ caps => caps.all fun p => Nat.blt p.1 n
  | _ => true
def A.blk (n : Nat) : A → Bool
  | .c x => x.blk n
  | .agg xs => xs.all (·.blk n)
  | .rows _ => true
  | .dead => true
def Bk.blk (n : Nat) : Bk → Bool
  | .cells _ xs => xs.all (·.blk n)
  | _ => true
section
variable {E E' : Env} {σ : Sg} {β : Nat → Nat} {ρ ρ' : Nat → Rb} {n n' : Nat}
theorem Cr.unsub [Fs] (h : SubOk E E' σ) (hβ : ∀ b, b < n → ρ b = ρ' (β b)) {x : C} {v : Value} (hb : x.blk n = true) (hr : Cr E' ρ' n' (x.sub σ β) v) : Cr E ρ n x v := by
  cases x <;> simp only [Cr, C.sub, T.sub_den h, T.sub_tr h, T.sub_row h] at hr ⊢ <;> (try exact hr) <;> (try (rw [ifV_sub h] at hr; exact hr)) <;> simp only [C.blk, Nat.blt_eq] at hb
  case ptr b o => exact ⟨hb, by rw [hβ b hb]; exact hr.2⟩
  case pti b o ix sz cnt => exact ⟨hb, by rw [hβ b hb]; exact hr.2⟩
  case slc b o l => exact ⟨hb, by rw [hβ b hb]; exact hr.2⟩
  case slr b z o k => exact ⟨hb, by rw [hβ b hb]; exact hr.2⟩
  case sln b z k => exact ⟨hb, by rw [hβ b hb]; exact hr.2⟩
  case sle b z k => exact ⟨hb, by rw [hβ b hb]; exact hr.2⟩
  case pta b z i o r => exact ⟨hb, by rw [hβ b hb]; exact hr.2⟩
  case clo f caps =>
    rw [List.all_eq_true] at hb
    refine ⟨fun p hp => by simpa using hb p hp, ?_⟩
    rw [hr.2, List.map_map]
    congr 2
    refine List.map_congr_left fun q hq => ?_
    simp only [Function.comp_apply, hβ q.1 (by simpa using hb q hq)]
theorem F2.unsub [Fs] (h : SubOk E E' σ) (hβ : ∀ b, b < n → ρ b = ρ' (β b)) {xs : List C} {vs : Array Value} (hb : xs.all (·.blk n) = true) (hr : F2 (Cr E' ρ' n') (xs.map (·.sub σ β)) vs) : F2 (Cr E ρ n) xs vs := by
  refine ⟨by simpa using hr.1, fun i x hx => ?_⟩
  obtain ⟨v, h1, h2⟩ := hr.2 i (x.sub σ β) (by rw [List.getElem?_map, hx]; rfl)
  rw [List.all_eq_true] at hb
  exact ⟨v, h1, h2.unsub h hβ (hb x (List.mem_of_getElem? hx))⟩
theorem F2p.unsub [Fs] (h : SubOk E E' σ) (hβ : ∀ b, b < n → ρ b = ρ' (β b)) {xs : List C} {vs : Array Value} (hb : xs.all (·.blk n) = true) (hr : F2p (Cr E' ρ' n') (xs.map (·.sub σ β)) vs) : F2p (Cr E ρ n) xs vs := by
  refine ⟨by simpa using hr.1, fun i x hx => ?_⟩
  obtain ⟨v, h1, h2⟩ := hr.2 i (x.sub σ β) (by rw [List.getElem?_map, hx]; rfl)
  rw [List.all_eq_true] at hb
  exact ⟨v, h1, h2.unsub h hβ (hb x (List.mem_of_getElem? hx))⟩
theorem Ar.unsub [Fs] (h : SubOk E E' σ) (hβ : ∀ b, b < n → ρ b = ρ' (β b)) {x : A} {v : Value} (hb : x.blk n = true) (hr : Ar E' ρ' n' (x.sub σ β) v) : Ar E ρ n x v := by
  cases x with
  | c x => exact Cr.unsub h hβ hb hr
  | agg xs => obtain ⟨cs, h1, h2⟩ := hr; exact ⟨cs, h1, h2.unsub h hβ hb⟩
  | rows cols => obtain ⟨cs, h1, h2, h3⟩ := hr; exact ⟨cs, h1, h2.trans wid_sub, h3.unsub h⟩
  | dead => trivial
theorem F2A.unsub [Fs] (h : SubOk E E' σ) (hβ : ∀ b, b < n → ρ b = ρ' (β b)) {xs : List A} {vs : Array Value} (hb : xs.all (·.blk n) = true) (hr : F2 (Ar E' ρ' n') (xs.map (·.sub σ β)) vs) : F2 (Ar E ρ n) xs vs := by
  refine ⟨by simpa using hr.1, fun i x hx => ?_⟩
  obtain ⟨v, h1, h2⟩ := hr.2 i (x.sub σ β) (by rw [List.getElem?_map, hx]; rfl)
  rw [List.all_eq_true] at hb
  exact ⟨v, h1, h2.unsub h hβ (hb x (List.mem_of_getElem? hx))⟩
theorem Br.unsub [Fs] (h : SubOk E E' σ) (hβ : ∀ b, b < n → ρ b = ρ' (β b)) {z : Rb} {b : Bk} {o : Option Obj} (hb : b.blk n = true) (hr : Br E' ρ' n' z (b.sub σ β) o) : Br E ρ n z b o := by
  cases b with
  | cells ty xs => obtain ⟨cs, h1, hz, h2⟩ := hr; exact ⟨cs, h1, hz, F2p.unsub h hβ hb h2⟩
  | arr ty k cols =>
    simp only [Br, Bk.sub, T.sub_den h, wid_sub] at hr ⊢
    refine ⟨hr.1, fun hk => ?_⟩
    obtain ⟨cs, t, fr, h1, hro, h2, h3, h4⟩ := hr.2 hk
    refine ⟨cs, t, fr, h1, hro, h2, h3, fun i p r c hi hc => ?_⟩
    have := h4 i p r (c.sub σ) hi (by rw [colAt_sub, hc]; rfl)
    rw [wid_sub] at this
    simpa only [Col.sub, T.sub_row h] using this
  | dead => trivial
end

/-- Letters met with terms. -/
abbrev Mt := List (Nat × T)
def mT : T → T → Mt
  | .v i _ _, t => [(i, t)]
  | .un _ a, .un _ b => mT a b
  | .bin _ a b, .bin _ c d => mT a c ++ mT b d
  | .ite a b c, .ite d e f => mT a d ++ mT b e ++ mT c f
  | _, _ => []
def mCol0 : List Col → List Col → Mt
  | p :: ps, x :: xs => mT p.s x.s ++ mCol0 ps xs
  | _, _ => []
def mC : C → C → Mt
  | .int _ p, .int _ t => mT p t
  | .bool p, .bool t => mT p t
  | .str p q, .str t u => mT p t ++ mT q u
  | .slr _ _ p q, .slr _ _ t u => mT p t ++ mT q u
  | .sln _ _ p, .sln _ _ t => mT p t
  | .pta _ _ p _ q, .pta _ _ t _ u => mT p t ++ mT q u
  | .pti _ _ p _ _, .pti _ _ t _ _ => mT p t
  | .ifc _ _ ps, .ifc _ _ xs => mCol0 ps xs
  | _, _ => []
def mCs : List C → List C → Mt
  | p :: ps, x :: xs => mC p x ++ mCs ps xs
  | _, _ => []
def mCol : List Col → List Col → Mt
  | p :: ps, x :: xs => mT p.s x.s ++ mCol ps xs
  | _, _ => []
def mA : A → A → Mt
  | .c p, .c x => mC p x
  | .agg ps, .agg xs => mCs ps xs
  | .rows ps, .rows xs => mCol ps xs
  | _, _ => []
def mAs : List A → List A → Mt
  | p :: ps, x :: xs => mA p x ++ mAs ps xs
  | _, _ => []
def mB : Bk → Bk → Mt
  | .cells _ ps, .cells _ xs => mCs ps xs
  | .arr _ p ps, .arr _ x xs => mT p x ++ mCol ps xs
  | _, _ => []
def lookT (i : Nat) : Mt → T
  | [] => .lit 0
  | (j, t) :: r => bif Nat.beq i j then t else lookT i r
/-- The letters' terms, in a row. -/
def termsOf (mt : Mt) : Nat → List T → List T
  | 0, acc => acc
  | n + 1, acc => termsOf mt n (lookT n mt :: acc)
theorem termsOf_eq [Fs] {mt : Mt} : ∀ {n : Nat} {acc : List T}, termsOf mt n acc = (List.range n).map (fun i => lookT i mt) ++ acc := by
  intro n
  induction n with
  | zero => intro acc; rfl
  | succ n ih => intro acc; simp only [termsOf, ih, List.range_succ, List.map_append, List.map_cons, List.map_nil, List.append_assoc, List.singleton_append]
def patS (pc : Pc) (mt : Mt) : Sg := fun i lo hi => mkCl pc lo hi (lookT i mt)
/-- The pattern's world of letters. -/
def patE (E : Env) (mt : Mt) : Env := ⟨fun i => (lookT i mt).me E, E.F⟩
theorem patS_ok [Fs] {E : Env} {pc : Pc} (hp : pcOk E pc) (mt : Mt) : SubOk (patE E mt) E (patS pc mt) :=
  ⟨rfl, fun _ lo hi => (mkCl_ok hp lo hi _).1, fun _ lo hi j => (mkCl_ok hp lo hi _).2 j⟩
def letters (E : Env) (n : Nat) : List Arg := (List.range n).map E.x
theorem letters_pat [Fs] {E : Env} {mt : Mt} {n : Nat} : letters (patE E mt) n = (termsOf mt n []).map (T.me E) := by
  rw [termsOf_eq, List.append_nil, List.map_map]; rfl
/-- Are the facts sure? -/
def sureAll (pc : Pc) (σ : Sg) : Pc → Bool
  | [] => true
  | (t, b) :: r => (match dec pc (t.sub σ) with | some c => bif b then c else !c | none => false) && sureAll pc σ r
theorem sureAll_ok [Fs] {E E' : Env} {σ : Sg} {pc : Pc} (hp : pcOk E' pc) (h : SubOk E E' σ) : ∀ {l : Pc}, sureAll pc σ l = true → pcOk E l := by
  intro l
  induction l with
  | nil => intro _ p hp; cases hp
  | cons q r ih =>
    obtain ⟨t, b⟩ := q
    intro hs
    simp only [sureAll, Bool.and_eq_true] at hs
    rw [pcOk_cons]
    refine ⟨?_, ih hs.2⟩
    have h1 := hs.1
    split at h1
    · rename_i c hc
      have := dec_ok hp hc
      rw [T.sub_tr h] at this
      rw [this]
      cases b <;> cases c <;> simp at h1 <;> rfl
    · cases h1

/-- A call that was made before. -/
def findCall (g : Nat) (ts : List T) (cnt : Nat) : List Df → Option Nat
  | [] => none
  | .call i g' ts' cnt' :: r => bif Nat.beq g g' && Nat.beq cnt cnt' && listB T.beq ts ts' then some i else findCall g ts cnt r
  | _ :: r => findCall g ts cnt r
theorem findCall_ok [Fs] {g cnt i : Nat} {ts : List T} : ∀ {ds : List Df}, findCall g ts cnt ds = some i → Df.call i g ts cnt ∈ ds := by
  intro ds
  induction ds with
  | nil => intro h; cases h
  | cons d r ih =>
    intro h
    cases d with
    | one j t => exact List.mem_cons_of_mem _ (ih h)
    | call j g' ts' cnt' =>
      simp only [findCall] at h
      cases hb : Nat.beq g g' && Nat.beq cnt cnt' && listB T.beq ts ts' <;> simp only [hb, cond_true, cond_false] at h
      · exact List.mem_cons_of_mem _ (ih h)
      · cases h
        simp only [Bool.and_eq_true] at hb
        rw [Nat.eq_of_beq_eq_true hb.1.1, Nat.eq_of_beq_eq_true hb.1.2, listB_eq (fun _ _ => T.beq_eq) hb.2]
        exact List.mem_cons_self

/-- A call that was made before; one that tells nothing needs no letters. -/
def findC (g : Nat) (ts : List T) (cnt : Nat) (ds : List Df) : Option Nat := bif Nat.beq cnt 0 then some 0 else findCall g ts cnt ds
theorem findC_ok [Fs] {E : Env} {g cnt i : Nat} {ts : List T} {ds : List Df} (hd : ∀ d ∈ ds, d.ok E) (h : findC g ts cnt ds = some i) : ∀ k, k < cnt → E.x (i + k) = ((E.F g (ts.map (T.me E)))[k]?).getD default := by
  unfold findC at h
  cases hb : Nat.beq cnt 0 <;> simp only [hb, cond_true, cond_false] at h
  · exact hd _ (findCall_ok h)
  · intro k hk
    rw [Nat.eq_of_beq_eq_true hb] at hk
    exact absurd hk (Nat.not_lt_zero _)
/-! a pattern that asks nothing of a cell -/
def C.fits : C → C → Bool
  | .any, _ => true
  | p, x => p.beq x
def A.fits : A → A → Bool
  | .c p, .c x => p.fits x
  | .agg ps, .agg xs => listB C.fits ps xs
  | p, x => p.beq x
theorem C.fits_ok [Fs] {E : Env} {ρ : Nat → Rb} {n : Nat} {p x : C} {v : Value} (h : p.fits x = true) (hx : Cr E ρ n x v) : Cr E ρ n p v := by
  unfold C.fits at h
  split at h
  · exact Cr_one hx
  · rw [C.beq_eq h]; exact hx
theorem fits_F2 [Fs] {α : Type} {r s : α → Value → Prop} {f : α → α → Bool} (hf : ∀ p x v, f p x = true → r x v → s p v) : ∀ {ps xs : List α}, listB f ps xs = true → ∀ (i : Nat) (p : α), ps[i]? = some p → ∃ x, xs[i]? = some x ∧ ∀ v, r x v → s p v := by
  intro ps
  induction ps with
  | nil => intro xs _ i p h; simp at h
  | cons q ps ih =>
    intro xs h i p hp
    cases xs with
    | nil => cases h
    | cons y xs =>
      simp only [listB, Bool.and_eq_true] at h
      cases i with
      | zero => simp at hp; subst hp; exact ⟨y, rfl, fun v => hf q y v h.1⟩
      | succ i =>
        obtain ⟨x, h1, h2⟩ := ih h.2 i p (by simpa using hp)
        exact ⟨x, by simpa using h1, h2⟩
theorem listB_len [Fs] {α : Type} {f : α → α → Bool} : ∀ {ps xs : List α}, listB f ps xs = true → ps.length = xs.length := by
  intro ps
  induction ps with
  | nil => intro xs h; cases xs; rfl; cases h
  | cons q ps ih =>
    intro xs h
    cases xs with
    | nil => cases h
    | cons y xs => simp only [listB, Bool.and_eq_true] at h; simp only [List.length_cons, ih h.2]
theorem F2.fits [Fs] {α : Type} {r s : α → Value → Prop} {f : α → α → Bool} (hf : ∀ p x v, f p x = true → r x v → s p v) {ps xs : List α} {vs : Array Value} (h : listB f ps xs = true) (hx : F2 r xs vs) : F2 s ps vs := by
  refine ⟨by rw [listB_len h]; exact hx.1, fun i p hp => ?_⟩
  obtain ⟨x, h1, h2⟩ := fits_F2 hf h i p hp
  obtain ⟨v, h3, h4⟩ := hx.2 i x h1
  exact ⟨v, h3, h2 v h4⟩
theorem A.fits_ok [Fs] {E : Env} {ρ : Nat → Rb} {n : Nat} {p x : A} {v : Value} (h : p.fits x = true) (hx : Ar E ρ n x v) : Ar E ρ n p v := by
  unfold A.fits at h
  split at h
  · exact C.fits_ok h hx
  · obtain ⟨cs, h1, h2⟩ := hx
    exact ⟨cs, h1, F2.fits (r := Cr E ρ n) (s := Cr E ρ n) (f := C.fits) (fun p x v hp hv => C.fits_ok hp hv) h h2⟩
  · rw [A.beq_eq h]; exact hx
theorem fitsAll [Fs] {E : Env} {ρ : Nat → Rb} {n : Nat} {ps xs : List A} {vs : Array Value} (h : listB A.fits ps xs = true) (hx : F2 (Ar E ρ n) xs vs) : F2 (Ar E ρ n) ps vs := F2.fits (r := Ar E ρ n) (s := Ar E ρ n) (f := A.fits) (fun _ _ _ hp hv => A.fits_ok hp hv) h hx

/-! functions that only reckon -/
/-- A card: the arguments in letters 0 .. n - 1, what must hold of them, the result in letters 0 .. cnt - 1. -/
structure Pf where
  g : Nat
  n : Nat
  args : List A
  pre : Pc
  res : L
  cnt : Nat
def resE (E : Env) (g n cnt : Nat) : Env := ⟨fun i => if i < cnt then ((E.F g (letters E n))[i]?).getD default else default, E.F⟩
def IsFn (P : Program) (g : Nat) : Prop := ∃ fn, P.funcs[g]? = some fn ∧ fn.body.isSome = true ∧ (fn.name == "runtime.NumGoroutine") = false
def PfOk [Fs] (P : Program) (c : Pf) : Prop := IsFn P c.g ∧ ∀ (E : Env) (ρ : Nat → Rb) (N : Nat) (args : Array Value), E.F = Fs.F → pcOk E c.pre → F2 (Ar E ρ N) c.args args →
  ∃ v, (∀ ρ N, Lr (resE E c.g c.n c.cnt) ρ N c.res v) ∧ ∀ w, Calls P c.g args w fun e w' => e = .returned v ∧ RowKit.Below w.heap.size w w'
def resS (b cnt : Nat) : Sg := fun i lo hi => bif Nat.blt i cnt then .v (b + i) lo hi else .un (.cl lo hi) (.lit 0)
theorem resS_ok [Fs] {E E' : Env} {g n cnt b : Nat} (hF : E'.F = E.F) (h : ∀ k, k < cnt → E'.x (b + k) = ((E.F g (letters E n))[k]?).getD default) : SubOk (resE E g n cnt) E' (resS b cnt) := by
  refine ⟨hF, fun i lo hi => ?_, fun i lo hi j => ?_⟩
  · unfold resS resE
    cases hi' : Nat.blt i cnt
    · have : ¬ i < cnt := by rw [← Nat.blt_eq, hi']; exact Bool.false_ne_true
      simp only [cond_false, if_neg this]; rfl
    · rw [Nat.blt_eq] at hi'
      simp only [cond_true, if_pos hi', T.den, h i hi']
  · unfold resS resE
    cases hi' : Nat.blt i cnt
    · have : ¬ i < cnt := by rw [← Nat.blt_eq, hi']; exact Bool.false_ne_true
      simp only [cond_false, if_neg this]; rfl
    · rw [Nat.blt_eq] at hi'
      simp only [cond_true, if_pos hi', T.row, h i hi']
def useP (c : Pf) (pc : Pc) (k : Kn) (xs : List A) : Option SpR :=
  let mt := mAs c.args xs
  let σ := patS pc mt
  bif listB A.fits (c.args.map (·.sub σ id)) xs && c.args.all (·.blk 0) && sureAll pc σ c.pre then
    let ts := termsOf mt c.n []
    match findC c.g ts c.cnt k.ds with
    | some b => some ⟨c.res.sub (resS b c.cnt) id, pc, k⟩
    | none => bif pcBel k.nv pc && k.ds.all (·.bel k.nv) && ts.all (·.bel k.nv) then some ⟨c.res.sub (resS k.nv c.cnt) id, pc, ⟨.call k.nv c.g ts c.cnt :: k.ds, k.nv + c.cnt⟩⟩ else none
  else none
theorem useP_ok [Fs] {P : Program} {c : Pf} (hc : PfOk P c) {pc : Pc} {k : Kn} {xs : List A} {r : SpR} (h : useP c pc k xs = some r) (E : Env) (ρ : Nat → Rb) (n : Nat) (args : Array Value) (hF : E.F = Fs.F) (hp : pcOk E pc) (hd : ∀ d ∈ k.ds, d.ok E) (ha : F2 (Ar E ρ n) xs args) :
    IsFn P c.g ∧ ∃ v E', Agree E E' k.nv ∧ k.nv ≤ r.k.nv ∧ Lr E' ρ n r.l v ∧ pcOk E' r.pc ∧ (∀ d ∈ r.k.ds, d.ok E') ∧ ∀ w, Calls P c.g args w fun e w' => e = .returned v ∧ RowKit.Below w.heap.size w w' := by
  unfold useP at h
  dsimp only at h
  cases hq : listB A.fits (c.args.map (·.sub (patS pc (mAs c.args xs)) id)) xs && c.args.all (·.blk 0) && sureAll pc (patS pc (mAs c.args xs)) c.pre <;> simp only [hq, cond_true, cond_false] at h
  · cases h
  simp only [Bool.and_eq_true] at hq
  obtain ⟨⟨h1, h2⟩, h3⟩ := hq
  have hs := patS_ok hp (mAs c.args xs)
  replace ha := fitsAll h1 ha
  have hpat := F2A.unsub (n := 0) (ρ := ρ) hs (fun b hb => absurd hb (Nat.not_lt_zero _)) h2 ha
  obtain ⟨hfn, hcall⟩ := hc
  obtain ⟨v, hv, hw⟩ := hcall (patE E (mAs c.args xs)) ρ 0 args hF (sureAll_ok hp hs h3) hpat
  refine ⟨hfn, v, ?_⟩
  split at h
  · rename_i b hb
    cases h
    have hdef := findC_ok hd hb
    have hres : SubOk (resE (patE E (mAs c.args xs)) c.g c.n c.cnt) E (resS b c.cnt) := resS_ok (E := patE E (mAs c.args xs)) rfl fun j hj => by rw [hdef j hj, letters_pat]; rfl
    exact ⟨E, Agree.refl _ _, Nat.le_refl _, (hv ρ n).sub hres (β := id) (fun b hb => ⟨hb, rfl⟩), hp, hd, hw⟩
  · cases hbel : pcBel k.nv pc && k.ds.all (·.bel k.nv) && (termsOf (mAs c.args xs) c.n []).all (·.bel k.nv) <;> simp only [hbel, cond_true, cond_false] at h
    · cases h
    cases h
    simp only [Bool.and_eq_true] at hbel
    obtain ⟨⟨b1, b2⟩, b3⟩ := hbel
    have hag := ext_agree E (.call k.nv c.g (termsOf (mAs c.args xs) c.n []) c.cnt)
    have hdok := ext_ok (E := E) (d := .call k.nv c.g (termsOf (mAs c.args xs) c.n []) c.cnt) b3
    have hme : (termsOf (mAs c.args xs) c.n []).map (T.me ((Df.call k.nv c.g (termsOf (mAs c.args xs) c.n []) c.cnt).ext E)) = (termsOf (mAs c.args xs) c.n []).map (T.me E) := by
      rw [List.all_eq_true] at b3
      exact List.map_congr_left fun t ht => T.bel_me hag (b3 t ht)
    have hres : SubOk (resE (patE E (mAs c.args xs)) c.g c.n c.cnt) ((Df.call k.nv c.g (termsOf (mAs c.args xs) c.n []) c.cnt).ext E) (resS k.nv c.cnt) :=
      resS_ok (E := patE E (mAs c.args xs)) hag.F fun j hj => by rw [hdok j hj, hme, hag.F, letters_pat]; rfl
    refine ⟨_, hag, by simp, (hv ρ n).sub hres (β := id) (fun b hb => ⟨hb, rfl⟩), pcOk_agree hag b1 hp, fun d hd' => ?_, hw⟩
    · rcases List.mem_cons.1 hd' with rfl | hd'
      · exact hdok
      · rw [List.all_eq_true] at b2
        exact Df.ok_agree hag (b2 d hd') (hd d hd')
/-- A table of cards. -/
def lookP (g : Nat) : List Pf → Option Pf
  | [] => none
  | c :: r => bif Nat.beq g c.g then some c else lookP g r
theorem lookP_ok [Fs] {g : Nat} {c : Pf} : ∀ {l : List Pf}, lookP g l = some c → c ∈ l ∧ c.g = g := by
  intro l
  induction l with
  | nil => intro h; cases h
  | cons d r ih =>
    intro h
    simp only [lookP] at h
    cases hb : Nat.beq g d.g <;> simp only [hb, cond_true, cond_false] at h
    · exact ⟨List.mem_cons_of_mem _ (ih h).1, (ih h).2⟩
    · cases h; exact ⟨List.mem_cons_self, (Nat.eq_of_beq_eq_true hb).symm⟩
def spOf (l : List Pf) (g : Nat) (pc : Pc) (k : Kn) (xs : List A) : Option SpR := match lookP g l with
  | some c => useP c pc k xs
  | none => none
def AllP [Fs] (P : Program) : List Pf → Prop
  | [] => True
  | c :: r => PfOk P c ∧ AllP P r
theorem AllP.mem [Fs] {P : Program} : ∀ {l : List Pf}, AllP P l → ∀ c ∈ l, PfOk P c := by
  intro l
  induction l with
  | nil => intro _ c hc; cases hc
  | cons d r ih => intro h c hc; rcases List.mem_cons.1 hc with rfl | hc; exact h.1; exact ih h.2 c hc
theorem spOf_ok [Fs] {P : Program} {l : List Pf} (h : AllP P l) : SpOk P (spOf l) := by
  intro g pc k xs r hr E ρ n args hF hp hd ha
  unfold spOf at hr
  split at hr
  · rename_i c hc
    obtain ⟨h1, rfl⟩ := lookP_ok hc
    exact useP_ok (h.mem c h1) hr E ρ n args hF hp hd ha
  · cases hr
end Go.Sy
