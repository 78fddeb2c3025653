/- Part Zf4 of a checked reader of Go texts in their model form: it runs a function at terms in the place of numbers, and each part proves that its answers hold of the model. -/
import Derived.Test.YtgnfekfikifgiaaGreatWyZf1
namespace Go.E3
open Go.Sy
noncomputable section
variable {P : Program} {pc : Pc} {N : Nat}
/-! loops told piece by piece: so many rounds from one state to another one -/
def segF (f : Tri L → Tri B → Pt → Option Out) (n : Nat) : Tri L → Tri B → Pt → Option (Tri L × Tri B × Pt) :=
  Nat.rec (motive := fun _ => Tri L → Tri B → Pt → Option (Tri L × Tri B × Pt)) (fun s m nx => some (s, m, nx)) (fun _ ih s m nx => match f s m nx with
    | some ⟨.norm, s, m, nx⟩ => ih s m nx
    | _ => none) n
theorem segF_ok {x : Code} {f : Tri L → Tri B → Pt → Option Out} (hf : KOk P pc N x f) (k : Nat) : ∀ s m nx s' m' nx', segF f k s m nx = some (s', m', nx') → nx.num ≤ nx'.num ∧ ∀ (E : Env) (ρ : Pt → Rb) (D : Pt → Prop) (a : Act) (w : World) (Q : Exit → Act → World → Prop) (ds : List Deferred) (n : Nat), pcOk E pc → AR E ρ D N s a → a.defers = ds → MR E ρ D m w → (∀ b, Rg nx nx' b → ¬ D b) →
    (∀ ρ' a' w', Turn E ρ D m nx w ρ' m' nx' w' → AR E ρ' (Un D (Rg nx nx')) N s' a' → a'.defers = ds → Code.rounds P x Q n a' w') → Code.rounds P x Q (n + k) a w := by
  induction k with
  | zero =>
    intro s m nx s' m' nx' h
    cases h
    exact ⟨Nat.le_refl _, fun E ρ D a w Q ds n hp ha hd hm hfr hpost => hpost ρ a w (Turn.refl hm) (by rw [un_self]; exact ha) hd⟩
  | succ k ih =>
    intro s m nx s' m' nx' h
    change (match f s m nx with
      | some ⟨.norm, s, m, nx⟩ => segF f k s m nx
      | _ => none) = some (s', m', nx') at h
    split at h
    · rename_i s1 m1 nx1 h1
      obtain ⟨l1, q1⟩ := hf _ _ _ _ h1
      obtain ⟨l2, q2⟩ := ih _ _ _ _ _ _ h
      refine ⟨Nat.le_trans l1 l2, fun E ρ D a w Q ds n hp ha hd hm hfr hpost => ?_⟩
      refine q1 E ρ D a w _ ds hp ha hd hm (fresh1 hfr l2) fun ρ' a' w' hT ha' hd' => ?_
      refine q2 E ρ' _ a' w' Q ds n hp ha' hd' hT.mr (fresh2 hfr l1) fun ρ2 a2 w2 hT2 ha2 hd2 => ?_
      have e := un_rg (D := D) hT.le l2
      rw [e] at ha2
      exact hpost ρ2 a2 w2 (hT.trans hT2) ha2 hd2
    · cases h
/-- Slots by their numbers. -/
def slotsT : List Nat → List L → Tri L
  | i :: is, l :: ls => (slotsT is ls).put (path i) (some l)
  | _, _ => .e
theorem slotsT_get : ∀ {is : List Nat} {ls : List L} {t : Nat} {l : L}, (slotsT is ls).get (path t) = some l → ∃ j : Nat, is[j]? = some t ∧ ls[j]? = some l := by
  intro is
  induction is with
  | nil => intro ls t l h; change (Tri.e : Tri L).get _ = _ at h; rw [Tri.get_e] at h; cases h
  | cons i is ih =>
    intro ls t l h
    cases ls with
    | nil => change (Tri.e : Tri L).get _ = _ at h; rw [Tri.get_e] at h; cases h
    | cons l0 ls =>
      simp only [slotsT] at h
      rw [Tri.get_put] at h
      split at h
      · rename_i e
        cases h
        exact ⟨0, by rw [path_inj e]; rfl, rfl⟩
      · obtain ⟨j, h1, h2⟩ := ih h
        exact ⟨j + 1, by simpa using h1, by simpa using h2⟩
def getA (s : Tri L) : List Nat → Option (List A)
  | [] => some []
  | i :: is => match s.get (path i) with
    | some (.a x) => match getA s is with
      | some xs => some (x :: xs)
      | none => none
    | _ => none
theorem getA_get {s : Tri L} : ∀ {is : List Nat} {xs : List A}, getA s is = some xs → is.length = xs.length ∧ ∀ (j i : Nat) (x : A), is[j]? = some i → xs[j]? = some x → s.get (path i) = some (.a x) := by
  intro is
  induction is with
  | nil => intro xs h; cases h; exact ⟨rfl, fun j i x h => by simp at h⟩
  | cons i is ih =>
    intro xs h
    simp only [getA] at h
    split at h
    · rename_i x0 h0
      split at h
      · rename_i xs0 h1
        cases h
        obtain ⟨g1, g2⟩ := ih h1
        refine ⟨by simp [g1], fun j i' x hi hx => ?_⟩
        cases j with
        | zero => simp at hi hx; subst hi; subst hx; exact h0
        | succ j => exact g2 j i' x (by simpa using hi) (by simpa using hx)
      · cases h
    · cases h
/-- A told piece: 'c.as' the slots ahead, 'c.l' those behind. -/
structure Lg where
  k : Nat
  ids : List Nat
  c : Tc
def Lg.out (g : Lg) : List L := match g.c.l with
  | .tup xs => xs.map .a
  | _ => []
def LgOk (P : Program) (pc : Pc) (N : Nat) (x : Code) (g : Lg) : Prop := g.c.nx.num ≤ g.c.nx'.num ∧ ∀ (E : Env) (ρ : Pt → Rb) (D : Pt → Prop) (m : Tri B) (a : Act) (w : World) (Q : Exit → Act → World → Prop) (ds : List Deferred) (n : Nat), pcOk E pc → AR E ρ D N (slotsT g.ids g.c.as) a → a.defers = ds → MR E ρ D m w → (∀ p ∈ g.c.pre, D p.1 ∧ m.get p.1 = some p.2) → (∀ b, Rg g.c.nx g.c.nx' b → ¬ D b) →
  (∀ ρ' a' w', Turn E ρ D m g.c.nx w ρ' (putsB g.c.post m) g.c.nx' w' → AR E ρ' (Un D (Rg g.c.nx g.c.nx')) N (slotsT g.ids g.out) a' → a'.defers = ds → Code.rounds P x Q n a' w') → Code.rounds P x Q (n + g.k) a w
theorem LgOk.of {x : Code} {f : Tri L → Tri B → Pt → Option Out} (hf : KOk P pc N x f) {g : Lg} {s0 : Tri L} {m0 : Tri B} {nx0 : Pt} (hr : segF f g.k (slotsT g.ids g.c.as) (triB g.c.pre) g.c.nx = some (s0, m0, nx0)) {xs : List A} (hx : getA s0 g.ids = some xs) (hle : g.c.nx.num ≤ g.c.nx'.num)
    (hlow : ∀ b ∈ g.c.pre.map Prod.fst, b.num < g.c.nx.num) (has : ∀ l ∈ g.c.as, ∀ b ∈ l.ptrs, b ∈ g.c.pre.map Prod.fst) (hpre : ∀ p ∈ g.c.pre, ∀ b ∈ p.2.ptrs, b ∈ g.c.pre.map Prod.fst)
    {news : List Pt} (hres : ResOk g.c (.ret (.tup xs) m0 nx0) news (.tup xs) m0 nx0) : LgOk P pc N x g := by
  obtain ⟨l1, q1⟩ := segF_ok hf g.k _ _ _ _ _ _ hr
  refine ⟨hle, fun E ρ D m a w Q ds n hp ha hd hm hD hfr hpost => ?_⟩
  have hDi : ∀ b ∈ g.c.pre.map Prod.fst, D b := fun b hb => by
    obtain ⟨p, h1, rfl⟩ := List.mem_map.1 hb
    exact (hD p h1).1
  have mv : ∀ b, b ∈ g.c.pre.map Prod.fst → (D b ∧ b ∈ g.c.pre.map Prod.fst) ∧ ρ b = ρ b := fun b hb => ⟨⟨hDi b hb, hb⟩, rfl⟩
  have mrf : MR E ρ (fun b => D b ∧ b ∈ g.c.pre.map Prod.fst) (triB g.c.pre) w :=
    ⟨hm.gl.sub rfl fun b hb => ⟨hb.1, rfl⟩, fun b x hb hx => BR.move (hm.mem b x hb.1 (hD _ (triB_get hx)).2) fun b' hb' => mv b' (hpre _ (triB_get hx) b' hb'),
      fun b b' x x' d d' h h' hg => hm.inj b b' x x' d.1 d'.1 (hD _ (triB_get h)).2 (hD _ (triB_get h')).2 hg⟩
  have arf : AR E ρ (fun b => D b ∧ b ∈ g.c.pre.map Prod.fst) N (slotsT g.ids g.c.as) a := by
    refine ⟨fun t l hl => ?_, ha.sz⟩
    obtain ⟨h1, h2⟩ := ha.sr t l hl
    obtain ⟨j, _, h4⟩ := slotsT_get hl
    exact ⟨(L.move h1 fun b hb => mv b (has l (List.mem_of_getElem? h4) b hb)).1, h2⟩
  refine q1 E ρ (fun b => D b ∧ b ∈ g.c.pre.map Prod.fst) a w Q ds n hp arf hd mrf (fun b hb hd => by have := hlow b hd.2; have := hb.1; omega) fun ρ1 a' w' hT ha' hd' => ?_
  obtain ⟨g1, g2⟩ := getA_get hx
  have ho : (L.tup xs).ok E ρ1 (Un (fun b => D b ∧ b ∈ g.c.pre.map Prod.fst) (Rg g.c.nx nx0)) := fun y hy => by
    obtain ⟨j, hj, hy'⟩ := List.mem_iff_getElem.1 hy
    have hj' : j < g.ids.length := by omega
    have := g2 j _ y (List.getElem?_eq_getElem hj') (by rw [List.getElem?_eq_getElem hj, hy'])
    exact (ha'.sr _ _ this).1
  obtain ⟨ρ', h1, h2, h3⟩ := hres.turn hm hD hfr hle ho hT
  refine hpost ρ' a' w' h3 ⟨fun t l hl => ?_, ha'.sz⟩ hd'
  obtain ⟨j, h4, h5⟩ := slotsT_get hl
  unfold Lg.out at h5
  split at h5
  · rename_i ys hys
    rw [hys] at h1 h2
    rw [List.getElem?_map] at h5
    obtain ⟨y, hy, rfl⟩ := Option.map_eq_some_iff.1 h5
    have hlen : xs.length = ys.length := by
      have := congrArg (fun v : Value => match v with | .tuple l => l.size | _ => 0) h1
      simpa [L.val] using this
    have hjx : j < xs.length := by rw [hlen]; exact (List.getElem?_eq_some_iff.1 hy).1
    have h6 := g2 j t _ h4 (List.getElem?_eq_getElem hjx)
    have h7 := (ha'.sr _ _ h6).2
    refine ⟨h2 y (List.mem_of_getElem? hy), ?_⟩
    rw [h7]
    have h8 : (xs[j]).val E ρ1 = y.val E ρ' := by
      have := congrArg (fun v : Value => match v with | .tuple l => l[j]? | _ => none) h1
      simpa [L.val, List.getElem?_eq_getElem hjx, hy] using this
    show some ((xs[j]).val E ρ1) = some (y.val E ρ')
    rw [h8]
  · simp at h5
/-- Told pieces, asked by numbers, slots, and what they see. -/
def eqSl (s : Tri L) : List Nat → List L → Bool
  | [], [] => true
  | i :: is, l :: ls => (match s.get (path i) with
    | some x => L.eqb x l
    | none => false) && eqSl s is ls
  | _, _ => false
theorem eqSl_ok {s : Tri L} : ∀ {is : List Nat} {ls : List L}, eqSl s is ls = true → ∀ (j i : Nat) (l : L), is[j]? = some i → ls[j]? = some l → s.get (path i) = some l := by
  intro is
  induction is with
  | nil => intro ls h j i l hi; simp at hi
  | cons i0 is ih =>
    intro ls h j i l hi hl
    cases ls with
    | nil => cases h
    | cons l0 ls =>
      simp only [eqSl, Bool.and_eq_true] at h
      cases j with
      | zero =>
        simp at hi hl
        subst hi; subst hl
        have h1 := h.1
        split at h1
        · rename_i x hx; rw [hx, L.eqb_eq h1]
        · cases h1
      | succ j => exact ih h.2 j i l (by simpa using hi) (by simpa using hl)
abbrev Jm := Tri L → Tri B → Pt → Option (Nat × Tri L × Tri B × Pt)
def jmG (pc : Pc) : List (Pc × Lg) → Jm
  | [], _, _, _ => none
  | p :: r, s, m, nx => bif p.2.c.nx.beq nx && eqSl s p.2.ids p.2.c.as && seesB m p.2.c.pre && impB pc p.1 then some (p.2.k, slotsT p.2.ids p.2.out, putsB p.2.c.post m, p.2.c.nx') else jmG pc r s m nx
def JmOk (P : Program) (pc : Pc) (N : Nat) (x : Code) (j : Jm) : Prop := ∀ s m nx k s' m' nx', j s m nx = some (k, s', m', nx') → nx.num ≤ nx'.num ∧ ∀ (E : Env) (ρ : Pt → Rb) (D : Pt → Prop) (a : Act) (w : World) (Q : Exit → Act → World → Prop) (ds : List Deferred) (n : Nat), pcOk E pc → AR E ρ D N s a → a.defers = ds → MR E ρ D m w → (∀ b, Rg nx nx' b → ¬ D b) →
  (∀ ρ' a' w', Turn E ρ D m nx w ρ' m' nx' w' → AR E ρ' (Un D (Rg nx nx')) N s' a' → a'.defers = ds → Code.rounds P x Q n a' w') → Code.rounds P x Q (n + k) a w
theorem jmG_ok {x : Code} : ∀ {tab : List (Pc × Lg)}, (∀ p ∈ tab, LgOk P p.1 N x p.2 ∧ reachB (p.2.c.as.flatMap L.outs) p.2.c.pre = true) → JmOk P pc N x (jmG pc tab) := by
  intro tab
  induction tab with
  | nil => intro _ s m nx k s' m' nx' h; cases h
  | cons p tab ih =>
    intro ht s m nx k s' m' nx' h
    simp only [jmG] at h
    cases hq : p.2.c.nx.beq nx && eqSl s p.2.ids p.2.c.as && seesB m p.2.c.pre && impB pc p.1 <;> simp only [hq, cond_true, cond_false] at h
    · exact ih (fun c' hc' => ht c' (List.mem_cons_of_mem _ hc')) s m nx k s' m' nx' h
    · cases h
      simp only [Bool.and_eq_true] at hq
      obtain ⟨⟨⟨h1, h2⟩, h3⟩, h4⟩ := hq
      have h1 := Pt.beq_iff.1 h1
      subst h1
      obtain ⟨⟨q1, q2⟩, q3⟩ := ht p List.mem_cons_self
      refine ⟨q1, fun E ρ D a w Q ds n hp ha hd hm hfr hpost => ?_⟩
      have hsl := eqSl_ok h2
      have ha' : AR E ρ D N (slotsT p.2.ids p.2.c.as) a := by
        refine ⟨fun t l hl => ?_, ha.sz⟩
        obtain ⟨j, g1, g2⟩ := slotsT_get hl
        exact ha.sr t l (hsl j t l g1 g2)
      have hlen : ∀ {is : List Nat} {ls : List L}, eqSl s is ls = true → is.length = ls.length := by
        intro is
        induction is with
        | nil => intro ls h; cases ls with
          | nil => rfl
          | cons _ _ => cases h
        | cons i is ih => intro ls h; cases ls with
          | nil => cases h
          | cons l ls => simp only [eqSl, Bool.and_eq_true] at h; simp [ih h.2]
      have hsee := seesB_ok h3
      have hD := reachB_ok hm q3 (fun b hb => by
        obtain ⟨l, h5, h6⟩ := List.mem_flatMap.1 hb
        obtain ⟨j, hj, rfl⟩ := List.mem_iff_getElem.1 h5
        have hj' : j < p.2.ids.length := by rw [hlen h2]; exact hj
        exact L.outs_D (ha.sr _ _ (hsl j _ _ (List.getElem?_eq_getElem hj') (List.getElem?_eq_getElem hj))).1 b h6) hsee
      exact q2 E ρ D m a w Q ds n (impB_ok hp h4) ha' hd hm (fun p hp => ⟨hD p hp, hsee p hp⟩) hfr hpost
/-- A loop with told pieces; how many rounds it took. -/
def loopJ (j : Jm) (f : Tri L → Tri B → Pt → Option Out) (n : Nat) : Tri L → Tri B → Pt → Option (Nat × Out) :=
  Nat.rec (motive := fun _ => Tri L → Tri B → Pt → Option (Nat × Out)) (fun _ _ _ => none) (fun _ ih s m nx => match j s m nx with
    | some (k, s', m', nx') => match ih s' m' nx' with
      | some (c, o) => some (Nat.add c k, o)
      | none => none
    | none => match f s m nx with
      | some ⟨.norm, s, m, nx⟩ => match ih s m nx with
        | some (c, o) => some (Nat.succ c, o)
        | none => none
      | some x => some (1, x)
      | none => none) n
theorem loopJ_ok {x : Code} {j : Jm} {f : Tri L → Tri B → Pt → Option Out} (hj : JmOk P pc N x j) (hf : KOk P pc N x f) (n : Nat) : ∀ s m nx c r, loopJ j f n s m nx = some (c, r) → nx.num ≤ r.nx.num ∧ ∀ (E : Env) (ρ : Pt → Rb) (D : Pt → Prop) (a : Act) (w : World) (Q : Exit → Act → World → Prop) (ds : List Deferred), pcOk E pc → AR E ρ D N s a → a.defers = ds → MR E ρ D m w → (∀ b, Rg nx r.nx b → ¬ D b) →
    r.post E ρ D N ds m nx w Q → Code.rounds P x Q c a w := by
  induction n with
  | zero => intro s m nx c r h; cases h
  | succ n ih =>
    intro s m nx c r h
    change (match j s m nx with
      | some (k, s', m', nx') => match loopJ j f n s' m' nx' with
        | some (c, o) => some (Nat.add c k, o)
        | none => none
      | none => match f s m nx with
        | some ⟨.norm, s, m, nx⟩ => match loopJ j f n s m nx with
          | some (c, o) => some (Nat.succ c, o)
          | none => none
        | some x => some (1, x)
        | none => none) = some (c, r) at h
    split at h
    · rename_i k s1 m1 nx1 h1
      split at h
      · rename_i c1 o1 h2
        cases h
        obtain ⟨l1, q1⟩ := hj _ _ _ _ _ _ _ h1
        obtain ⟨l2, q2⟩ := ih _ _ _ _ _ h2
        refine ⟨Nat.le_trans l1 l2, fun E ρ D a w Q ds hp ha hd hm hfr hpost => ?_⟩
        exact q1 E ρ D a w Q ds c1 hp ha hd hm (fresh1 hfr l2) fun ρ' a' w' hT ha' hd' => q2 E ρ' _ a' w' Q ds hp ha' hd' hT.mr (fresh2 hfr l1) (Out.post_step hpost hT l2)
      · cases h
    · split at h
      · rename_i s1 m1 nx1 h1
        split at h
        · rename_i c1 o1 h2
          cases h
          obtain ⟨l1, q1⟩ := hf _ _ _ _ h1
          obtain ⟨l2, q2⟩ := ih _ _ _ _ _ h2
          refine ⟨Nat.le_trans l1 l2, fun E ρ D a w Q ds hp ha hd hm hfr hpost => q1 E ρ D a w _ ds hp ha hd hm (fresh1 hfr l2) fun ρ' a' w' hT ha' hd' => ?_⟩
          exact q2 E ρ' _ a' w' Q ds hp ha' hd' hT.mr (fresh2 hfr l1) (Out.post_step hpost hT l2)
        · cases h
      · rename_i z hz h1
        cases h
        obtain ⟨l1, q1⟩ := hf _ _ _ _ h1
        refine ⟨l1, fun E ρ D a w Q ds hp ha hd hm hfr hpost => q1 E ρ D a w _ ds hp ha hd hm hfr (post_then (fun e => ?_) hpost)⟩
        obtain ⟨e', s', m', nx'⟩ := r
        simp only at e
        subst e
        exact hz _ _ _ rfl
      · cases h
end
end Go.E3
namespace Go.E3
open Go.Sy
noncomputable section
variable {P : Program} {pc : Pc} {N : Nat}
/-! functions with a loop that is told piece by piece; the way to it through the function's code -/
def loopAt : List Bool → Code → Option Code
  | p, .block _ x => loopAt p x
  | false :: p, .seq x _ => loopAt p x
  | true :: p, .seq _ y => loopAt p y
  | false :: p, .cond _ x _ => loopAt p x
  | true :: p, .cond _ _ y => loopAt p y
  | [], .loop x => some x
  | _, _ => none
def exKP (P : Program) (run : Run) (pc : Pc) (N : Nat) (j : Jm) : List Bool → Code → Tri L → Tri B → Pt → Option Out
  | p, .block id x, s, m, nx => match exKP P run pc N j p x s m nx with
    | some ⟨.exit id', s, m, nx⟩ => bif Nat.beq id' id then some ⟨.norm, s, m, nx⟩ else some ⟨.exit id', s, m, nx⟩
    | x => x
  | false :: p, .seq x y, s, m, nx => match exKP P run pc N j p x s m nx with
    | some ⟨.norm, s, m, nx⟩ => exK P run pc N y s m nx
    | x => x
  | true :: p, .seq x y, s, m, nx => match exK P run pc N x s m nx with
    | some ⟨.norm, s, m, nx⟩ => exKP P run pc N j p y s m nx
    | x => x
  | false :: p, .cond c x y, s, m, nx => match opC pc s c with
    | some (.bool t) => match dec pc t with
      | some true => exKP P run pc N j p x s m nx
      | some false => exK P run pc N y s m nx
      | none => none
    | _ => none
  | true :: p, .cond c x y, s, m, nx => match opC pc s c with
    | some (.bool t) => match dec pc t with
      | some true => exK P run pc N x s m nx
      | some false => exKP P run pc N j p y s m nx
      | none => none
    | _ => none
  | [], .loop x, s, m, nx => match loopJ j (exK P run pc N x) 1000000 s m nx with
    | some (_, o) => some o
    | none => none
  | _, c, s, m, nx => exK P run pc N c s m nx
section
variable {run : Run} {j : Jm}
theorem cond_okP {c : Operand} {x y : Code} {f g : Tri L → Tri B → Pt → Option Out} (hf : KOk P pc N x f) (hg : KOk P pc N y g) : KOk P pc N (.cond c x y) (fun s m nx => match opC pc s c with
    | some (.bool t) => match dec pc t with
      | some true => f s m nx
      | some false => g s m nx
      | none => none
    | _ => none) := by
  intro s m nx r h
  simp only at h
  split at h
  · rename_i t hc
    have hev : ∀ (E : Env) (ρ : Pt → Rb) (D : Pt → Prop) (a : Act) (b : Bool), dec pc t = some b → pcOk E pc → AR E ρ D N s a → a.eval c = .bool b := fun E ρ D a b hb hp ha => by
      have := (opC_ok hp (ha.sr.ops [c]) List.mem_cons_self hc).2
      rw [this, ← dec_ok hp hb]; rfl
    split at h
    · rename_i hd
      obtain ⟨r1, r3⟩ := hf _ _ _ _ h
      exact ⟨r1, fun E ρ D a w Q ds hp ha hd' hm hfr hpost => wp_cond_true (hev E ρ D a _ hd hp ha) (r3 E ρ D a w Q ds hp ha hd' hm hfr hpost)⟩
    · rename_i hd
      obtain ⟨r1, r3⟩ := hg _ _ _ _ h
      exact ⟨r1, fun E ρ D a w Q ds hp ha hd' hm hfr hpost => wp_cond_false (hev E ρ D a _ hd hp ha) (r3 E ρ D a w Q ds hp ha hd' hm hfr hpost)⟩
    · cases h
  · cases h
theorem exKP_ok (hrun : CallOk P pc run) : ∀ (c : Code) (p : List Bool), (∀ x, loopAt p c = some x → JmOk P pc N x j) → KOk P pc N c (exKP P run pc N j p c) := by
  have pl : ∀ c, KOk P pc N c (exK P run pc N c) := fun c => exK_ok hrun (draw_ok hrun) c
  intro c
  induction c with
  | seq x y ihx ihy =>
    intro p h
    match p with
    | [] => exact pl _
    | false :: p => exact seq_ok (ihx p fun z hz => h z hz) (pl y)
    | true :: p => exact seq_ok (pl x) (ihy p fun z hz => h z hz)
  | cond c x y ihx ihy =>
    intro p h
    match p with
    | [] => exact pl _
    | false :: p => exact cond_okP (ihx p fun z hz => h z hz) (pl y)
    | true :: p => exact cond_okP (pl x) (ihy p fun z hz => h z hz)
  | block id x ih =>
    intro p h
    have hh : ∀ z, loopAt p x = some z → JmOk P pc N z j := fun z hz => h z (by rw [← hz]; cases p <;> rfl)
    have := block_ok (id := id) (ih p hh)
    have e : exKP P run pc N j p (.block id x) = (fun s m nx => match exKP P run pc N j p x s m nx with
      | some ⟨.exit id', s, m, nx⟩ => bif Nat.beq id' id then some ⟨.norm, s, m, nx⟩ else some ⟨.exit id', s, m, nx⟩
      | x => x) := by cases p <;> rfl
    rw [e]; exact this
  | loop x ih =>
    intro p h
    match p with
    | [] =>
      intro s m nx r hr
      change (match loopJ j (exK P run pc N x) 1000000 s m nx with
        | some (_, o) => some o
        | none => none) = some r at hr
      split at hr
      · rename_i k o ho
        cases hr
        obtain ⟨l1, q1⟩ := loopJ_ok (h x rfl) (pl x) _ _ _ _ _ _ ho
        exact ⟨l1, fun E ρ D a w Q ds hp ha hd hm hfr hpost => wp_loop_rounds _ (q1 E ρ D a w Q ds hp ha hd hm hfr hpost)⟩
      · cases hr
    | _ :: _ => exact pl _
  | skip => intro p h; cases p with | nil => exact pl _ | cons b _ => cases b <;> exact pl _
  | region => intro p h; cases p with | nil => exact pl _ | cons b _ => cases b <;> exact pl _
  | exit => intro p h; cases p with | nil => exact pl _ | cons b _ => cases b <;> exact pl _
  | ret => intro p h; cases p with | nil => exact pl _ | cons b _ => cases b <;> exact pl _
  | rangeFunc => intro p h; cases p with | nil => exact pl _ | cons b _ => cases b <;> exact pl _
  | scope => intro p h; cases p with | nil => exact pl _ | cons b _ => cases b <;> exact pl _
  | label => intro p h; cases p with | nil => exact pl _ | cons b _ => cases b <;> exact pl _
  | goto => intro p h; cases p with | nil => exact pl _ | cons b _ => cases b <;> exact pl _
  | refuse => intro p h; cases p with | nil => exact pl _ | cons b _ => cases b <;> exact pl _
/-- A function with such a loop. -/
def runP (P : Program) (run : Run) (pc : Pc) (g0 : Nat) (path : List Bool) (j : Jm) : Run := fun g as m nx => bif Nat.beq g g0 then match funF P g0 with
    | some fn => match fn.body with
      | some body => bif fn.name == "runtime.NumGoroutine" then none else iniT as .e 0 fun s => match exKP P run pc fn.ntmps j path body s m nx with
        | some ⟨.pan c, _, m, nx⟩ => some (.pan c m nx)
        | some ⟨.exit _, _, _, _⟩ => none
        | some ⟨_, s, m, nx⟩ => match resL P s m fn.results.toList with
          | some l => fcV l fun l => some (.ret l m nx)
          | none => none
        | none => none
      | none => none
    | none => none
  else none
/-- The loop of a function, the number of its slots. -/
def LoopIn (P : Program) (g0 : Nat) (path : List Bool) (N : Nat) (x : Code) : Prop := ∃ fn body, P.funcs[g0]? = some fn ∧ fn.body = some body ∧ fn.ntmps = N ∧ loopAt path body = some x
theorem runP_ok (hrun : CallOk P pc run) {g0 : Nat} {path : List Bool} (hj : ∀ N x, LoopIn P g0 path N x → JmOk P pc N x j) : CallOk P pc (runP P run pc g0 path j) := by
  intro g as m nx r h
  unfold runP at h
  cases hg : Nat.beq g g0 <;> simp only [hg, cond_true, cond_false] at h
  · cases h
  have hg := Nat.eq_of_beq_eq_true hg
  subst hg
  rw [funF_eq] at h
  split at h
  · rename_i fn hf
    split at h
    · rename_i body hb
      cases hn : fn.name == "runtime.NumGoroutine" <;> simp only [hn, cond_true, cond_false] at h
      · have hn' : fn.name ≠ "runtime.NumGoroutine" := by simpa using hn
        rw [iniT_eq] at h
        simp only [fcV_eq] at h
        have hK := exKP_ok (N := fn.ntmps) hrun body path fun x hx => hj _ x ⟨fn, body, hf, hb, rfl, hx⟩
        split at h
        · rename_i c s' m' nx' hk
          cases h
          obtain ⟨l1, q1⟩ := hK _ _ _ _ hk
          refine ⟨l1, fun E ρ D w hp has hm hfr => ⟨⟨fn, body, hf, hb, hn'⟩, calls_of_wp hf hb (q1 E ρ D _ w _ [] hp (ini_ok has _ _) rfl hm hfr fun ρ' a' w' hT ha hd hc => ⟨hd, ρ', rfl, hc, hT⟩)⟩⟩
        · cases h
        · rename_i e s' m' nx' hne hne2 hk
          split at h
          · rename_i l hl
            cases h
            obtain ⟨l1, q1⟩ := hK _ _ _ _ hk
            refine ⟨l1, fun E ρ D w hp has hm hfr => ⟨⟨fn, body, hf, hb, hn'⟩, calls_of_wp hf hb (q1 E ρ D _ w _ [] hp (ini_ok has _ _) rfl hm hfr fun ρ' a' w' hT ha hd => ?_)⟩⟩
            obtain ⟨h1, h2⟩ := resL_ok ha.sr hT.mr hl
            cases e with
            | norm => exact ⟨hd, _, h1, ρ', rfl, h2, hT⟩
            | ret => exact ⟨hd, _, h1, ρ', rfl, h2, hT⟩
            | exit id => exact (hne2 _ rfl).elim
            | pan c => exact (hne _ rfl).elim
          · cases h
        · cases h
      · cases h
    · cases h
  · cases h
/-- A told piece of a function's loop. -/
def LgIn (P : Program) (pc : Pc) (g0 : Nat) (path : List Bool) (g : Lg) : Prop := ∀ N x, LoopIn P g0 path N x → LgOk P pc N x g
def lgB (P : Program) (run : Run) (pc : Pc) (g0 : Nat) (path : List Bool) (g : Lg) (news : List Pt) : Bool := match funF P g0 with
  | some fn => match fn.body with
    | some body => match loopAt path body with
      | some x => match segF (exK P run pc fn.ntmps x) g.k (slotsT g.ids g.c.as) (triB g.c.pre) g.c.nx with
        | some (s0, m0, nx0) => match getA s0 g.ids with
          | some xs => Nat.ble g.c.nx.num g.c.nx'.num && ((g.c.pre.map Prod.fst).all fun b => Nat.blt b.num g.c.nx.num) && (g.c.as.all fun l => allIn l.ptrs (g.c.pre.map Prod.fst)) && (g.c.pre.all fun p => allIn p.2.ptrs (g.c.pre.map Prod.fst)) && allIn (g.c.pre.map Prod.fst) (g.c.post.map Prod.fst) && resB g.c [.ret (.tup xs) m0 nx0] [news]
          | none => false
        | none => false
      | none => false
    | none => false
  | none => false
theorem LgIn.ofB (hrun : CallOk P pc run) {g0 : Nat} {path : List Bool} {g : Lg} (news : List Pt) (h : lgB P run pc g0 path g news = true) : LgIn P pc g0 path g := by
  intro N x ⟨fn, body, hf, hb, hN, hx⟩
  unfold lgB at h
  rw [funF_eq, hf] at h
  simp only [hb, hx] at h
  split at h
  · rename_i s0 m0 nx0 hr
    split at h
    · rename_i xs hxs
      simp only [Bool.and_eq_true, List.all_eq_true, Nat.blt] at h
      obtain ⟨⟨⟨⟨⟨h0, h3⟩, h4⟩, h5⟩, h7⟩, h9⟩ := h
      obtain ⟨news', l0, m1, nx1, hR⟩ := resB_ok (fun b hb => allIn_ok h7 b hb) h9 _ List.mem_cons_self
      have e := hR.1
      cases e
      subst hN
      exact LgOk.of (exK_ok hrun (draw_ok hrun) x) hr hxs (Nat.le_of_ble_eq_true h0) (fun b hb => Nat.le_of_ble_eq_true (h3 b hb)) (fun l hl b hb => allIn_ok (h4 l hl) b hb) (fun p hp b hb => allIn_ok (h5 p hp) b hb) hR
    · cases h
  · cases h
theorem jmIn_ok {g0 : Nat} {path : List Bool} {tab : List (Pc × Lg)} (h : ∀ p ∈ tab, LgIn P p.1 g0 path p.2 ∧ reachB (p.2.c.as.flatMap L.outs) p.2.c.pre = true) : ∀ N x, LoopIn P g0 path N x → JmOk P pc N x (jmG pc tab) := fun N x hx => jmG_ok fun p hp => ⟨(h p hp).1 N x hx, (h p hp).2⟩
end
end
end Go.E3
