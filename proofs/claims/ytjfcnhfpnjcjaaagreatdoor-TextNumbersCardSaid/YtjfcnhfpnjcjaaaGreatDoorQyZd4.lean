/- Part Zd4 of a checked reader of Go texts in their model form: it runs a function at terms in the place of numbers, and each part proves that its answers hold of the model. -/
import Derived.Test.YtjfcnhfpnjcjaaaGreatDoorQyZd1
import Derived.Below
import Derived.Test.YtjfcnhfpnjcjaaaGreatDoorQyZa12
namespace Go.E3
open Go.Sy
noncomputable section
variable {P : Program}

/-! a pattern's letters, by a call's arguments -/
def inIv (pc : Pc) (lo hi : Int) (a : T) : Bool := match a with
  | .lit k => not (ltF k lo) && not (ltF hi k)
  | a => (rngP pc a).within lo hi
theorem inIv_ok {E : Env} {pc : Pc} (hp : pcOk E pc) {lo hi : Int} {a : T} (h : inIv pc lo hi a = true) : lo ≤ a.den E ∧ a.den E ≤ hi := by
  unfold inIv at h
  split at h
  · rename_i k
    simp only [Bool.and_eq_true, Bool.not_eq_true', ltF_eq, ltb_f] at h
    exact h
  · exact Iv.within_has h (rngP_has a hp)
def Ext (σ σ' : Sg) : Prop := ∃ l, σ' = σ ++ l
theorem Ext.refl (σ : Sg) : Ext σ σ := ⟨[], (List.append_nil σ).symm⟩
theorem Ext.trans {a b c : Sg} (h : Ext a b) (h' : Ext b c) : Ext a c := by
  obtain ⟨l, rfl⟩ := h; obtain ⟨l', rfl⟩ := h'; exact ⟨l ++ l', List.append_assoc _ _ _⟩
/-- What is said of letters told so far, 'σ' all of them. -/
def mT (pc : Pc) : T → T → Sg → Option Sg
  | .v i lo hi, a, σ => bif Nat.beq i σ.length then (bif inIv pc lo hi a then some (σ ++ [⟨lo, hi, a⟩]) else none) else match σ.at i with
    | some s => bif s.t.beq a && inIv pc lo hi a then some σ else none
    | none => none
  | .lit m, a, σ => match a with
    | .lit k => bif eqF m k then some σ else none
    | _ => none
  | .un o p, a, σ => match a with
    | .un o' a' => bif decide (o = o') then mT pc p a' σ else none
    | _ => none
  | .bin o p q, a, σ => match a with
    | .bin o' a' b' => bif decide (o = o') then (match mT pc p a' σ with
      | some σ' => mT pc q b' σ'
      | none => none) else none
    | _ => none
  | _, _, _ => none
theorem mT_ok {E : Env} {pc : Pc} (hp : pcOk E pc) {p : T} : ∀ {a : T} {σ σ' : Sg}, mT pc p a σ = some σ' → Ext σ σ' ∧ (SgOk E σ → SgOk E σ') ∧ ∀ τ, Ext σ' τ → p.den (envS E τ) = a.den E := by
  induction p with
  | v i lo hi =>
    intro a σ σ' h
    simp only [mT] at h
    cases hi0 : Nat.beq i σ.length <;> simp only [hi0, cond_true, cond_false] at h
    · split at h
      · rename_i s hs
        cases hc : s.t.beq a && inIv pc lo hi a <;> rw [hc] at h
        · cases h
        · cases h
          rw [Bool.and_eq_true] at hc
          have he := T.beq_eq hc.1
          have hr := inIv_ok hp hc.2
          rw [Sg.at_eq] at hs
          refine ⟨Ext.refl _, id, fun τ ht => ?_⟩
          obtain ⟨l, rfl⟩ := ht
          have hlt := (List.getElem?_eq_some_iff.1 hs).1
          simp only [T.den, envS, List.getElem?_append_left hlt, hs, he]
          exact clamp_id hr
      · cases h
    · cases hc : inIv pc lo hi a <;> rw [hc] at h
      · cases h
      · cases h
        have hi' := Nat.eq_of_beq_eq_true hi0
        have hr := inIv_ok hp hc
        refine ⟨⟨_, rfl⟩, fun hs s hs' => ?_, fun τ ht => ?_⟩
        · rcases List.mem_append.1 hs' with hs' | hs'
          · exact hs s hs'
          · rw [List.mem_singleton] at hs'; subst hs'; exact hr
        · obtain ⟨l, rfl⟩ := ht
          simp only [T.den, envS, hi', List.append_assoc, List.getElem?_append_right (Nat.le_refl _), Nat.sub_self]
          exact clamp_id hr
  | lit m =>
    intro a σ σ' h
    simp only [mT] at h
    split at h
    · rename_i k
      cases hc : eqF m k <;> rw [hc] at h
      · cases h
      · cases h
        rw [eqF_eq, beq_iff_eq] at hc
        exact ⟨Ext.refl _, id, fun _ _ => hc⟩
    · cases h
  | un o p ih =>
    intro a σ σ' h
    simp only [mT] at h
    split at h
    · rename_i o' a'
      cases hc : decide (o = o') <;> rw [hc] at h
      · cases h
      · rw [decide_eq_true_eq] at hc
        subst hc
        obtain ⟨e1, s1, d1⟩ := ih h
        exact ⟨e1, s1, fun τ ht => by simp only [T.den, d1 τ ht]⟩
    · cases h
  | bin o p q ihp ihq =>
    intro a σ σ' h
    simp only [mT] at h
    split at h
    · rename_i o' a' b'
      cases hc : decide (o = o') <;> rw [hc] at h
      · cases h
      · rw [decide_eq_true_eq] at hc
        subst hc
        simp only [cond_true] at h
        split at h
        · rename_i σ1 h1
          obtain ⟨e1, s1, d1⟩ := ihp h1
          obtain ⟨e2, s2, d2⟩ := ihq h
          exact ⟨e1.trans e2, fun hs => s2 (s1 hs), fun τ ht => by simp only [T.den, d1 τ (e2.trans ht), d2 τ ht]⟩
        · cases h
    · cases h
  | ite c a b _ _ _ => intro a σ σ' h; simp [mT] at h
  | sel s i _ _ => intro a σ σ' h; simp [mT] at h
  | upd s i x _ _ _ => intro a σ σ' h; simp [mT] at h
  | sh s o _ _ => intro a σ σ' h; simp [mT] at h
  | blit d o n s _ _ _ _ => intro a σ σ' h; simp [mT] at h
  | eqr n a b _ _ _ => intro a σ σ' h; simp [mT] at h
def mTs (pc : Pc) : List T → List T → Sg → Option Sg
  | [], [], σ => some σ
  | p :: ps, a :: as, σ => match mT pc p a σ with
    | some σ => mTs pc ps as σ
    | none => none
  | _, _, _ => none
theorem mTs_ok {E : Env} {pc : Pc} (hp : pcOk E pc) : ∀ {ps as : List T} {σ σ' : Sg}, mTs pc ps as σ = some σ' → Ext σ σ' ∧ (SgOk E σ → SgOk E σ') ∧ ∀ τ, Ext σ' τ → ps.map (T.den (envS E τ)) = as.map (T.den E) := by
  intro ps
  induction ps with
  | nil =>
    intro as σ σ' h
    cases as with
    | nil => cases h; exact ⟨Ext.refl _, id, fun _ _ => rfl⟩
    | cons a as => cases h
  | cons p ps ih =>
    intro as σ σ' h
    cases as with
    | nil => cases h
    | cons a as =>
      simp only [mTs] at h
      split at h
      · rename_i σ1 h1
        obtain ⟨e1, s1, d1⟩ := mT_ok hp h1
        obtain ⟨e2, s2, d2⟩ := ih h
        exact ⟨e1.trans e2, fun hs => s2 (s1 hs), fun τ ht => by simp only [List.map_cons]; rw [d1 τ (e2.trans ht), d2 τ ht]⟩
      · cases h
def mC (pc : Pc) (p a : C) (σ : Sg) : Option Sg := match p, a with
  | .int k s, .int k' t => bif decide (k = k') then mT pc s t σ else none
  | .bool s, .bool t => mT pc s t σ
  | .str s, .str t => mTs pc s t σ
  | .nilp, .nilp => some σ
  | .nils, .nils => some σ
  | .nilf, .nilf => some σ
  | .nilm, .nilm => some σ
  | .nili, .nili => some σ
  | _, _ => none
theorem mC_ok {E : Env} {pc : Pc} (hp : pcOk E pc) {p a : C} {σ σ' : Sg} (h : mC pc p a σ = some σ') : Ext σ σ' ∧ (SgOk E σ → SgOk E σ') ∧ ∀ τ, Ext σ' τ → ∀ (ρ : Pt → Rb) (D : Pt → Prop), p.val (envS E τ) ρ = a.val E ρ ∧ (a.ok E ρ D → p.ok (envS E τ) ρ D) := by
  unfold mC at h
  split at h
  · rename_i k s k' t
    cases hk : decide (k = k') <;> rw [hk] at h
    · cases h
    · rw [decide_eq_true_eq] at hk
      subst hk
      obtain ⟨e1, s1, d1⟩ := mT_ok hp h
      exact ⟨e1, s1, fun τ ht ρ D => ⟨by simp only [C.val, d1 τ ht], fun _ => trivial⟩⟩
  · obtain ⟨e1, s1, d1⟩ := mT_ok hp h
    exact ⟨e1, s1, fun τ ht ρ D => ⟨by simp only [C.val, T.tr, d1 τ ht], fun _ => trivial⟩⟩
  · rename_i s t
    obtain ⟨e1, s1, d1⟩ := mTs_ok hp h
    refine ⟨e1, s1, fun τ ht ρ D => ⟨?_, fun hok u hu => ?_⟩⟩
    · simp only [C.val, strOf]
      have := congrArg (List.map byteOf) (d1 τ ht)
      rw [List.map_map, List.map_map] at this
      have e : s.map (fun t => byteOf (t.den (envS E τ))) = t.map fun t => byteOf (t.den E) := this
      rw [e]
    · have : u.den (envS E τ) ∈ s.map (T.den (envS E τ)) := List.mem_map_of_mem hu
      rw [d1 τ ht] at this
      obtain ⟨v, hv, hv2⟩ := List.mem_map.1 this
      rw [← hv2]; exact hok v hv
  all_goals first | (cases h; done) | (cases h; exact ⟨Ext.refl _, id, fun _ _ _ _ => ⟨rfl, fun _ => trivial⟩⟩)
def mCs (pc : Pc) : List C → List C → Sg → Option Sg
  | [], [], σ => some σ
  | p :: ps, a :: as, σ => match mC pc p a σ with
    | some σ => mCs pc ps as σ
    | none => none
  | _, _, _ => none
theorem mCs_ok {E : Env} {pc : Pc} (hp : pcOk E pc) : ∀ {ps as : List C} {σ σ' : Sg}, mCs pc ps as σ = some σ' → Ext σ σ' ∧ (SgOk E σ → SgOk E σ') ∧ ∀ τ, Ext σ' τ → ∀ (ρ : Pt → Rb) (D : Pt → Prop), ps.map (C.val (envS E τ) ρ) = as.map (C.val E ρ) ∧ ((∀ x ∈ as, x.ok E ρ D) → ∀ x ∈ ps, x.ok (envS E τ) ρ D) := by
  intro ps
  induction ps with
  | nil =>
    intro as σ σ' h
    cases as with
    | nil => cases h; exact ⟨Ext.refl _, id, fun _ _ _ _ => ⟨rfl, fun _ _ h => nomatch h⟩⟩
    | cons a as => cases h
  | cons p ps ih =>
    intro as σ σ' h
    cases as with
    | nil => cases h
    | cons a as =>
      simp only [mCs] at h
      split at h
      · rename_i σ1 h1
        obtain ⟨e1, s1, d1⟩ := mC_ok hp h1
        obtain ⟨e2, s2, d2⟩ := ih h
        refine ⟨e1.trans e2, fun hs => s2 (s1 hs), fun τ ht ρ D => ?_⟩
        obtain ⟨v1, o1⟩ := d1 τ (e2.trans ht) ρ D
        obtain ⟨v2, o2⟩ := d2 τ ht ρ D
        refine ⟨by simp only [List.map_cons, v1, v2], fun hok x hx => ?_⟩
        rcases List.mem_cons.1 hx with rfl | hx
        · exact o1 (hok _ List.mem_cons_self)
        · exact o2 (fun y hy => hok y (List.mem_cons_of_mem _ hy)) x hx
      · cases h
def mL (pc : Pc) (p a : L) (σ : Sg) : Option Sg := match p, a with
  | .a (.c x), .a (.c y) => mC pc x y σ
  | .a (.agg xs), .a (.agg ys) => mCs pc xs ys σ
  | _, _ => none
theorem mL_ok {E : Env} {pc : Pc} (hp : pcOk E pc) {p a : L} {σ σ' : Sg} (h : mL pc p a σ = some σ') : Ext σ σ' ∧ (SgOk E σ → SgOk E σ') ∧ ∀ τ, Ext σ' τ → ∀ (ρ : Pt → Rb) (D : Pt → Prop), p.val (envS E τ) ρ = a.val E ρ ∧ (a.ok E ρ D → p.ok (envS E τ) ρ D) := by
  unfold mL at h
  split at h
  · exact mC_ok hp h
  · obtain ⟨e1, s1, d1⟩ := mCs_ok hp h
    exact ⟨e1, s1, fun τ ht ρ D => ⟨by simp only [L.val, A.val, (d1 τ ht ρ D).1], (d1 τ ht ρ D).2⟩⟩
  · cases h
def mLs (pc : Pc) : List L → List L → Sg → Option Sg
  | [], [], σ => some σ
  | p :: ps, a :: as, σ => match mL pc p a σ with
    | some σ => mLs pc ps as σ
    | none => none
  | _, _, _ => none
theorem mLs_ok {E : Env} {pc : Pc} (hp : pcOk E pc) : ∀ {ps as : List L} {σ σ' : Sg}, mLs pc ps as σ = some σ' → Ext σ σ' ∧ (SgOk E σ → SgOk E σ') ∧ ∀ τ, Ext σ' τ → ∀ (ρ : Pt → Rb) (D : Pt → Prop), ps.map (L.val (envS E τ) ρ) = as.map (L.val E ρ) ∧ ((∀ x ∈ as, x.ok E ρ D) → ∀ x ∈ ps, x.ok (envS E τ) ρ D) := by
  intro ps
  induction ps with
  | nil =>
    intro as σ σ' h
    cases as with
    | nil => cases h; exact ⟨Ext.refl _, id, fun _ _ _ _ => ⟨rfl, fun _ _ h => nomatch h⟩⟩
    | cons a as => cases h
  | cons p ps ih =>
    intro as σ σ' h
    cases as with
    | nil => cases h
    | cons a as =>
      simp only [mLs] at h
      split at h
      · rename_i σ1 h1
        obtain ⟨e1, s1, d1⟩ := mL_ok hp h1
        obtain ⟨e2, s2, d2⟩ := ih h
        refine ⟨e1.trans e2, fun hs => s2 (s1 hs), fun τ ht ρ D => ?_⟩
        obtain ⟨v1, o1⟩ := d1 τ (e2.trans ht) ρ D
        obtain ⟨v2, o2⟩ := d2 τ ht ρ D
        refine ⟨by simp only [List.map_cons, v1, v2], fun hok x hx => ?_⟩
        rcases List.mem_cons.1 hx with rfl | hx
        · exact o1 (hok _ List.mem_cons_self)
        · exact o2 (fun y hy => hok y (List.mem_cons_of_mem _ hy)) x hx
      · cases h

/-! cards -/
structure Card where
  ps : List L
  pc : Pc
  r : L
/-- The world is as it was, but for what is new. -/
structure Loc (w w' : World) : Prop where
  os : w'.os = w.os
  tape : w'.tape = w.tape
  output : w'.output = w.output
  size : w.heap.size ≤ w'.heap.size
  heap : ∀ k, k < w.heap.size → w'.heap[k]? = w.heap[k]?
theorem Loc.turn {E : Env} {ρ : Pt → Rb} {D : Pt → Prop} {m : Tri B} {nx : Pt} {w w' : World} (h : Loc w w') (hm : MR E ρ D m w) : Turn E ρ D m nx w ρ m nx w' where
  le := Nat.le_refl _
  rb _ _ := rfl
  mr := by
    rw [un_self]
    refine ⟨hm.gl.turn (fun k hk _ => h.heap k hk) (fun b hb => .inl ⟨hb, rfl⟩), fun b x hb hx => ?_, fun b b' x x' hb hb' hx hx' hg => hm.inj b b' x x' hb hb' hx hx' hg⟩
    have := hm.mem b x hb hx
    rw [h.heap _ this.lt]
    exact this
  off _ _ _ := rfl
  new p hp := (rg_self _ _ hp).elim
  os := h.os
  tape := h.tape
  output := h.output
  size := h.size
  heap k hk _ := h.heap k hk
theorem Turn.loc {E : Env} {ρ ρ' : Pt → Rb} {m m' : Tri B} {a b : Pt} {w w' : World} (h : Turn E ρ (fun _ => False) m a w ρ' m' b w') : Loc w w' :=
  ⟨h.os, h.tape, h.output, h.size, fun k hk => h.heap k hk fun _ h => h.elim⟩
def HasBody (P : Program) (g : Nat) : Prop := ∃ fn body, P.funcs[g]? = some fn ∧ fn.body = some body ∧ fn.name ≠ "runtime.NumGoroutine"
/-- What comes of arguments of a pattern, if the conditions hold: in no memory. -/
def CardOk (P : Program) (g : Nat) (c : Card) : Prop := allF L.flat c.ps = true ∧ c.r.flat = true ∧ ∀ (E : Env) (ρ : Pt → Rb) (w : World), pcOk E c.pc → (∀ l ∈ c.ps, l.ok E ρ (fun _ => False)) → GG E ρ (fun _ => False) w →
  HasBody P g ∧ Calls P g (c.ps.map (L.val E ρ)).toArray w fun e w' => e = .returned (c.r.val E ρ) ∧ c.r.ok E ρ (fun _ => False) ∧ Loc w w'
theorem CardOk.run {g : Nat} {c : Card} {run : Run} {m : Tri B} {nx : Pt} (hr : CallOk P c.pc run) (h1 : allF L.flat c.ps = true) (h2 : c.r.flat = true) (h : run g c.ps .e .z = some (.ret c.r m nx)) : CardOk P g c := by
  refine ⟨h1, h2, fun E ρ w hp has hg => ?_⟩
  obtain ⟨q1, q2⟩ := (hr _ _ _ _ _ h).2 E ρ (fun _ => False) w hp has (MR.none hg rfl) (fun _ _ h => h)
  refine ⟨q1, Calls.mono q2 fun e w' he => ?_⟩
  obtain ⟨ρ', rfl, g2, g3⟩ := he
  obtain ⟨g4, g5⟩ := c.r.flat_ok h2 g2 ρ (fun _ => False)
  exact ⟨by rw [g5], g4, g3.loc⟩
/-! two ways made one -/
def mrT (t a b : T) : T := bif a.beq b then a else mkIte t a b
theorem mrT_den (E : Env) (t a b : T) : (mrT t a b).den E = if t.tr E = true then a.den E else b.den E := by
  unfold mrT
  cases h : a.beq b
  · exact den_ite E t a b
  · rw [T.beq_eq h]; simp
theorem mrT_tr (E : Env) (t a b : T) : (mrT t a b).tr E = if t.tr E = true then a.tr E else b.tr E := by
  show (T.den E (mrT t a b) != 0) = _
  rw [mrT_den]
  cases t.tr E <;> rfl
def mrTs (t : T) : List T → List T → Option (List T)
  | [], [] => some []
  | a :: as, b :: bs => match mrTs t as bs with
    | some r => some (mrT t a b :: r)
    | none => none
  | _, _ => none
theorem mrTs_ok {E : Env} {t : T} : ∀ {as bs rs : List T}, mrTs t as bs = some rs → rs.map (T.den E) = if t.tr E = true then as.map (T.den E) else bs.map (T.den E) := by
  intro as
  induction as with
  | nil => intro bs rs h; cases bs with
    | nil => cases h; simp
    | cons b bs => cases h
  | cons a as ih => intro bs rs h; cases bs with
    | nil => cases h
    | cons b bs =>
      simp only [mrTs] at h
      split at h
      · rename_i r hr
        cases h
        simp only [List.map_cons, mrT_den, ih hr]
        split <;> rfl
      · cases h
def mrC (t : T) (x y : C) : Option C := match x, y with
  | .int k a, .int k' b => bif decide (k = k') then some (.int k (mrT t a b)) else none
  | .bool a, .bool b => some (.bool (mrT t a b))
  | .str a, .str b => match mrTs t a b with
    | some l => some (.str l)
    | none => none
  | .nilp, .nilp => some .nilp
  | .nils, .nils => some .nils
  | .nilf, .nilf => some .nilf
  | .nilm, .nilm => some .nilm
  | .nili, .nili => some .nili
  | _, _ => none
theorem mrC_ok {E : Env} {t : T} {x y z : C} (h : mrC t x y = some z) (ρ : Pt → Rb) (D : Pt → Prop) : z.flat = true ∧ z.val E ρ = (if t.tr E = true then x.val E ρ else y.val E ρ) ∧ ((t.tr E = true → x.ok E ρ D) → (t.tr E = false → y.ok E ρ D) → z.ok E ρ D) := by
  unfold mrC at h
  split at h
  · rename_i k a k' b
    cases hk : decide (k = k') <;> rw [hk] at h
    · cases h
    · rw [decide_eq_true_eq] at hk
      subst hk
      cases h
      exact ⟨rfl, by simp only [C.val, mrT_den]; split <;> rfl, fun _ _ => trivial⟩
  · cases h
    exact ⟨rfl, by simp only [C.val, mrT_tr]; split <;> rfl, fun _ _ => trivial⟩
  · rename_i a b
    split at h
    · rename_i l hl
      cases h
      have e := mrTs_ok (E := E) hl
      refine ⟨rfl, ?_, fun h1 h2 u hu => ?_⟩
      · simp only [C.val, strOf]
        have := congrArg (List.map byteOf) e
        rw [List.map_map] at this
        have e2 : l.map (fun t => byteOf (t.den E)) = _ := this
        rw [e2]
        cases t.tr E <;> simp [List.map_map, Function.comp_def]
      · have hu' : u.den E ∈ l.map (T.den E) := List.mem_map_of_mem hu
        rw [e] at hu'
        cases ht : t.tr E <;> rw [ht] at hu'
        · obtain ⟨v, hv, hv2⟩ := List.mem_map.1 hu'
          rw [← hv2]; exact h2 ht v hv
        · obtain ⟨v, hv, hv2⟩ := List.mem_map.1 hu'
          rw [← hv2]; exact h1 ht v hv
    · cases h
  all_goals first | (cases h; done) | (cases h; exact ⟨rfl, by split <;> rfl, fun _ _ => trivial⟩)
def mrCs (t : T) : List C → List C → Option (List C)
  | [], [] => some []
  | a :: as, b :: bs => match mrC t a b with
    | some c => match mrCs t as bs with
      | some r => some (c :: r)
      | none => none
    | none => none
  | _, _ => none
theorem mrCs_ok {E : Env} {t : T} (ρ : Pt → Rb) (D : Pt → Prop) : ∀ {xs ys zs : List C}, mrCs t xs ys = some zs → (∀ z ∈ zs, z.flat = true) ∧ zs.map (C.val E ρ) = (if t.tr E = true then xs.map (C.val E ρ) else ys.map (C.val E ρ)) ∧ ((t.tr E = true → ∀ x ∈ xs, x.ok E ρ D) → (t.tr E = false → ∀ x ∈ ys, x.ok E ρ D) → ∀ z ∈ zs, z.ok E ρ D) := by
  intro xs
  induction xs with
  | nil => intro ys zs h; cases ys with
    | nil => cases h; exact ⟨(fun _ h => nomatch h), by simp, fun _ _ _ h => nomatch h⟩
    | cons y ys => cases h
  | cons x xs ih => intro ys zs h; cases ys with
    | nil => cases h
    | cons y ys =>
      simp only [mrCs] at h
      split at h
      · rename_i c hc
        split at h
        · rename_i r hr
          cases h
          obtain ⟨a1, a2, a3⟩ := mrC_ok (E := E) hc ρ D
          obtain ⟨b1, b2, b3⟩ := ih hr
          refine ⟨fun z hz => ?_, ?_, fun h1 h2 z hz => ?_⟩
          · rcases List.mem_cons.1 hz with rfl | hz
            · exact a1
            · exact b1 z hz
          · simp only [List.map_cons, a2, b2]; split <;> rfl
          · rcases List.mem_cons.1 hz with rfl | hz
            · exact a3 (fun ht => h1 ht _ List.mem_cons_self) (fun ht => h2 ht _ List.mem_cons_self)
            · exact b3 (fun ht x hx => h1 ht x (List.mem_cons_of_mem _ hx)) (fun ht x hx => h2 ht x (List.mem_cons_of_mem _ hx)) z hz
        · cases h
      · cases h
def mrA (t : T) (x y : A) : Option A := match x, y with
  | .c a, .c b => match mrC t a b with
    | some c => some (.c c)
    | none => none
  | .agg a, .agg b => match mrCs t a b with
    | some c => some (.agg c)
    | none => none
  | _, _ => none
theorem mrA_ok {E : Env} {t : T} {x y z : A} (h : mrA t x y = some z) (ρ : Pt → Rb) (D : Pt → Prop) : z.flat = true ∧ z.val E ρ = (if t.tr E = true then x.val E ρ else y.val E ρ) ∧ ((t.tr E = true → x.ok E ρ D) → (t.tr E = false → y.ok E ρ D) → z.ok E ρ D) := by
  unfold mrA at h
  split at h
  · split at h
    · rename_i c hc; cases h; exact mrC_ok hc ρ D
    · cases h
  · split at h
    · rename_i c hc
      cases h
      obtain ⟨a1, a2, a3⟩ := mrCs_ok (E := E) ρ D hc
      exact ⟨allF_iff.2 a1, by simp only [A.val, a2]; split <;> rfl, a3⟩
    · cases h
  · cases h
def mrAs (t : T) : List A → List A → Option (List A)
  | [], [] => some []
  | a :: as, b :: bs => match mrA t a b with
    | some c => match mrAs t as bs with
      | some r => some (c :: r)
      | none => none
    | none => none
  | _, _ => none
theorem mrAs_ok {E : Env} {t : T} (ρ : Pt → Rb) (D : Pt → Prop) : ∀ {xs ys zs : List A}, mrAs t xs ys = some zs → (∀ z ∈ zs, z.flat = true) ∧ zs.map (A.val E ρ) = (if t.tr E = true then xs.map (A.val E ρ) else ys.map (A.val E ρ)) ∧ ((t.tr E = true → ∀ x ∈ xs, x.ok E ρ D) → (t.tr E = false → ∀ x ∈ ys, x.ok E ρ D) → ∀ z ∈ zs, z.ok E ρ D) := by
  intro xs
  induction xs with
  | nil => intro ys zs h; cases ys with
    | nil => cases h; exact ⟨(fun _ h => nomatch h), by simp, fun _ _ _ h => nomatch h⟩
    | cons y ys => cases h
  | cons x xs ih => intro ys zs h; cases ys with
    | nil => cases h
    | cons y ys =>
      simp only [mrAs] at h
      split at h
      · rename_i c hc
        split at h
        · rename_i r hr
          cases h
          obtain ⟨a1, a2, a3⟩ := mrA_ok (E := E) hc ρ D
          obtain ⟨b1, b2, b3⟩ := ih hr
          refine ⟨fun z hz => ?_, ?_, fun h1 h2 z hz => ?_⟩
          · rcases List.mem_cons.1 hz with rfl | hz
            · exact a1
            · exact b1 z hz
          · simp only [List.map_cons, a2, b2]; split <;> rfl
          · rcases List.mem_cons.1 hz with rfl | hz
            · exact a3 (fun ht => h1 ht _ List.mem_cons_self) (fun ht => h2 ht _ List.mem_cons_self)
            · exact b3 (fun ht x hx => h1 ht x (List.mem_cons_of_mem _ hx)) (fun ht x hx => h2 ht x (List.mem_cons_of_mem _ hx)) z hz
        · cases h
      · cases h
def mrL (t : T) (x y : L) : Option L := match x, y with
  | .a a, .a b => match mrA t a b with
    | some c => some (.a c)
    | none => none
  | .tup a, .tup b => match mrAs t a b with
    | some c => some (.tup c)
    | none => none
  | _, _ => none
theorem mrL_ok {E : Env} {t : T} {x y z : L} (h : mrL t x y = some z) (ρ : Pt → Rb) (D : Pt → Prop) : z.flat = true ∧ z.val E ρ = (if t.tr E = true then x.val E ρ else y.val E ρ) ∧ ((t.tr E = true → x.ok E ρ D) → (t.tr E = false → y.ok E ρ D) → z.ok E ρ D) := by
  unfold mrL at h
  split at h
  · split at h
    · rename_i c hc; cases h; exact mrA_ok hc ρ D
    · cases h
  · split at h
    · rename_i c hc
      cases h
      obtain ⟨a1, a2, a3⟩ := mrAs_ok (E := E) ρ D hc
      exact ⟨allF_iff.2 a1, by simp only [L.val, a2]; split <;> rfl, a3⟩
    · cases h
  · cases h
/-- A card of two: one where a term is true, one where it isn't. -/
theorem CardOk.ite {g : Nat} {ps : List L} {pc : Pc} {t : T} {l1 l2 l : L} (h1 : CardOk P g ⟨ps, (t, true) :: pc, l1⟩) (h2 : CardOk P g ⟨ps, (t, false) :: pc, l2⟩) (h : mrL t l1 l2 = some l) : CardOk P g ⟨ps, pc, l⟩ := by
  refine ⟨h1.1, (mrL_ok (E := ⟨fun _ => default, fun _ _ => [], fun _ => .nilIface⟩) h (fun _ => default) (fun _ => False)).1, fun E ρ w hp has hg => ?_⟩
  obtain ⟨_, m2, m3⟩ := mrL_ok (E := E) h ρ (fun _ => False)
  cases ht : t.tr E
  · obtain ⟨q1, q2⟩ := h2.2.2 E ρ w (pcOk_cons.2 ⟨ht, hp⟩) has hg
    rw [ht] at m2 m3
    refine ⟨q1, Calls.mono q2 fun e w' ⟨k1, k2, k3⟩ => ⟨?_, m3 (fun h => by cases h) (fun _ => k2), k3⟩⟩
    rw [k1, m2]; rfl
  · obtain ⟨q1, q2⟩ := h1.2.2 E ρ w (pcOk_cons.2 ⟨ht, hp⟩) has hg
    rw [ht] at m2 m3
    refine ⟨q1, Calls.mono q2 fun e w' ⟨k1, k2, k3⟩ => ⟨?_, m3 (fun _ => k2) (fun h => by cases h), k3⟩⟩
    rw [k1, m2]; rfl
def condsOk (pc : Pc) (σ : Sg) (cs : Pc) : Bool := List.rec (motive := fun _ => Bool) true (fun q _ ih => match sbT pc σ q.1 with
  | some t => match dec pc t with
    | some b => bif b then (bif q.2 then ih else false) else bif q.2 then false else ih
    | none => false
  | none => false) cs
theorem condsOk_ok {E : Env} {pc : Pc} (hp : pcOk E pc) {σ : Sg} (hσ : SgOk E σ) : ∀ {cs : Pc}, condsOk pc σ cs = true → pcOk (envS E σ) cs := by
  intro cs
  induction cs with
  | nil => intro _ q hq; cases hq
  | cons q cs ih =>
    intro h
    change (match sbT pc σ q.1 with
      | some t => match dec pc t with
        | some b => bif b then (bif q.2 then condsOk pc σ cs else false) else bif q.2 then false else condsOk pc σ cs
        | none => false
      | none => false) = true at h
    split at h
    · rename_i t ht
      split at h
      · rename_i b hb
        have h1 := dec_ok hp hb
        have h2 : t.tr E = q.1.tr (envS E σ) := by simp only [T.tr, sbT_ok hp hσ _ ht]
        have key : q.1.tr (envS E σ) = q.2 ∧ condsOk pc σ cs = true := by
          rw [← h2, h1]
          cases b <;> cases hq : q.2 <;> simp only [hq, cond_true, cond_false] at h <;> first | (cases h; done) | exact ⟨rfl, h⟩
        intro q' hq'
        rcases List.mem_cons.1 hq' with rfl | hq'
        · exact key.1
        · exact ih key.2 q' hq'
      · cases h
    · cases h
def useC (pc : Pc) (as : List L) (c : Card) : Option L := match mLs pc c.ps as [] with
  | some σ => bif condsOk pc σ c.pc then c.r.sb pc σ else none
  | none => none
def useCs (pc : Pc) (as : List L) (cs : List Card) : Option L := List.rec (motive := fun _ => Option L) none (fun c _ ih => match useC pc as c with
  | some l => some l
  | none => ih) cs
theorem useCs_mem {pc : Pc} {as : List L} {l : L} : ∀ {cs : List Card}, useCs pc as cs = some l → ∃ c ∈ cs, useC pc as c = some l := by
  intro cs
  induction cs with
  | nil => intro h; cases h
  | cons c cs ih =>
    intro h
    change (match useC pc as c with
      | some l => some l
      | none => useCs pc as cs) = some l at h
    split at h
    · rename_i l' hl; cases h; exact ⟨c, List.mem_cons_self, hl⟩
    · obtain ⟨c', h1, h2⟩ := ih h; exact ⟨c', List.mem_cons_of_mem _ h1, h2⟩
/-- Cards of functions, to choose from by the arguments. -/
abbrev Deck := Tri (List L → List Card)
def DeckOk (P : Program) (d : Deck) : Prop := ∀ g f, d.get (path g) = some f → ∀ as, ∀ c ∈ f as, CardOk P g c
theorem DeckOk.nil : DeckOk P .e := fun g f h => by rw [Tri.get_e] at h; cases h
theorem DeckOk.put {d : Deck} (h : DeckOk P d) {g : Nat} {f : List L → List Card} (hr : ∀ as, ∀ c ∈ f as, CardOk P g c) : DeckOk P (d.put (path g) (some f)) := by
  intro g' f' hg
  rw [Tri.get_put] at hg
  split at hg
  · rename_i e
    have := path_inj e
    subst this
    cases hg
    exact hr
  · exact h g' f' hg
def deckR (pc : Pc) (d : Deck) (ih : Run) : Run := fun g as m nx => match d.get (path g) with
  | some f => match useCs pc as (f as) with
    | some l => some (.ret l m nx)
    | none => ih g as m nx
  | none => ih g as m nx
theorem deckR_ok {pc : Pc} {d : Deck} {ih : Run} (ht : DeckOk P d) (hih : CallOk P pc ih) : CallOk P pc (deckR pc d ih) := by
  intro g as m nx r h
  unfold deckR at h
  split at h
  · rename_i f hf
    split at h
    · rename_i l hl
      cases h
      obtain ⟨c, hc, hu⟩ := useCs_mem hl
      obtain ⟨h1, h2, h3⟩ := ht g f hf as c hc
      unfold useC at hu
      split at hu
      · rename_i σ hσ
        cases hcd : condsOk pc σ c.pc <;> rw [hcd] at hu
        · cases hu
        · have hfl := allF_iff.1 h1
          refine ⟨Nat.le_refl _, fun E ρ D w hp has hm hfr => ?_⟩
          obtain ⟨_, s1, d1⟩ := mLs_ok hp hσ
          have hs := s1 (fun _ h => nomatch h)
          obtain ⟨v1, o1⟩ := d1 σ (Ext.refl _) ρ D
          have hp' := condsOk_ok hp hs hcd
          obtain ⟨q1, q2⟩ := h3 (envS E σ) ρ w hp' (fun l hl => (l.flat_ok (hfl l hl) (o1 has l hl) ρ _).1) (hm.gl.env rfl)
          rw [v1] at q2
          refine ⟨q1, Calls.mono q2 fun e w' ⟨k1, k2, k3⟩ => ?_⟩
          obtain ⟨k4, _⟩ := c.r.flat_ok h2 k2 ρ (Un D (Rg nx nx))
          obtain ⟨j1, j2, _⟩ := c.r.sb_ok hp hs hu ρ (Un D (Rg nx nx)) k4
          exact ⟨ρ, by rw [j2, k1], j1, k3.turn hm⟩
      · cases hu
    · exact hih g as m nx r h
  · exact hih g as m nx r h
/-- Runs that look at cards first. -/
def runCN (P : Program) (pc : Pc) (d : Deck) (mem : Option Run) (n : Nat) : Run := Nat.rec (motive := fun _ => Run) (fun _ _ _ _ => none) (fun _ ih => deckR pc d (stepG P pc mem ih)) n
def runC (P : Program) (pc : Pc) (d : Deck) (k : Nat) : Run := Nat.rec (motive := fun _ => Run) (runCN P pc d none 40) (fun _ ih => runCN P pc d (some ih) 40) k
theorem runCN_ok {d : Deck} (ht : DeckOk P d) {pc : Pc} {mem : Option Run} (hmem : ∀ r, mem = some r → CallOk P pc r) (n : Nat) : CallOk P pc (runCN P pc d mem n) := by
  induction n with
  | zero => intro g as m nx r h; cases h
  | succ n ih => exact deckR_ok ht (stepG_ok hmem ih)
theorem runC_ok {d : Deck} (ht : DeckOk P d) (pc : Pc) (k : Nat) : CallOk P pc (runC P pc d k) := by
  induction k with
  | zero => exact runCN_ok ht (mem := none) (fun r h => by cases h) 40
  | succ k ih => exact runCN_ok ht (mem := some (runC P pc d k)) (fun r h => by cases h; exact ih) 40
/-- A card, by a run. -/
theorem CardOk.of {d : Deck} (ht : DeckOk P d) {g : Nat} {c : Card} (n : Nat) (h : (allF L.flat c.ps && c.r.flat && (match runC P c.pc d n g c.ps .e .z with | some (.ret l' _ _) => l'.beq c.r | _ => false)) = true) : CardOk P g c := by
  simp only [Bool.and_eq_true] at h
  obtain ⟨⟨h1, h2⟩, h3⟩ := h
  split at h3
  · rename_i l' m nx hr
    refine CardOk.run (runC_ok ht c.pc n) h1 h2 (m := m) (nx := nx) ?_
    rw [← L.beq_eq h3]; exact hr
  · cases h3
theorem int_range {k : IntKind} {x : Int} (h : (Lit.int k x).wf = true) : kmin k ≤ x ∧ x ≤ kmax k := by
  rw [kmin_eq, kmax_eq]; simpa [Lit.wf] using h
end
end Go.E3
namespace Go.E3
open Go.Sy
noncomputable section
variable {P : Program}
/-- A card's run, as a truth. -/
def cardB (P : Program) (d : Deck) (g : Nat) (c : Card) : Bool := allF L.flat c.ps && c.r.flat && (match runC P c.pc d 1 g c.ps .e .z with | some (.ret l' _ _) => l'.beq c.r | _ => false)
theorem CardOk.ofB {d : Deck} (ht : DeckOk P d) {g : Nat} {c : Card} (h : cardB P d g c = true) : CardOk P g c := CardOk.of ht 1 h
/-- A number's range cut in two. -/
theorem CardOk.cut {g : Nat} {k : IntKind} {lo hi : Int} {r : L} (mid : Int) (hm : lo < mid ∧ mid ≤ hi) (h1 : CardOk P g ⟨[.a (.c (.int k (.v 0 lo (mid - 1))))], [], r⟩) (h2 : CardOk P g ⟨[.a (.c (.int k (.v 0 mid hi)))], [], r⟩) : CardOk P g ⟨[.a (.c (.int k (.v 0 lo hi)))], [], r⟩ := by
  refine ⟨rfl, h1.2.1, fun E ρ w hp has hg => ?_⟩
  have e : ∀ a b : Int, (T.v 0 a b).den E = clamp a b (E.x 0).n := fun _ _ => rfl
  have split : clamp lo hi (E.x 0).n = clamp lo (mid - 1) (E.x 0).n ∨ clamp lo hi (E.x 0).n = clamp mid hi (E.x 0).n := by
    unfold clamp
    (repeat' split) <;> omega
  have main : ∀ a b : Int, clamp lo hi (E.x 0).n = clamp a b (E.x 0).n → CardOk P g ⟨[.a (.c (.int k (.v 0 a b)))], [], r⟩ → HasBody P g ∧ Calls P g ([L.a (.c (.int k (.v 0 lo hi)))].map (L.val E ρ)).toArray w fun e w' => e = .returned (r.val E ρ) ∧ r.ok E ρ (fun _ => False) ∧ Loc w w' := by
    intro a b hab hc
    have := hc.2.2 E ρ w (fun q hq => nomatch hq) (fun l hl => by
      rw [List.mem_singleton] at hl; subst hl; trivial) hg
    have e2 : ([L.a (.c (.int k (.v 0 lo hi)))].map (L.val E ρ)) = [L.a (.c (.int k (.v 0 a b)))].map (L.val E ρ) := by
      simp only [List.map_cons, List.map_nil, L.val, A.val, C.val, e, hab]
    rw [e2]; exact this
  rcases split with h | h
  · exact main _ _ h h1
  · exact main _ _ h h2
end
end Go.E3
namespace Go.E3
open Go.Sy
noncomputable section
variable {P : Program}
/-! calls that are told by a theorem of their own, ahead of all else -/
def extR (x run : Run) : Run := fun g as m nx => match x g as m nx with
  | some r => some r
  | none => run g as m nx
theorem extR_ok {pc : Pc} {x run : Run} (hx : CallOk P pc x) (hr : CallOk P pc run) : CallOk P pc (extR x run) := by
  intro g as m nx r h
  unfold extR at h
  split at h
  · rename_i r' h'; cases h; exact hx _ _ _ _ _ h'
  · exact hr _ _ _ _ _ h
def runXN (P : Program) (pc : Pc) (d : Deck) (x : Run) (mem : Option Run) (n : Nat) : Run := Nat.rec (motive := fun _ => Run) (fun _ _ _ _ => none) (fun _ ih => extR x (deckR pc d (stepG P pc mem ih))) n
def runX (P : Program) (pc : Pc) (d : Deck) (x : Run) (k : Nat) : Run := Nat.rec (motive := fun _ => Run) (runXN P pc d x none 40) (fun _ ih => runXN P pc d x (some ih) 40) k
theorem runXN_ok {d : Deck} (ht : DeckOk P d) {pc : Pc} {x : Run} (hx : CallOk P pc x) {mem : Option Run} (hmem : ∀ r, mem = some r → CallOk P pc r) (n : Nat) : CallOk P pc (runXN P pc d x mem n) := by
  induction n with
  | zero => intro g as m nx r h; cases h
  | succ n ih => exact extR_ok hx (deckR_ok ht (stepG_ok hmem ih))
theorem runX_ok {d : Deck} (ht : DeckOk P d) {pc : Pc} {x : Run} (hx : CallOk P pc x) (k : Nat) : CallOk P pc (runX P pc d x k) := by
  induction k with
  | zero => exact runXN_ok ht hx (mem := none) (fun r h => by cases h) 40
  | succ k ih => exact runXN_ok ht hx (mem := some (runX P pc d x k)) (fun r h => by cases h; exact ih) 40
theorem CardOk.ofX {d : Deck} (ht : DeckOk P d) {g : Nat} {c : Card} {x : Run} (hx : CallOk P c.pc x) (n : Nat) (h : (allF L.flat c.ps && c.r.flat && (match runX P c.pc d x n g c.ps .e .z with | some (.ret l' _ _) => l'.beq c.r | _ => false)) = true) : CardOk P g c := by
  simp only [Bool.and_eq_true] at h
  obtain ⟨⟨h1, h2⟩, h3⟩ := h
  split at h3
  · rename_i l' m nx hr
    refine CardOk.run (runX_ok ht hx n) h1 h2 (m := m) (nx := nx) ?_
    rw [← L.beq_eq h3]; exact hr
  · cases h3
/-- A new block that the world has already. -/
theorem MR.adopt {E : Env} {ρ : Pt → Rb} {D : Pt → Prop} {m : Tri B} {w w' : World} (h : MR E ρ D m w) (hw : Loc w w') {b : Pt} {x : B} (hb : ¬ D b) {g z : Nat} (hg : w.heap.size ≤ g)
    (hx : BR E (upd ρ b ⟨g, z⟩) (Un D (Rg b b.succ)) z x w'.heap[g]?) : Turn E ρ D m b w (upd ρ b ⟨g, z⟩) (m.put b (some x)) b.succ w' where
  le := by rw [Pt.succ_num]; omega
  rb p hp := upd_ne _ _ fun e => hb (e ▸ hp)
  mr := by
    have gr : Grow ρ D (upd ρ b ⟨g, z⟩) (Un D (Rg b b.succ)) := ⟨fun p hp => upd_ne _ _ fun e => hb (e ▸ hp), fun _ => .inl⟩
    have old : ∀ p, Un D (Rg b b.succ) p → p ≠ b → D p := fun p hp hne => hp.elim id fun hp => (hne ((rg_succ _ _).1 hp)).elim
    refine ⟨h.gl.turn (fun k hk _ => hw.heap k hk) (fun p hp => hp.elim (fun hp => .inl ⟨hp, congrArg Rb.g (upd_ne ρ ⟨g, z⟩ fun e : p = b => hb (e ▸ hp))⟩) fun hp => .inr (.inl (by rw [(rg_succ _ _).1 hp, upd_same]; exact hg))), fun p y hp hy => ?_, fun p q y y' hp hq hy hy' hgg => ?_⟩
    · rw [Tri.get_put] at hy
      split at hy
      · rename_i e
        subst e; cases hy
        rw [upd_same]
        exact hx
      · rename_i e
        have hD := old p hp fun h => e h.symm
        have h1 := h.mem p y hD hy
        have hlt := h1.lt
        rw [upd_ne _ _ fun h => e h.symm, hw.heap _ hlt]
        exact h1.grow gr
    · rw [Tri.get_put] at hy hy'
      by_cases e1 : b = p
      · by_cases e2 : b = q
        · rw [← e1, ← e2]
        · rw [if_neg e2] at hy'
          have hD := old q hq fun h => e2 h.symm
          have hlt := (h.mem q y' hD hy').lt
          rw [← e1, upd_same, upd_ne _ _ fun h => e2 h.symm] at hgg
          simp only at hgg; omega
      · rw [if_neg e1] at hy
        have hDp := old p hp fun h => e1 h.symm
        have hlt := (h.mem p y hDp hy).lt
        by_cases e2 : b = q
        · rw [← e2, upd_same, upd_ne _ _ fun h => e1 h.symm] at hgg
          simp only at hgg; omega
        · rw [if_neg e2] at hy'
          have hDq := old q hq fun h => e2 h.symm
          rw [upd_ne _ _ fun h => e1 h.symm, upd_ne _ _ fun h => e2 h.symm] at hgg
          exact h.inj p q y y' hDp hDq hy hy' hgg
  off p hp hr := by
    have hne : b ≠ p := fun e => hr ((rg_succ _ _).2 e.symm)
    rw [Tri.get_put, if_neg hne]
  new p hp := by rw [(rg_succ _ _).1 hp, upd_same]; exact .inl hg
  os := hw.os
  tape := hw.tape
  output := hw.output
  size := hw.size
  heap k hk _ := hw.heap k hk
end
end Go.E3
namespace Go.E3
open Go.Sy Go.RowKit
noncomputable section
variable {P : Program}
/-! slices.Collect(maps.Keys(m)), keys of a kind of numbers, one key at most -/
/-- What is shown of it at a program: 'co' its number, 'k1' that of the closure, 'ky' the number of the keys' type. -/
structure ColOk (P : Program) (q : IntKind) (co k1 : Nat) (ky : TypeId) : Prop where
  body : HasBody P co
  none_ : ∀ (w : World) (Bm b clock : Nat), w.cell? ⟨Bm, 0, none⟩ = some (.map (some b)) → w.heap[b]? = some (.map #[] clock) → Calls P co #[.func (.func k1) #[] #[.pointer (some ⟨Bm, 0, none⟩)]] w fun e w' => e = .returned (.slice none 0 0) ∧ Below w.heap.size w w'
  one : ∀ (w : World) (Bm b clock : Nat) (a : Int) (v : Value) (born : Nat), w.cell? ⟨Bm, 0, none⟩ = some (.map (some b)) → w.heap[b]? = some (.map #[{ key := .int q a, val := v, born := born }] clock) → born < clock → kmin q ≤ a → a ≤ kmax q →
    Calls P co #[.func (.func k1) #[] #[.pointer (some ⟨Bm, 0, none⟩)]] w fun e w' => (∃ g cap cur, e = .returned (.slice (some ⟨g, 0, none⟩) 1 cap) ∧ w.heap.size ≤ g ∧ w'.heap[g]? = some (.cells cur ky (0, 0)) ∧ 1 ≤ cap ∧ cap ≤ maxLen ∧ cur.size = cap ∧ cur[0]? = some (.int q a)) ∧ Below w.heap.size w w'
def colX (q : IntKind) (co k1 : Nat) (ky : TypeId) (pc : Pc) : Run := fun g as m nx => bif Nat.beq g co then match as with
    | [.a (.c (.fn f [.ptr bx 0]))] => bif Nat.beq f k1 then match m.get bx with
      | some (.cells _ n _ d t) => match cellAt n d t 0 with
        | some (.map b) => match m.get b with
          | some (.map es cl) => match es with
            | [] => some (.ret (.a (.c .nils)) m nx)
            | [⟨.c (.int q' k), _, born⟩] => bif decide (q' = q) && inIv pc (kmin q) (kmax q) k && Nat.blt born cl then some (.ret (.a (.c (.slc nx 0 1 (.r 1 0)))) (m.put nx (some (.cells ky 1 false [] (Tri.put .e (path 0) (some (.int q k)))))) nx.succ) else none
            | _ => none
          | _ => none
        | _ => none
      | _ => none
      else none
    | _ => none
  else none
theorem Below.loc {w w' : World} (h : Below w.heap.size w w') : Loc w w' := ⟨h.os, h.tape, h.output, h.size, fun k hk => h.block k hk⟩
theorem colX_ok {q : IntKind} {co k1 : Nat} {ky : TypeId} (h : ColOk P q co k1 ky) (pc : Pc) : CallOk P pc (colX q co k1 ky pc) := by
  intro g as m nx r hr
  unfold colX at hr
  cases hg : Nat.beq g co <;> simp only [hg, cond_true, cond_false] at hr
  · cases hr
  have hg := Nat.eq_of_beq_eq_true hg
  subst hg
  split at hr
  · rename_i f bx
    cases hf : Nat.beq f k1 <;> simp only [hf, cond_true, cond_false] at hr
    · cases hr
    have hf := Nat.eq_of_beq_eq_true hf
    subst hf
    split at hr
    · rename_i ty n k d t hbx
      split at hr
      · rename_i b hc
        split at hr
        · rename_i es cl hb
          have pre : ∀ (E : Env) (ρ : Pt → Rb) (D : Pt → Prop) (w : World), (∀ l ∈ [L.a (.c (.fn f [.ptr bx 0]))], l.ok E ρ D) → MR E ρ D m w → D b ∧ w.cell? ⟨(ρ bx).g, 0, none⟩ = some (.map (some (ρ b).g)) ∧ w.heap[(ρ b).g]? = some (.map (es.map (entV E ρ)).toArray cl) := by
            intro E ρ D w has hm
            have h1 := has _ List.mem_cons_self
            have hD : D bx := by
              have : C.oks E ρ D [.ptr bx 0] := h1
              exact this.1
            obtain ⟨cs, e1, _, _, _, e2⟩ := hm.mem bx _ hD hbx
            obtain ⟨o1, o2⟩ := e2 0 _ hc
            have hDb : D b := o1
            obtain ⟨e3, _⟩ := hm.mem b _ hDb hb
            exact ⟨hDb, by simp only [World.cell?, e1]; simpa [C.val] using o2, e3⟩
          split at hr
          · cases hr
            refine ⟨Nat.le_refl _, fun E ρ D w hp has hm hfr => ⟨h.body, ?_⟩⟩
            obtain ⟨p1, p2, p3⟩ := pre E ρ D w has hm
            refine Calls.mono (h.none_ w _ _ cl p2 p3) fun e w' ⟨q1, q2⟩ => ?_
            exact ⟨ρ, q1, trivial, (Below.loc q2).turn hm⟩
          · rename_i q' k' v born
            cases hi : decide (q' = q) && inIv pc (kmin q) (kmax q) k' && Nat.blt born cl <;> simp only [hi, cond_true, cond_false] at hr
            · cases hr
            cases hr
            rw [Bool.and_eq_true, Bool.and_eq_true, decide_eq_true_eq] at hi
            obtain ⟨⟨hq, hi1⟩, hi2⟩ := hi
            subst hq
            refine ⟨by show nx.num ≤ nx.succ.num; rw [Pt.succ_num]; omega, fun E ρ D w hp has hm hfr => ⟨h.body, ?_⟩⟩
            obtain ⟨p1, p2, p3⟩ := pre E ρ D w has hm
            have hk := inIv_ok hp hi1
            refine Calls.mono (h.one w _ _ cl (k'.den E) (v.val E ρ) born p2 p3 (Nat.le_of_ble_eq_true hi2) hk.1 hk.2) fun e w' ⟨⟨g', cap, cur, q1, q2, q3, q4, q5, q6, q7⟩, q8⟩ => ?_
            have hnx : ¬ D nx := hfr nx ((rg_succ _ _).2 rfl)
            have hT := hm.adopt (Below.loc q8) (b := nx) (x := .cells ky 1 false [] (Tri.put .e (path 0) (some (.int q' k')))) hnx (g := g') (z := cap) q2 (by
              refine ⟨cur, q3, q6, q4, fun h => (by cases h), fun i x hx => ?_⟩
              unfold cellAt at hx
              cases hi' : Nat.ble 1 i <;> simp only [hi', cond_true, cond_false] at hx
              · have : i = 0 := by
                  have : ¬ 1 ≤ i := fun hc => by rw [Nat.ble_eq_true_of_le hc] at hi'; cases hi'
                  omega
                subst this
                rw [Tri.get_put, if_pos rfl] at hx
                cases hx
                exact ⟨trivial, q7⟩
              · cases hx)
            refine ⟨_, ?_, ?_, hT⟩
            · rw [q1]; simp [L.val, A.val, C.val, upd_same, Cp.val]
            · refine ⟨.inr ((rg_succ _ _).2 rfl), ?_, ?_⟩
              · simp only [upd_same, Cp.val]; omega
              · simp only [upd_same, Cp.fit]; exact ⟨by omega, by omega⟩
          · cases hr
        · cases hr
      · cases hr
    · cases hr
  · cases hr
end
end Go.E3
