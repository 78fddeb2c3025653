/- Part Ze6 of a checked reader of Go texts in their model form: it runs a function at terms in the place of numbers, and each part proves that its answers hold of the model. -/
import Derived.Test.YtgnfekfikifgiaaGreatWyZf4
namespace Go.E3
open Go.Sy
noncomputable section
variable {P : Program}
/-! told calls with letters and blocks of their own, met anywhere: what there lies is held against them -/
/-- Blocks of a told call, by blocks of the world. -/
abbrev Th := List (Pt × Pt)
def Th.at (b : Pt) : Th → Option Pt
  | [] => none
  | p :: r => bif p.1.beq b then some p.2 else Th.at b r
def Th.has (b : Pt) : Th → Bool
  | [] => false
  | p :: r => bif p.2.beq b then true else Th.has b r
theorem Th.at_mem {b b' : Pt} : ∀ {θ : Th}, θ.at b = some b' → (b, b') ∈ θ := by
  intro θ
  induction θ with
  | nil => intro h; cases h
  | cons p r ih =>
    intro h
    simp only [Th.at] at h
    cases hb : p.1.beq b <;> simp only [hb, cond_true, cond_false] at h
    · exact List.mem_cons_of_mem _ (ih h)
    · cases h
      have := Pt.beq_iff.1 hb
      subst this
      exact List.mem_cons_self
theorem Th.at_app {b : Pt} : ∀ {θ : Th} {r : Th}, Th.at b (θ ++ r) = match θ.at b with
    | some x => some x
    | none => Th.at b r := by
  intro θ
  induction θ with
  | nil => intro r; rfl
  | cons p θ ih =>
    intro r
    simp only [List.cons_append, Th.at]
    cases p.1.beq b <;> simp only [cond_true, cond_false]
    exact ih
theorem Th.has_mem {b b' : Pt} : ∀ {θ : Th}, (b, b') ∈ θ → θ.has b' = true := by
  intro θ
  induction θ with
  | nil => intro h; cases h
  | cons p r ih =>
    intro h
    simp only [Th.has]
    rcases List.mem_cons.1 h with rfl | h
    · rw [Pt.beq_iff.2 rfl]; rfl
    · cases p.2.beq b' <;> simp only [cond_true, cond_false]
      exact ih h
def bindP (b b' : Pt) (θ : Th) : Option Th := match θ.at b with
  | some c => bif c.beq b' then some θ else none
  | none => bif θ.has b' then none else some (θ ++ [(b, b')])
def ThExt (θ θ' : Th) : Prop := ∀ b b', θ.at b = some b' → θ'.at b = some b'
def ThI (θ : Th) : Prop := ∀ b c b', θ.at b = some b' → θ.at c = some b' → b = c
def ThD (D : Pt → Prop) (θ : Th) : Prop := ∀ b b', θ.at b = some b' → D b'
theorem bindP_ok {b b' : Pt} {θ θ' : Th} (h : bindP b b' θ = some θ') : ThExt θ θ' ∧ (ThI θ → ThI θ') ∧ (∀ D : Pt → Prop, D b' → ThD D θ → ThD D θ') ∧ θ'.at b = some b' := by
  unfold bindP at h
  split at h
  · rename_i c hc
    cases hb : c.beq b' <;> simp only [hb, cond_true, cond_false] at h
    · cases h
    · cases h
      have := Pt.beq_iff.1 hb
      subst this
      exact ⟨fun _ _ h => h, id, fun _ _ h => h, hc⟩
  · rename_i hn
    cases hb : θ.has b' <;> simp only [hb, cond_true, cond_false] at h
    · cases h
      have one : ∀ c, Th.at c [(b, b')] = if b = c then some b' else none := fun c => by
        simp only [Th.at]
        cases hq : b.beq c <;> simp only [cond_true, cond_false]
        · rw [if_neg fun e => by rw [Pt.beq_iff.2 e] at hq; cases hq]
        · rw [if_pos (Pt.beq_iff.1 hq)]
      have key : ∀ c x, Th.at c (θ ++ [(b, b')]) = some x → θ.at c = some x ∨ (c = b ∧ x = b') := fun c x hx => by
        rw [Th.at_app] at hx
        split at hx
        · rename_i y hy; cases hx; exact .inl hy
        · rw [one] at hx
          split at hx
          · rename_i e; cases hx; exact .inr ⟨e.symm, rfl⟩
          · cases hx
      have no : ∀ c, θ.at c ≠ some b' := fun c hc => by
        rw [Th.has_mem (Th.at_mem hc)] at hb; cases hb
      refine ⟨fun c x hx => by rw [Th.at_app, hx], fun hi c d x hc hd => ?_, fun D hD hθ c x hc => ?_, ?_⟩
      · rcases key c x hc with h1 | ⟨rfl, rfl⟩ <;> rcases key d x hd with h2 | ⟨rfl, h2⟩
        · exact hi c d x h1 h2
        · subst h2; exact (no c h1).elim
        · exact (no d h2).elim
        · rfl
      · rcases key c x hc with h1 | ⟨_, rfl⟩
        · exact hθ c x h1
        · exact hD
      · rw [Th.at_app, hn, one, if_pos rfl]
    · cases h
/-- What is known so far of letters, of blocks. -/
abbrev Mg := Sg × Th
def ThInj (M : Mg) : Prop := ThI M.2
structure Stp (E : Env) (M M' : Mg) : Prop where
  ex : Ext M.1 M'.1
  th : ThExt M.2 M'.2
  sg : SgOk E M.1 → SgOk E M'.1
  inj : ThI M.2 → ThI M'.2
theorem Stp.refl {E : Env} {M : Mg} : Stp E M M := ⟨Ext.refl _, fun _ _ h => h, id, id⟩
theorem Stp.trans {E : Env} {M M' M'' : Mg} (h : Stp E M M') (h' : Stp E M' M'') : Stp E M M'' :=
  ⟨h.ex.trans h'.ex, fun b c hb => h'.th b c (h.th b c hb), fun hs => h'.sg (h.sg hs), fun hi => h'.inj (h.inj hi)⟩
/-- All that is known in the end. -/
structure Fin' (E : Env) (M : Mg) (τ : Sg) (ϑ : Th) : Prop where
  ex : Ext M.1 τ
  sg : SgOk E τ
  th : ThExt M.2 ϑ
theorem Stp.fin {E : Env} {M M' : Mg} {τ : Sg} {ϑ : Th} (h : Stp E M M') (hf : Fin' E M' τ ϑ) : Fin' E M τ ϑ := ⟨h.ex.trans hf.ex, hf.sg, fun b c hb => hf.th b c (h.th b c hb)⟩
def rhoG (ρ : Pt → Rb) (ϑ : Th) (b : Pt) : Rb := match ϑ.at b with
  | some b' => ρ b'
  | none => default
def DG (ϑ : Th) (b : Pt) : Prop := ∃ b', ϑ.at b = some b'
theorem rhoG_at {ρ : Pt → Rb} {ϑ : Th} {b b' : Pt} (h : ϑ.at b = some b') : rhoG ρ ϑ b = ρ b' := by unfold rhoG; rw [h]
/-- A truth that is known, as a number. -/
def decT (pc : Pc) (t : T) : T := match t with
  | .bin .lt a b => match dec pc (.bin .lt a b) with
    | some true => .lit 1
    | some false => .lit 0
    | none => .bin .lt a b
  | .bin .le a b => match dec pc (.bin .le a b) with
    | some true => .lit 1
    | some false => .lit 0
    | none => .bin .le a b
  | .bin .eq a b => match dec pc (.bin .eq a b) with
    | some true => .lit 1
    | some false => .lit 0
    | none => .bin .eq a b
  | t => t
theorem tb_of {b : Bool} {r : Bool} (h : (tb b != 0) = r) : tb b = if r = true then 1 else 0 := by
  rw [tb_ne] at h; subst h; cases b <;> rfl
theorem decT_den {E : Env} {pc : Pc} (hp : pcOk E pc) (t : T) : (decT pc t).den E = t.den E := by
  unfold decT
  split
  all_goals try rfl
  all_goals
    split
    · rename_i h; exact (tb_of (dec_ok hp h)).symm
    · rename_i h; exact (tb_of (dec_ok hp h)).symm
    · rfl
def bin2g (pc : Pc) (o : O2) (a b : T) : T := match a with
  | .lit m => match b with
    | .lit n => .lit (foldF o m n)
    | b => decT pc (bin2 pc o (.lit m) b)
  | a => match o with
    | .add => match b with
      | .lit n => addN a n
      | b => addS a b
    | o => decT pc (bin2 pc o a b)
theorem bin2g_den {E : Env} {pc : Pc} (hp : pcOk E pc) (o : O2) (a b : T) : (bin2g pc o a b).den E = o.den (a.den E) (b.den E) := by
  unfold bin2g
  split
  · split
    · simp only [T.den, foldF_eq]
    · rw [decT_den hp, bin2_den hp]
  · split
    · split
      · exact addN_den E _ _
      · exact addS_den E _ _
    · rw [decT_den hp, bin2_den hp]
/-- What is wrapped anyway: its sums' parts without wrapping. -/
def strW (k : IntKind) : T → T
  | .bin .add a b => addS (strW k a) (strW k b)
  | .un (.wrap k') a => bif Nat.ble (kbits k) (kbits k') then strW k a else .un (.wrap k') a
  | t => t
theorem wrap_sum {k : IntKind} {a a' b b' : Int} (h1 : k.wrap a' = k.wrap a) (h2 : k.wrap b' = k.wrap b) : k.wrap (a' + b') = k.wrap (a + b) := by
  rw [← wrap_plus k a' b', h1, wrap_plus k a b', Int.add_comm, ← wrap_plus k b' a, h2, wrap_plus k b a, Int.add_comm]
theorem strW_den (E : Env) (k : IntKind) (t : T) : k.wrap ((strW k t).den E) = k.wrap (t.den E) := by
  induction t with
  | bin o a b iha ihb =>
    cases o <;> simp only [strW]
    rw [addS_den]
    exact wrap_sum iha ihb
  | un o a ih =>
    cases o <;> simp only [strW]
    rename_i k'
    cases hk : Nat.ble (kbits k) (kbits k') <;> simp only [cond_true, cond_false]
    rw [ih]
    exact (wrap_less hk _).symm
  | _ => simp only [strW]
def un1g (pc : Pc) (o : O1) (a : T) : T := match o with
  | .wrap k => match a with
    | .lit n => .lit (wrapF k n)
    | a => cvF pc k (strW k a)
  | o => un1 pc o a
theorem un1g_den {E : Env} {pc : Pc} (hp : pcOk E pc) (o : O1) (a : T) : (un1g pc o a).den E = o.den (a.den E) := by
  unfold un1g
  split
  · split
    · exact wrapF_eq _ _
    · rw [cvF_den hp, strW_den]; rfl
  · exact un1_den hp _ _
/-- Letters put in. -/
def sbG (pc : Pc) (σ : Sg) (t : T) : Option T :=
  T.rec (motive := fun _ => Option T) (fun n => some (.lit n)) (fun i lo hi => match σ.at i with
      | some s => bif eqF s.lo lo && eqF s.hi hi then some s.t else none
      | none => none)
    (fun o _ ih => fcO ih fun a => some (un1g pc o a))
    (fun o _ _ iha ihb => fcO iha fun a => fcO ihb fun b => some (bin2g pc o a b))
    (fun _ _ _ ihc iha ihb => fcO ihc fun c => match dec pc c with
      | some true => iha
      | some false => ihb
      | none => fcO iha fun a => fcO ihb fun b => some (mkIte c a b))
    (fun _ _ _ _ => none) (fun _ _ _ _ _ _ => none) (fun _ _ _ _ => none) (fun _ _ _ _ _ _ _ _ => none) (fun _ _ _ _ _ _ => none) t
theorem sbG_ok {E : Env} {pc : Pc} (hp : pcOk E pc) {σ : Sg} (hσ : SgOk E σ) : ∀ (t : T) {u : T}, sbG pc σ t = some u → u.den E = t.den (envS E σ) := by
  intro t
  induction t with
  | lit n => intro u h; cases h; rfl
  | v i lo hi =>
    intro u h
    change (match σ.at i with
      | some s => bif eqF s.lo lo && eqF s.hi hi then some s.t else none
      | none => none) = some u at h
    rw [Sg.at_eq] at h
    split at h
    · rename_i s hs
      cases hc : eqF s.lo lo && eqF s.hi hi <;> rw [hc] at h
      · cases h
      · cases h
        rw [Bool.and_eq_true, eqF_eq, eqF_eq, beq_iff_eq, beq_iff_eq] at hc
        obtain ⟨rfl, rfl⟩ := hc
        have := hσ s (List.mem_of_getElem? hs)
        simp only [T.den, envS, hs]
        exact (clamp_id this).symm
    · cases h
  | un o a ih =>
    intro u h
    obtain ⟨a', h1, h2⟩ := fcO_some h
    cases h2
    rw [un1g_den hp, ih h1]; rfl
  | bin o a b iha ihb =>
    intro u h
    obtain ⟨a', h1, h2⟩ := fcO_some h
    obtain ⟨b', h3, h4⟩ := fcO_some h2
    cases h4
    rw [bin2g_den hp, iha h1, ihb h3]; rfl
  | ite c a b ihc iha ihb =>
    intro u h
    obtain ⟨c', h1, h2⟩ := fcO_some h
    have hc := ihc h1
    simp only [T.den, ← hc]
    split at h2
    · rename_i hd
      have := dec_ok hp hd
      simp only [T.tr, bne_iff_ne] at this
      rw [if_neg this]; exact iha h2
    · rename_i hd
      have := dec_ok hp hd
      simp only [T.tr, bne_eq_false_iff_eq] at this
      rw [if_pos this]; exact ihb h2
    · obtain ⟨a', h3, h4⟩ := fcO_some h2
      obtain ⟨b', h5, h6⟩ := fcO_some h4
      cases h6
      rw [mkIte_den, iha h3, ihb h5]
  | sel s i _ _ => intro u h; cases h
  | upd s i x _ _ _ => intro u h; cases h
  | sh s o _ _ => intro u h; cases h
  | blit d o n s _ _ _ _ => intro u h; cases h
  | eqr n a b _ _ _ => intro u h; cases h

theorem fcO_eq {β : Type} (a : T) (k : T → Option β) : fcO (some a) k = k a := fcT_eq a k
/-- More letters change nothing. -/
theorem sbG_ext {pc : Pc} {σ : Sg} (l : Sg) : ∀ (t : T) {u : T}, sbG pc σ t = some u → sbG pc (σ ++ l) t = some u := by
  intro t
  induction t with
  | lit n => intro u h; cases h; rfl
  | v i lo hi =>
    intro u h
    change (match σ.at i with
      | some s => bif eqF s.lo lo && eqF s.hi hi then some s.t else none
      | none => none) = some u at h
    change (match (σ ++ l).at i with
      | some s => bif eqF s.lo lo && eqF s.hi hi then some s.t else none
      | none => none) = some u
    rw [Sg.at_eq] at h ⊢
    split at h
    · rename_i s hs
      rw [List.getElem?_append_left (List.getElem?_eq_some_iff.1 hs).1, hs]
      exact h
    · cases h
  | un o a ih =>
    intro u h
    obtain ⟨a', h1, h2⟩ := fcO_some h
    change fcO (sbG pc (σ ++ l) a) (fun a => some (un1g pc o a)) = some u
    rw [ih h1]
    rw [fcO_eq]; exact h2
  | bin o a b iha ihb =>
    intro u h
    obtain ⟨a', h1, h2⟩ := fcO_some h
    obtain ⟨b', h3, h4⟩ := fcO_some h2
    change fcO (sbG pc (σ ++ l) a) (fun a => fcO (sbG pc (σ ++ l) b) fun b => some (bin2g pc o a b)) = some u
    rw [iha h1]
    rw [fcO_eq, ihb h3]
    rw [fcO_eq]; exact h4
  | ite c a b ihc iha ihb =>
    intro u h
    obtain ⟨c', h1, h2⟩ := fcO_some h
    change fcO (sbG pc (σ ++ l) c) (fun c => match dec pc c with
      | some true => sbG pc (σ ++ l) a
      | some false => sbG pc (σ ++ l) b
      | none => fcO (sbG pc (σ ++ l) a) fun a => fcO (sbG pc (σ ++ l) b) fun b => some (mkIte c a b)) = some u
    rw [ihc h1]
    rw [fcO_eq]
    split at h2
    · exact iha h2
    · exact ihb h2
    · obtain ⟨a', h3, h4⟩ := fcO_some h2
      obtain ⟨b', h5, h6⟩ := fcO_some h4
      rw [iha h3]
      rw [fcO_eq, ihb h5]
      rw [fcO_eq]; exact h6
  | sel s i _ _ => intro u h; cases h
  | upd s i x _ _ _ => intro u h; cases h
  | sh s o _ _ => intro u h; cases h
  | blit d o n s _ _ _ _ => intro u h; cases h
  | eqr n a b _ _ _ => intro u h; cases h
/-- A term of a told call, one of the world. -/
def mTg (pc : Pc) (p a : T) (σ : Sg) : Option Sg := match p with
  | .v i lo hi => bif Nat.beq i σ.length then (bif inIv pc lo hi a then some (σ ++ [⟨lo, hi, a⟩]) else none) else match σ.at i with
    | some s => bif eqF s.lo lo && (eqF s.hi hi && s.t.beq a) then some σ else none
    | none => none
  | .lit m => match a with
    | .lit k => bif eqF m k then some σ else none
    | _ => none
  | p => match sbG pc σ p with
    | some u => bif u.beq a then some σ else none
    | none => none
theorem mTg_ok {E : Env} {pc : Pc} (hp : pcOk E pc) {p a : T} {σ σ' : Sg} (h : mTg pc p a σ = some σ') : Ext σ σ' ∧ (SgOk E σ → SgOk E σ') ∧ ∀ τ, Ext σ' τ → SgOk E τ → p.den (envS E τ) = a.den E := by
  unfold mTg at h
  split at h
  · rename_i i lo hi
    cases hc : Nat.beq i σ.length <;> simp only [hc, cond_true, cond_false] at h
    · rw [Sg.at_eq] at h
      split at h
      · rename_i s hs
        cases hq : eqF s.lo lo && (eqF s.hi hi && s.t.beq a) <;> simp only [hq, cond_true, cond_false] at h
        · cases h
        · cases h
          simp only [Bool.and_eq_true, eqF_eq, beq_iff_eq] at hq
          obtain ⟨rfl, rfl, h3⟩ := hq
          have h3 := T.beq_eq h3
          refine ⟨Ext.refl _, id, fun τ ht hsg => ?_⟩
          obtain ⟨l, rfl⟩ := ht
          have hs' : (σ ++ l)[i]? = some s := by
            rw [List.getElem?_append_left (List.getElem?_eq_some_iff.1 hs).1]; exact hs
          have := hsg s (List.mem_of_getElem? hs')
          simp only [T.den, envS, hs', ← h3]
          exact clamp_id this
      · cases h
    · cases hr : inIv pc lo hi a <;> simp only [hr, cond_true, cond_false] at h
      · cases h
      · cases h
        have hi' := Nat.eq_of_beq_eq_true hc
        have hr := inIv_ok hp hr
        refine ⟨⟨_, rfl⟩, fun hs s hs' => ?_, fun τ ht _ => ?_⟩
        · rcases List.mem_append.1 hs' with hs' | hs'
          · exact hs s hs'
          · rw [List.mem_singleton] at hs'; subst hs'; exact hr
        · obtain ⟨l, rfl⟩ := ht
          simp only [T.den, envS, hi', List.append_assoc, List.getElem?_append_right (Nat.le_refl _), Nat.sub_self]
          exact clamp_id hr
  · rename_i m
    split at h
    · rename_i k
      cases hc : eqF m k <;> rw [hc] at h
      · cases h
      · cases h
        rw [eqF_eq, beq_iff_eq] at hc
        exact ⟨Ext.refl _, id, fun _ _ _ => hc⟩
    · cases h
  · split at h
    · rename_i u hu
      cases hb : u.beq a <;> simp only [hb, cond_true, cond_false] at h
      · cases h
      · cases h
        have hb := T.beq_eq hb
        subst hb
        refine ⟨Ext.refl _, id, fun τ ht hsg => ?_⟩
        obtain ⟨l, rfl⟩ := ht
        exact (sbG_ok hp hsg _ (sbG_ext l _ hu)).symm
    · cases h
def mTsg (pc : Pc) : List T → List T → Sg → Option Sg
  | [], [], σ => some σ
  | p :: ps, a :: as, σ => match mTg pc p a σ with
    | some σ => mTsg pc ps as σ
    | none => none
  | _, _, _ => none
theorem mTsg_ok {E : Env} {pc : Pc} (hp : pcOk E pc) : ∀ {ps as : List T} {σ σ' : Sg}, mTsg pc ps as σ = some σ' → Ext σ σ' ∧ (SgOk E σ → SgOk E σ') ∧ ∀ τ, Ext σ' τ → SgOk E τ → ps.map (T.den (envS E τ)) = as.map (T.den E) := by
  intro ps
  induction ps with
  | nil =>
    intro as σ σ' h
    cases as with
    | nil => cases h; exact ⟨Ext.refl _, id, fun _ _ _ => rfl⟩
    | cons a as => cases h
  | cons p ps ih =>
    intro as σ σ' h
    cases as with
    | nil => cases h
    | cons a as =>
      simp only [mTsg] at h
      split at h
      · rename_i σ1 h1
        obtain ⟨e1, s1, d1⟩ := mTg_ok hp h1
        obtain ⟨e2, s2, d2⟩ := ih h
        exact ⟨e1.trans e2, fun hs => s2 (s1 hs), fun τ ht hq => by simp only [List.map_cons]; rw [d1 τ (e2.trans ht) hq, d2 τ ht hq]⟩
      · cases h
def onS (f : Sg → Option Sg) (M : Mg) : Option Mg := match f M.1 with
  | some σ => some (σ, M.2)
  | none => none
def onT (f : Th → Option Th) (M : Mg) : Option Mg := match f M.2 with
  | some θ => some (M.1, θ)
  | none => none
mutual
def mCg (pc : Pc) : C → C → Mg → Option Mg
  | .int k s, .int k' t, M => bif decide (k = k') then onS (mTg pc s t) M else none
  | .bool s, .bool t, M => onS (mTg pc s t) M
  | .str s, .str t, M => onS (mTsg pc s t) M
  | .ptr b o, .ptr b' o', M => bif Nat.beq o o' then onT (bindP b b') M else none
  | .slc b o n c, .slc b' o' n' c', M => bif Nat.beq o o' && (Nat.beq n n' && c.beq c') then onT (bindP b b') M else none
  | .map b, .map b', M => onT (bindP b b') M
  | .fn f cs, .fn f' cs', M => bif Nat.beq f f' then mCgs pc cs cs' M else none
  | .ifc t g cs, .ifc t' g' cs', M => bif Nat.beq t t' && (g == g') then mCgs pc cs cs' M else none
  | .any i, .any j, M => bif Nat.beq i j then some M else none
  | .nilp, .nilp, M => some M
  | .nils, .nils, M => some M
  | .nilf, .nilf, M => some M
  | .nilm, .nilm, M => some M
  | .nili, .nili, M => some M
  | _, _, _ => none
def mCgs (pc : Pc) : List C → List C → Mg → Option Mg
  | [], [], M => some M
  | x :: xs, y :: ys, M => match mCg pc x y M with
    | some M => mCgs pc xs ys M
    | none => none
  | _, _, _ => none
end
/-- What a cell of a told call says of one of the world. -/
structure RC (E : Env) (M M' : Mg) (x y : C) : Prop where
  st : Stp E M M'
  d : ∀ (ρ : Pt → Rb) (D : Pt → Prop), y.ok E ρ D → ThD D M.2 → ThD D M'.2
  r : ∀ τ ϑ, Fin' E M' τ ϑ → ∀ (ρ : Pt → Rb) (D : Pt → Prop), x.val (envS E τ) (rhoG ρ ϑ) = y.val E ρ ∧ (y.ok E ρ D → x.ok (envS E τ) (rhoG ρ ϑ) (DG ϑ))
structure RCs (E : Env) (M M' : Mg) (xs ys : List C) : Prop where
  st : Stp E M M'
  d : ∀ (ρ : Pt → Rb) (D : Pt → Prop), (∀ y ∈ ys, y.ok E ρ D) → ThD D M.2 → ThD D M'.2
  r : ∀ τ ϑ, Fin' E M' τ ϑ → ∀ (ρ : Pt → Rb) (D : Pt → Prop), xs.map (C.val (envS E τ) (rhoG ρ ϑ)) = ys.map (C.val E ρ) ∧ ((∀ y ∈ ys, y.ok E ρ D) → ∀ x ∈ xs, x.ok (envS E τ) (rhoG ρ ϑ) (DG ϑ))
theorem onS_ok {f : Sg → Option Sg} {M M' : Mg} (h : onS f M = some M') : f M.1 = some M'.1 ∧ M'.2 = M.2 := by
  unfold onS at h
  split at h
  · rename_i σ hσ; cases h; exact ⟨hσ, rfl⟩
  · cases h
theorem onT_ok {f : Th → Option Th} {M M' : Mg} (h : onT f M = some M') : f M.2 = some M'.2 ∧ M'.1 = M.1 := by
  unfold onT at h
  split at h
  · rename_i σ hσ; cases h; exact ⟨hσ, rfl⟩
  · cases h
theorem stS {E : Env} {M M' : Mg} (e : Ext M.1 M'.1) (s : SgOk E M.1 → SgOk E M'.1) (h : M'.2 = M.2) : Stp E M M' := ⟨e, fun b c hb => by rw [h]; exact hb, s, fun hi => by rw [h]; exact hi⟩
theorem stT {E : Env} {M M' : Mg} {b b' : Pt} (hb : bindP b b' M.2 = some M'.2) (h : M'.1 = M.1) : Stp E M M' := ⟨⟨[], by rw [h]; simp⟩, (bindP_ok hb).1, fun hs => by rw [h]; exact hs, (bindP_ok hb).2.1⟩
theorem mCg_ok {E : Env} {pc : Pc} (hp : pcOk E pc) (x : C) : ∀ y M M', mCg pc x y M = some M' → RC E M M' x y := by
  refine C.rec (motive_1 := fun x => ∀ y M M', mCg pc x y M = some M' → RC E M M' x y) (motive_2 := fun xs => ∀ ys M M', mCgs pc xs ys M = some M' → RCs E M M' xs ys) ?_ ?_ ?_ ?_ ?_ ?_ ?_ ?_ ?_ ?_ ?_ ?_ ?_ ?_ ?_ ?_ ?_ x
  · intro k s y M M' h
    cases y <;> simp only [mCg] at h <;> first | (cases h; done) | skip
    rename_i k' t
    cases hk : decide (k = k') <;> simp only [hk, cond_true, cond_false] at h
    · cases h
    rw [decide_eq_true_eq] at hk
    subst hk
    obtain ⟨h1, h2⟩ := onS_ok h
    obtain ⟨e1, s1, d1⟩ := mTg_ok hp h1
    exact ⟨stS e1 s1 h2, fun _ _ _ hd => by rw [h2]; exact hd, fun τ ϑ hf ρ D => ⟨by simp only [C.val, d1 τ hf.ex hf.sg], fun _ => trivial⟩⟩
  · intro s y M M' h
    cases y <;> simp only [mCg] at h <;> first | (cases h; done) | skip
    obtain ⟨h1, h2⟩ := onS_ok h
    obtain ⟨e1, s1, d1⟩ := mTg_ok hp h1
    exact ⟨stS e1 s1 h2, fun _ _ _ hd => by rw [h2]; exact hd, fun τ ϑ hf ρ D => ⟨by simp only [C.val, T.tr, d1 τ hf.ex hf.sg], fun _ => trivial⟩⟩
  · intro b o y M M' h
    cases y <;> simp only [mCg] at h <;> first | (cases h; done) | skip
    rename_i b' o'
    cases hk : Nat.beq o o' <;> simp only [hk, cond_true, cond_false] at h
    · cases h
    have hk := Nat.eq_of_beq_eq_true hk
    subst hk
    obtain ⟨h1, h2⟩ := onT_ok h
    obtain ⟨b1, b2, b3, b4⟩ := bindP_ok h1
    exact ⟨stT h1 h2, fun ρ D hy hd => b3 D hy hd, fun τ ϑ hf ρ D => ⟨by simp only [C.val, rhoG_at (hf.th _ _ b4)], fun _ => ⟨_, hf.th _ _ b4⟩⟩⟩
  · intro y M M' h
    cases y <;> simp only [mCg] at h <;> first | (cases h; done) | skip
    cases h
    exact ⟨.refl, fun _ _ _ hd => hd, fun τ ϑ hf ρ D => ⟨rfl, fun _ => trivial⟩⟩
  · intro b o n c y M M' h
    cases y <;> simp only [mCg] at h <;> first | (cases h; done) | skip
    rename_i b' o' n' c'
    cases hk : Nat.beq o o' && (Nat.beq n n' && c.beq c') <;> simp only [hk, cond_true, cond_false] at h
    · cases h
    simp only [Bool.and_eq_true] at hk
    obtain ⟨k1, k2, k3⟩ := hk
    have k1 := Nat.eq_of_beq_eq_true k1
    have k2 := Nat.eq_of_beq_eq_true k2
    have k3 := Cp.beq_eq k3
    subst k1 k2 k3
    obtain ⟨h1, h2⟩ := onT_ok h
    obtain ⟨b1, b2, b3, b4⟩ := bindP_ok h1
    refine ⟨stT h1 h2, fun ρ D hy hd => b3 D hy.1 hd, fun τ ϑ hf ρ D => ⟨by simp only [C.val, rhoG_at (hf.th _ _ b4)], fun hy => ⟨⟨_, hf.th _ _ b4⟩, ?_⟩⟩⟩
    rw [rhoG_at (hf.th _ _ b4)]; exact hy.2
  · intro y M M' h
    cases y <;> simp only [mCg] at h <;> first | (cases h; done) | skip
    cases h
    exact ⟨.refl, fun _ _ _ hd => hd, fun τ ϑ hf ρ D => ⟨rfl, fun _ => trivial⟩⟩
  · intro s y M M' h
    cases y <;> simp only [mCg] at h <;> first | (cases h; done) | skip
    rename_i t
    obtain ⟨h1, h2⟩ := onS_ok h
    obtain ⟨e1, s1, d1⟩ := mTsg_ok hp h1
    refine ⟨stS e1 s1 h2, fun _ _ _ hd => by rw [h2]; exact hd, fun τ ϑ hf ρ D => ⟨?_, fun hok u hu => ?_⟩⟩
    · simp only [C.val, strOf]
      have := congrArg (List.map byteOf) (d1 τ hf.ex hf.sg)
      rw [List.map_map, List.map_map] at this
      have e : s.map (fun t => byteOf (t.den (envS E τ))) = t.map fun t => byteOf (t.den E) := this
      rw [e]
    · have : u.den (envS E τ) ∈ s.map (T.den (envS E τ)) := List.mem_map_of_mem hu
      rw [d1 τ hf.ex hf.sg] at this
      obtain ⟨v, hv, hv2⟩ := List.mem_map.1 this
      rw [← hv2]; exact hok v hv
  · intro f cs ih y M M' h
    cases y <;> simp only [mCg] at h <;> first | (cases h; done) | skip
    rename_i f' cs'
    cases hk : Nat.beq f f' <;> simp only [hk, cond_true, cond_false] at h
    · cases h
    have hk := Nat.eq_of_beq_eq_true hk
    subst hk
    have r := ih _ _ _ h
    refine ⟨r.st, fun ρ D hy hd => r.d ρ D (oks_iff.1 hy) hd, fun τ ϑ hf ρ D => ⟨?_, fun hy => ?_⟩⟩
    · simp only [C.val, vals_map, (r.r τ ϑ hf ρ D).1]
    · exact oks_iff.2 ((r.r τ ϑ hf ρ D).2 (oks_iff.1 hy))
  · intro y M M' h
    cases y <;> simp only [mCg] at h <;> first | (cases h; done) | skip
    cases h
    exact ⟨.refl, fun _ _ _ hd => hd, fun τ ϑ hf ρ D => ⟨rfl, fun _ => trivial⟩⟩
  · intro b y M M' h
    cases y <;> simp only [mCg] at h <;> first | (cases h; done) | skip
    obtain ⟨h1, h2⟩ := onT_ok h
    obtain ⟨b1, b2, b3, b4⟩ := bindP_ok h1
    exact ⟨stT h1 h2, fun ρ D hy hd => b3 D hy hd, fun τ ϑ hf ρ D => ⟨by simp only [C.val, rhoG_at (hf.th _ _ b4)], fun _ => ⟨_, hf.th _ _ b4⟩⟩⟩
  · intro y M M' h
    cases y <;> simp only [mCg] at h <;> first | (cases h; done) | skip
    cases h
    exact ⟨.refl, fun _ _ _ hd => hd, fun τ ϑ hf ρ D => ⟨rfl, fun _ => trivial⟩⟩
  · intro t g cs ih y M M' h
    cases y <;> simp only [mCg] at h <;> first | (cases h; done) | skip
    rename_i t' g' cs'
    cases hk : Nat.beq t t' && (g == g') <;> simp only [hk, cond_true, cond_false] at h
    · cases h
    simp only [Bool.and_eq_true, beq_iff_eq] at hk
    obtain ⟨k1, k2⟩ := hk
    have k1 := Nat.eq_of_beq_eq_true k1
    subst k1 k2
    have r := ih _ _ _ h
    refine ⟨r.st, fun ρ D hy hd => r.d ρ D (oks_iff.1 hy) hd, fun τ ϑ hf ρ D => ⟨?_, fun hy => ?_⟩⟩
    · simp only [C.val, vals_map, (r.r τ ϑ hf ρ D).1]
    · exact oks_iff.2 ((r.r τ ϑ hf ρ D).2 (oks_iff.1 hy))
  · intro y M M' h
    cases y <;> simp only [mCg] at h <;> first | (cases h; done) | skip
    cases h
    exact ⟨.refl, fun _ _ _ hd => hd, fun τ ϑ hf ρ D => ⟨rfl, fun _ => trivial⟩⟩
  · intro v y M M' h
    cases y <;> simp only [mCg] at h <;> first | (cases h; done) | skip
  · intro i y M M' h
    cases y <;> simp only [mCg] at h <;> first | (cases h; done) | skip
    rename_i j
    cases hk : Nat.beq i j <;> simp only [hk, cond_true, cond_false] at h
    · cases h
    have hk := Nat.eq_of_beq_eq_true hk
    subst hk
    cases h
    exact ⟨.refl, fun _ _ _ hd => hd, fun τ ϑ hf ρ D => ⟨rfl, fun hy => hy⟩⟩
  · intro ys M M' h
    cases ys with
    | nil => simp only [mCgs] at h; cases h; exact ⟨.refl, fun _ _ _ hd => hd, fun τ ϑ hf ρ D => ⟨rfl, fun _ _ h => nomatch h⟩⟩
    | cons y ys => simp only [mCgs] at h; cases h
  · intro x xs ih ihs ys M M' h
    cases ys with
    | nil => simp only [mCgs] at h; cases h
    | cons y ys =>
      simp only [mCgs] at h
      split at h
      · rename_i M1 h1
        have r1 := ih _ _ _ h1
        have r2 := ihs _ _ _ h
        refine ⟨r1.st.trans r2.st, fun ρ D hy hd => r2.d ρ D (fun z hz => hy z (List.mem_cons_of_mem _ hz)) (r1.d ρ D (hy _ List.mem_cons_self) hd), fun τ ϑ hf ρ D => ?_⟩
        obtain ⟨a1, a2⟩ := r1.r τ ϑ (r2.st.fin hf) ρ D
        obtain ⟨b1, b2⟩ := r2.r τ ϑ hf ρ D
        refine ⟨by simp only [List.map_cons, a1, b1], fun hy z hz => ?_⟩
        rcases List.mem_cons.1 hz with rfl | hz
        · exact a2 (hy _ List.mem_cons_self)
        · exact b2 (fun z hz => hy z (List.mem_cons_of_mem _ hz)) z hz
      · cases h
theorem mCgs_ok {E : Env} {pc : Pc} (hp : pcOk E pc) : ∀ {xs ys : List C} {M M' : Mg}, mCgs pc xs ys M = some M' → RCs E M M' xs ys := by
  intro xs
  induction xs with
  | nil =>
    intro ys M M' h
    cases ys with
    | nil => simp only [mCgs] at h; cases h; exact ⟨.refl, fun _ _ _ hd => hd, fun τ ϑ hf ρ D => ⟨rfl, fun _ _ h => nomatch h⟩⟩
    | cons y ys => simp only [mCgs] at h; cases h
  | cons x xs ihs =>
    intro ys M M' h
    cases ys with
    | nil => simp only [mCgs] at h; cases h
    | cons y ys =>
      simp only [mCgs] at h
      split at h
      · rename_i M1 h1
        have r1 := mCg_ok hp x _ _ _ h1
        have r2 := ihs h
        refine ⟨r1.st.trans r2.st, fun ρ D hy hd => r2.d ρ D (fun z hz => hy z (List.mem_cons_of_mem _ hz)) (r1.d ρ D (hy _ List.mem_cons_self) hd), fun τ ϑ hf ρ D => ?_⟩
        obtain ⟨a1, a2⟩ := r1.r τ ϑ (r2.st.fin hf) ρ D
        obtain ⟨b1, b2⟩ := r2.r τ ϑ hf ρ D
        refine ⟨by simp only [List.map_cons, a1, b1], fun hy z hz => ?_⟩
        rcases List.mem_cons.1 hz with rfl | hz
        · exact a2 (hy _ List.mem_cons_self)
        · exact b2 (fun z hz => hy z (List.mem_cons_of_mem _ hz)) z hz
      · cases h
/-- Numbers first: quick. -/
def mCq (pc : Pc) (x y : C) (M : Mg) : Option Mg := match x, y with
  | .int k s, .int k' t => bif decide (k = k') then onS (mTg pc s t) M else none
  | x, y => mCg pc x y M
theorem mCq_eq (pc : Pc) (x y : C) (M : Mg) : mCq pc x y M = mCg pc x y M := by
  unfold mCq
  split
  · simp only [mCg]
  · rfl
end
end Go.E3
