/- Part Ze7 of a checked reader of Go texts in their model form: it runs a function at terms in the place of numbers, and each part proves that its answers hold of the model. -/
import Derived.Test.YtgnfekfikifgiaaGreatWyZe6
namespace Go.E3
open Go.Sy
noncomputable section
variable {P : Program}
def mAg (pc : Pc) (x y : A) (M : Mg) : Option Mg := match x, y with
  | .c x, .c y => mCg pc x y M
  | .agg xs, .agg ys => mCgs pc xs ys M
  | _, _ => none
structure RA (E : Env) (M M' : Mg) (x y : A) : Prop where
  st : Stp E M M'
  d : ∀ (ρ : Pt → Rb) (D : Pt → Prop), y.ok E ρ D → ThD D M.2 → ThD D M'.2
  r : ∀ τ ϑ, Fin' E M' τ ϑ → ∀ (ρ : Pt → Rb) (D : Pt → Prop), x.val (envS E τ) (rhoG ρ ϑ) = y.val E ρ ∧ (y.ok E ρ D → x.ok (envS E τ) (rhoG ρ ϑ) (DG ϑ))
theorem mAg_ok {E : Env} {pc : Pc} (hp : pcOk E pc) {x y : A} {M M' : Mg} (h : mAg pc x y M = some M') : RA E M M' x y := by
  unfold mAg at h
  split at h
  · have r := mCg_ok hp _ _ _ _ h
    exact ⟨r.st, r.d, r.r⟩
  · have r := mCgs_ok hp h
    exact ⟨r.st, r.d, fun τ ϑ hf ρ D => ⟨by simp only [A.val, (r.r τ ϑ hf ρ D).1], (r.r τ ϑ hf ρ D).2⟩⟩
  · cases h
def mLg (pc : Pc) (x y : L) (M : Mg) : Option Mg := match x, y with
  | .a x, .a y => mAg pc x y M
  | _, _ => none
structure RL (E : Env) (M M' : Mg) (x y : L) : Prop where
  st : Stp E M M'
  d : ∀ (ρ : Pt → Rb) (D : Pt → Prop), y.ok E ρ D → ThD D M.2 → ThD D M'.2
  r : ∀ τ ϑ, Fin' E M' τ ϑ → ∀ (ρ : Pt → Rb) (D : Pt → Prop), x.val (envS E τ) (rhoG ρ ϑ) = y.val E ρ ∧ (y.ok E ρ D → x.ok (envS E τ) (rhoG ρ ϑ) (DG ϑ))
theorem mLg_ok {E : Env} {pc : Pc} (hp : pcOk E pc) {x y : L} {M M' : Mg} (h : mLg pc x y M = some M') : RL E M M' x y := by
  unfold mLg at h
  split at h
  · have r := mAg_ok hp h
    exact ⟨r.st, r.d, r.r⟩
  · cases h
def mLgs (pc : Pc) : List L → List L → Mg → Option Mg
  | [], [], M => some M
  | x :: xs, y :: ys, M => match mLg pc x y M with
    | some M => mLgs pc xs ys M
    | none => none
  | _, _, _ => none
structure RLs (E : Env) (M M' : Mg) (xs ys : List L) : Prop where
  st : Stp E M M'
  d : ∀ (ρ : Pt → Rb) (D : Pt → Prop), (∀ y ∈ ys, y.ok E ρ D) → ThD D M.2 → ThD D M'.2
  r : ∀ τ ϑ, Fin' E M' τ ϑ → ∀ (ρ : Pt → Rb) (D : Pt → Prop), xs.map (L.val (envS E τ) (rhoG ρ ϑ)) = ys.map (L.val E ρ) ∧ ((∀ y ∈ ys, y.ok E ρ D) → ∀ x ∈ xs, x.ok (envS E τ) (rhoG ρ ϑ) (DG ϑ))
theorem mLgs_ok {E : Env} {pc : Pc} (hp : pcOk E pc) : ∀ {xs ys : List L} {M M' : Mg}, mLgs pc xs ys M = some M' → RLs E M M' xs ys := by
  intro xs
  induction xs with
  | nil =>
    intro ys M M' h
    cases ys with
    | nil => simp only [mLgs] at h; cases h; exact ⟨.refl, fun _ _ _ hd => hd, fun τ ϑ hf ρ D => ⟨rfl, fun _ _ h => nomatch h⟩⟩
    | cons y ys => simp only [mLgs] at h; cases h
  | cons x xs ihs =>
    intro ys M M' h
    cases ys with
    | nil => simp only [mLgs] at h; cases h
    | cons y ys =>
      simp only [mLgs] at h
      split at h
      · rename_i M1 h1
        have r1 := mLg_ok hp h1
        have r2 := ihs h
        refine ⟨r1.st.trans r2.st, fun ρ D hy hd => r2.d ρ D (fun z hz => hy z (List.mem_cons_of_mem _ hz)) (r1.d ρ D (hy _ List.mem_cons_self) hd), fun τ ϑ hf ρ D => ?_⟩
        obtain ⟨a1, a2⟩ := r1.r τ ϑ (r2.st.fin hf) ρ D
        obtain ⟨b1, b2⟩ := r2.r τ ϑ hf ρ D
        refine ⟨by simp only [List.map_cons, a1, b1], fun hy z hz => ?_⟩
        rcases List.mem_cons.1 hz with rfl | hz
        · exact a2 (hy _ List.mem_cons_self)
        · exact b2 (fun z hz => hy z (List.mem_cons_of_mem _ hz)) z hz
      · cases h
/-! trees of cells -/
def mTrig (pc : Pc) : Tri C → Tri C → Mg → Option Mg
  | .e, .e, M => some M
  | .n none l r, .n none l' r', M => match mTrig pc l l' M with
    | some M => mTrig pc r r' M
    | none => none
  | .n (some x) l r, .n (some y) l' r', M => match mCq pc x y M with
    | some M => match mTrig pc l l' M with
      | some M => mTrig pc r r' M
      | none => none
    | none => none
  | _, _, _ => none
/-- What a cell that is looked up says. -/
structure RT (E : Env) (M M' : Mg) (t u : Tri C) : Prop where
  st : Stp E M M'
  none_ : ∀ p, t.get p = none ↔ u.get p = none
  d : ∀ (ρ : Pt → Rb) (D : Pt → Prop), (∀ p y, u.get p = some y → y.ok E ρ D) → ThD D M.2 → ThD D M'.2
  r : ∀ τ ϑ, Fin' E M' τ ϑ → ∀ p x y, t.get p = some x → u.get p = some y → ∀ (ρ : Pt → Rb) (D : Pt → Prop), x.val (envS E τ) (rhoG ρ ϑ) = y.val E ρ ∧ (y.ok E ρ D → x.ok (envS E τ) (rhoG ρ ϑ) (DG ϑ))
theorem mTrig_ok {E : Env} {pc : Pc} (hp : pcOk E pc) : ∀ {t u : Tri C} {M M' : Mg}, mTrig pc t u M = some M' → RT E M M' t u := by
  intro t
  induction t with
  | e =>
    intro u M M' h
    cases u with
    | e => simp only [mTrig] at h; cases h; exact ⟨.refl, fun _ => Iff.rfl, fun _ _ _ hd => hd, fun τ ϑ _ p x y hx => by rw [Tri.get_e] at hx; cases hx⟩
    | n y l r => simp only [mTrig] at h; cases h
  | n x l r ihl ihr =>
    intro u M M' h
    cases u with
    | e => cases x <;> simp only [mTrig] at h <;> cases h
    | n y l' r' =>
      cases x with
      | none =>
        cases y with
        | some y => simp only [mTrig] at h; cases h
        | none =>
          simp only [mTrig] at h
          split at h
          · rename_i M1 h1
            have a := ihl h1
            have b := ihr h
            refine ⟨a.st.trans b.st, fun p => ?_, fun ρ D hy hd => b.d ρ D (fun p y hq => hy (.r p) y hq) (a.d ρ D (fun p y hq => hy (.l p) y hq) hd), fun τ ϑ hf p x y hx hy => ?_⟩
            · cases p with
              | z => exact Iff.rfl
              | l p => exact a.none_ p
              | r p => exact b.none_ p
            · cases p with
              | z => cases hx
              | l p => exact a.r τ ϑ (b.st.fin hf) p x y hx hy
              | r p => exact b.r τ ϑ hf p x y hx hy
          · cases h
      | some x =>
        cases y with
        | none => simp only [mTrig] at h; cases h
        | some y =>
          simp only [mTrig, mCq_eq] at h
          split at h
          · rename_i M0 h0
            split at h
            · rename_i M1 h1
              have c := mCg_ok hp _ _ _ _ h0
              have a := ihl h1
              have b := ihr h
              refine ⟨(c.st.trans a.st).trans b.st, fun p => ?_, fun ρ D hy hd => b.d ρ D (fun p y hq => hy (.r p) y hq) (a.d ρ D (fun p y hq => hy (.l p) y hq) (c.d ρ D (hy .z y rfl) hd)), fun τ ϑ hf p x' y' hx hy => ?_⟩
              · cases p with
                | z => exact ⟨(fun h => by cases h), (fun h => by cases h)⟩
                | l p => exact a.none_ p
                | r p => exact b.none_ p
              · cases p with
                | z => cases hx; cases hy; exact c.r τ ϑ ((a.st.trans b.st).fin hf)
                | l p => exact a.r τ ϑ (b.st.fin hf) p x' y' hx hy
                | r p => exact b.r τ ϑ hf p x' y' hx hy
            · cases h
          · cases h
/-! blocks -/
/-- Cells without letters, without blocks. -/
def litB : T → Bool
  | .lit _ => true
  | _ => false
theorem litB_den {t : T} (h : litB t = true) (E E' : Env) : t.den E = t.den E' := by
  cases t <;> first | (simp [litB] at h; done) | rfl
def C.clo : C → Bool
  | .int _ t => litB t
  | .bool t => litB t
  | .str l => l.all litB
  | .nilp => true
  | .nils => true
  | .nilf => true
  | .nilm => true
  | .nili => true
  | _ => false
theorem C.clo_ok {x : C} (h : x.clo = true) (E E' : Env) (ρ ρ' : Pt → Rb) (D D' : Pt → Prop) : x.val E ρ = x.val E' ρ' ∧ (x.ok E' ρ' D' → x.ok E ρ D) := by
  cases x <;> simp only [C.clo] at h <;> first | (cases h; done) | exact ⟨rfl, fun _ => trivial⟩ | skip
  · exact ⟨by simp only [C.val, litB_den h E E'], fun _ => trivial⟩
  · exact ⟨by simp only [C.val, T.tr, litB_den h E E'], fun _ => trivial⟩
  · rename_i l
    rw [List.all_eq_true] at h
    refine ⟨?_, fun hx t ht => ?_⟩
    · simp only [C.val, strOf]
      rw [List.map_congr_left fun t ht => by rw [litB_den (h t ht) E E']]
    · rw [litB_den (h t ht) E E']; exact hx t ht
def mEg (pc : Pc) : List Ent → List Ent → Mg → Option Mg
  | [], [], M => some M
  | e :: es, f :: fs, M => bif Nat.beq e.born f.born then match mAg pc e.key f.key M with
      | some M => match mAg pc e.val f.val M with
        | some M => mEg pc es fs M
        | none => none
      | none => none
    else none
  | _, _, _ => none
structure RE (E : Env) (M M' : Mg) (xs ys : List Ent) : Prop where
  st : Stp E M M'
  d : ∀ (ρ : Pt → Rb) (D : Pt → Prop), (∀ e ∈ ys, e.key.ok E ρ D ∧ e.val.ok E ρ D) → ThD D M.2 → ThD D M'.2
  r : ∀ τ ϑ, Fin' E M' τ ϑ → ∀ (ρ : Pt → Rb) (D : Pt → Prop), xs.map (fun e => ({ key := e.key.val (envS E τ) (rhoG ρ ϑ), val := e.val.val (envS E τ) (rhoG ρ ϑ), born := e.born } : MapEntry)) = ys.map (fun e => ({ key := e.key.val E ρ, val := e.val.val E ρ, born := e.born } : MapEntry)) ∧ ((∀ e ∈ ys, e.key.ok E ρ D ∧ e.val.ok E ρ D) → ∀ e ∈ xs, e.key.ok (envS E τ) (rhoG ρ ϑ) (DG ϑ) ∧ e.val.ok (envS E τ) (rhoG ρ ϑ) (DG ϑ))
theorem mEg_ok {E : Env} {pc : Pc} (hp : pcOk E pc) : ∀ {xs ys : List Ent} {M M' : Mg}, mEg pc xs ys M = some M' → RE E M M' xs ys := by
  intro xs
  induction xs with
  | nil =>
    intro ys M M' h
    cases ys with
    | nil => simp only [mEg] at h; cases h; exact ⟨.refl, fun _ _ _ hd => hd, fun τ ϑ hf ρ D => ⟨rfl, fun _ _ h => nomatch h⟩⟩
    | cons y ys => simp only [mEg] at h; cases h
  | cons x xs ihs =>
    intro ys M M' h
    cases ys with
    | nil => simp only [mEg] at h; cases h
    | cons y ys =>
      simp only [mEg] at h
      cases hk : Nat.beq x.born y.born <;> simp only [hk, cond_true, cond_false] at h
      · cases h
      have hk := Nat.eq_of_beq_eq_true hk
      split at h
      · rename_i M1 h1
        split at h
        · rename_i M2 h2
          have r1 := mAg_ok hp h1
          have r2 := mAg_ok hp h2
          have r3 := ihs h
          refine ⟨(r1.st.trans r2.st).trans r3.st, fun ρ D hy hd => r3.d ρ D (fun z hz => hy z (List.mem_cons_of_mem _ hz)) (r2.d ρ D (hy _ List.mem_cons_self).2 (r1.d ρ D (hy _ List.mem_cons_self).1 hd)), fun τ ϑ hf ρ D => ?_⟩
          obtain ⟨a1, a2⟩ := r1.r τ ϑ ((r2.st.trans r3.st).fin hf) ρ D
          obtain ⟨b1, b2⟩ := r2.r τ ϑ (r3.st.fin hf) ρ D
          obtain ⟨c1, c2⟩ := r3.r τ ϑ hf ρ D
          refine ⟨by simp only [List.map_cons, a1, b1, c1, hk], fun hy z hz => ?_⟩
          rcases List.mem_cons.1 hz with rfl | hz
          · exact ⟨a2 (hy _ List.mem_cons_self).1, b2 (hy _ List.mem_cons_self).2⟩
          · exact c2 (fun z hz => hy z (List.mem_cons_of_mem _ hz)) z hz
        · cases h
      · cases h
def mBg (pc : Pc) (x y : B) (M : Mg) : Option Mg := match x, y with
  | .cells ty n k d t, .cells ty' n' k' d' t' => bif Nat.beq ty ty' && (Nat.beq n n' && ((k == k') && C.eqbs d d')) then mTrig pc t t' M else none
  | .map es cl, .map es' cl' => bif Nat.beq cl cl' then mEg pc es es' M else none
  | _, _ => none
/-- What is asked of a told call's blocks once for all: cells within, what lies over and over is plain. -/
def B.neat : B → Bool
  | .cells _ n _ d t => ((t.ixs 0 1).all fun p => Nat.blt p.1 n) && d.all C.clo
  | _ => true
theorem ixs_of : ∀ {t : Tri C} {a m : Nat} {p : Pt} {x : C}, t.get p = some x → (a + m * p.num, x) ∈ t.ixs a m := by
  intro t
  induction t with
  | e => intro a m p x h; rw [Tri.get_e] at h; cases h
  | n y l r ihl ihr =>
    intro a m p x h
    have key : (a + m * p.num, x) ∈ Tri.ixs (a + m) (2 * m) l ++ Tri.ixs (a + 2 * m) (2 * m) r → (a + m * p.num, x) ∈ (Tri.n y l r).ixs a m := by
      intro hh
      clear h
      cases y with
      | none => exact hh
      | some y => exact List.mem_cons_of_mem _ hh
    cases p with
    | z =>
      cases y with
      | none => cases h
      | some y => cases h; simp only [Tri.ixs, Pt.num]; exact List.mem_cons_self
    | l p =>
      refine key (List.mem_append.2 (.inl ?_))
      have := ihl (a := a + m) (m := 2 * m) (p := p) h
      have e : a + m * (Pt.l p).num = a + m + 2 * m * p.num := by
        rw [Pt.num, Nat.mul_add, Nat.mul_one, ← Nat.mul_assoc, Nat.mul_comm m 2]; omega
      rw [e]; exact this
    | r p =>
      refine key (List.mem_append.2 (.inr ?_))
      have := ihr (a := a + 2 * m) (m := 2 * m) (p := p) h
      have e : a + m * (Pt.r p).num = a + 2 * m + 2 * m * p.num := by
        rw [Pt.num, Nat.mul_add, ← Nat.mul_assoc, Nat.mul_comm m 2]; omega
      rw [e]; exact this
structure RB (E : Env) (M M' : Mg) (x y : B) : Prop where
  st : Stp E M M'
  d : ∀ (ρ : Pt → Rb) (D : Pt → Prop) (z : Nat) (o : Option Obj), BR E ρ D z y o → ThD D M.2 → ThD D M'.2
  r : ∀ τ ϑ, Fin' E M' τ ϑ → ∀ (ρ : Pt → Rb) (D : Pt → Prop) (z : Nat) (o : Option Obj), BR E ρ D z y o → BR (envS E τ) (rhoG ρ ϑ) (DG ϑ) z x o
theorem mBg_ok {E : Env} {pc : Pc} (hp : pcOk E pc) {x y : B} {M M' : Mg} (hn : x.neat = true) (h : mBg pc x y M = some M') : RB E M M' x y := by
  unfold mBg at h
  split at h
  · rename_i ty n k d t ty' n' k' d' t'
    cases hk : Nat.beq ty ty' && (Nat.beq n n' && ((k == k') && C.eqbs d d')) <;> simp only [hk, cond_true, cond_false] at h
    · cases h
    simp only [Bool.and_eq_true, beq_iff_eq] at hk
    obtain ⟨k1, k2, k3, k4⟩ := hk
    have k1 := Nat.eq_of_beq_eq_true k1
    have k2 := Nat.eq_of_beq_eq_true k2
    have k4 := C.eqbs_eq k4
    subst k1 k2 k3 k4
    simp only [B.neat, Bool.and_eq_true, List.all_eq_true] at hn
    obtain ⟨n1, n2⟩ := hn
    have R := mTrig_ok hp h
    have within : ∀ p x, t.get p = some x → Nat.blt p.num n = true := fun p x hx => by
      have := n1 _ (ixs_of (a := 0) (m := 1) hx)
      simpa using this
    have cellT : ∀ {u : Tri C} (i : Nat) (x : C), u.get (path i) = some x → Nat.blt i n = true → cellAt n d u i = some x := fun i x hx hi => by
      unfold cellAt
      have : Nat.ble n i = false := by
        cases hq : Nat.ble n i
        · rfl
        · have h1 := Nat.le_of_ble_eq_true hq
          have h2 := Nat.le_of_ble_eq_true hi
          simp at h2; omega
      rw [this, hx]; rfl
    have some' : ∀ p y, t'.get p = some y → ∃ x, t.get p = some x := fun p y hy => by
      cases hq : t.get p with
      | none => have := (R.none_ p).1 hq; rw [hy] at this; cases this
      | some x => exact ⟨x, rfl⟩
    refine ⟨R.st, fun ρ D z o hb hd => R.d ρ D (fun p y hy => ?_) hd, fun τ ϑ hf ρ D z o hb => ?_⟩
    · obtain ⟨cs, _, _, _, _, h5⟩ := hb
      obtain ⟨x, hx⟩ := some' p y hy
      have hw := within p x hx
      have hpp : p = path p.num := Pt.num_inj (by rw [path_num])
      rw [hpp] at hy
      exact (h5 p.num y (cellT _ _ hy hw)).1
    · obtain ⟨cs, h1, h2, h3, h4, h5⟩ := hb
      refine ⟨cs, h1, h2, h3, h4, fun i x hx => ?_⟩
      have hin : Nat.ble n i = false := by
        unfold cellAt at hx
        cases hq : Nat.ble n i
        · rfl
        · rw [hq] at hx; cases hx
      unfold cellAt at hx
      rw [hin] at hx
      simp only [cond_false] at hx
      split at hx
      · rename_i x0 hx0
        cases hx
        obtain ⟨y, hy⟩ : ∃ y, t'.get (path i) = some y := by
          cases hq : t'.get (path i) with
          | none => have := (R.none_ _).2 hq; rw [hx0] at this; cases this
          | some y => exact ⟨y, rfl⟩
        have h6 := h5 i y (by unfold cellAt; rw [hin, hy]; rfl)
        obtain ⟨r1, r2⟩ := R.r τ ϑ hf _ _ _ hx0 hy ρ D
        exact ⟨r2 h6.1, by rw [r1]; exact h6.2⟩
      · rename_i hx0
        have hy := (R.none_ _).1 hx0
        have hq : cellAt n d t' i = some x := by
          unfold cellAt; rw [hin, hy]; exact hx
        have h6 := h5 i x hq
        have hm : x ∈ d := by
          cases d with
          | nil => simp at hx
          | cons c d => exact List.mem_of_getElem? hx
        obtain ⟨r1, r2⟩ := C.clo_ok (n2 x hm) (envS E τ) E (rhoG ρ ϑ) ρ (DG ϑ) D
        exact ⟨r2 h6.1, by rw [r1]; exact h6.2⟩
  · rename_i es cl es' cl'
    cases hk : Nat.beq cl cl' <;> simp only [hk, cond_true, cond_false] at h
    · cases h
    have hk := Nat.eq_of_beq_eq_true hk
    subst hk
    have R := mEg_ok hp h
    refine ⟨R.st, fun ρ D z o hb hd => R.d ρ D hb.2 hd, fun τ ϑ hf ρ D z o hb => ?_⟩
    obtain ⟨h1, h2⟩ := hb
    obtain ⟨r1, r2⟩ := R.r τ ϑ hf ρ D
    exact ⟨h1.trans (by rw [r1]), r2 h2⟩
  · cases h
/-- All blocks that a told call sees. -/
def mPre (pc : Pc) (m : Tri B) : List (Pt × B) → Mg → Option Mg
  | [], M => some M
  | p :: r, M => match M.2.at p.1 with
    | some b' => match m.get b' with
      | some y => match mBg pc p.2 y M with
        | some M => mPre pc m r M
        | none => none
      | none => none
    | none => none
theorem mPre_ok {E : Env} {pc : Pc} (hp : pcOk E pc) {m : Tri B} : ∀ {l : List (Pt × B)} {M M' : Mg}, (∀ p ∈ l, p.2.neat = true) → mPre pc m l M = some M' → Stp E M M' ∧
    (∀ (ρ : Pt → Rb) (D : Pt → Prop) (w : World), MR E ρ D m w → ThD D M.2 → ThD D M'.2) ∧
    (∀ p ∈ l, ∃ b' y, (∀ τ ϑ, Fin' E M' τ ϑ → ϑ.at p.1 = some b') ∧ m.get b' = some y ∧ ∀ τ ϑ, Fin' E M' τ ϑ → ∀ (ρ : Pt → Rb) (D : Pt → Prop) (z : Nat) (o : Option Obj), BR E ρ D z y o → BR (envS E τ) (rhoG ρ ϑ) (DG ϑ) z p.2 o) := by
  intro l
  induction l with
  | nil => intro M M' _ h; simp only [mPre] at h; cases h; exact ⟨.refl, fun _ _ _ _ hd => hd, fun _ h => nomatch h⟩
  | cons p r ih =>
    intro M M' hn h
    simp only [mPre] at h
    split at h
    · rename_i b' hb
      split at h
      · rename_i y hy
        split at h
        · rename_i M1 h1
          have R := mBg_ok hp (hn p List.mem_cons_self) h1
          obtain ⟨s1, d1, r1⟩ := ih (fun q hq => hn q (List.mem_cons_of_mem _ hq)) h
          refine ⟨R.st.trans s1, fun ρ D w hm hd => d1 ρ D w hm (R.d ρ D _ _ (hm.mem b' y (hd _ _ hb) hy) hd), fun q hq => ?_⟩
          rcases List.mem_cons.1 hq with rfl | hq
          · exact ⟨b', y, fun τ ϑ hf => hf.th _ _ (s1.th _ _ (R.st.th _ _ hb)), hy, fun τ ϑ hf => R.r τ ϑ (s1.fin hf)⟩
          · exact r1 q hq
        · cases h
      · cases h
    · cases h
/-! letters put in, blocks under the world's numbers -/
def sbGs (pc : Pc) (σ : Sg) (l : List T) : Option (List T) := List.rec (motive := fun _ => Option (List T)) (some []) (fun x _ ih => fcO (sbG pc σ x) fun t => match ih with
  | some r => some (t :: r)
  | none => none) l
theorem sbGs_ok {E : Env} {pc : Pc} (hp : pcOk E pc) {σ : Sg} (hσ : SgOk E σ) : ∀ {l r : List T}, sbGs pc σ l = some r → r.map (T.den E) = l.map (T.den (envS E σ)) := by
  intro l
  induction l with
  | nil => intro r h; cases h; rfl
  | cons x l ih =>
    intro r h
    obtain ⟨t, h1, h2⟩ := fcO_some (x := sbG pc σ x) (k := fun t => match sbGs pc σ l with
      | some r => some (t :: r)
      | none => none) h
    split at h2
    · rename_i r' hr
      cases h2
      simp only [List.map_cons, sbG_ok hp hσ x h1, ih hr]
    · cases h2
def condsG (pc : Pc) (σ : Sg) (cs : Pc) : Bool := List.rec (motive := fun _ => Bool) true (fun q _ ih => match sbG pc σ q.1 with
  | some t => match dec pc t with
    | some b => bif b then (bif q.2 then ih else false) else bif q.2 then false else ih
    | none => false
  | none => false) cs
theorem condsG_ok {E : Env} {pc : Pc} (hp : pcOk E pc) {σ : Sg} (hσ : SgOk E σ) : ∀ {cs : Pc}, condsG pc σ cs = true → pcOk (envS E σ) cs := by
  intro cs
  induction cs with
  | nil => intro _ q hq; cases hq
  | cons q cs ih =>
    intro h
    change (match sbG pc σ q.1 with
      | some t => match dec pc t with
        | some b => bif b then (bif q.2 then condsG pc σ cs else false) else bif q.2 then false else condsG pc σ cs
        | none => false
      | none => false) = true at h
    split at h
    · rename_i t ht
      split at h
      · rename_i b hb
        have h1 := dec_ok hp hb
        have h2 : t.tr E = q.1.tr (envS E σ) := by simp only [T.tr, sbG_ok hp hσ _ ht]
        have key : q.1.tr (envS E σ) = q.2 ∧ condsG pc σ cs = true := by
          rw [← h2, h1]
          cases b <;> cases hq : q.2 <;> simp only [hq, cond_true, cond_false] at h <;> first | (cases h; done) | exact ⟨rfl, h⟩
        intro q' hq'
        rcases List.mem_cons.1 hq' with rfl | hq'
        · exact key.1
        · exact ih key.2 q' hq'
      · cases h
    · cases h
mutual
def C.gs (pc : Pc) (σ : Sg) (f : Pt → Option Pt) : C → Option C
  | .int k t => fcO (sbG pc σ t) fun t => some (.int k t)
  | .bool t => fcO (sbG pc σ t) fun t => some (.bool t)
  | .str l => match sbGs pc σ l with
    | some l => some (.str l)
    | none => none
  | .ptr b o => match f b with
    | some b' => some (.ptr b' o)
    | none => none
  | .slc b o n c => match f b with
    | some b' => some (.slc b' o n c)
    | none => none
  | .map b => match f b with
    | some b' => some (.map b')
    | none => none
  | .fn g caps => match C.gss pc σ f caps with
    | some l => some (.fn g l)
    | none => none
  | .ifc t g cs => match C.gss pc σ f cs with
    | some l => some (.ifc t g l)
    | none => none
  | .nilp => some .nilp
  | .nils => some .nils
  | .nilf => some .nilf
  | .nilm => some .nilm
  | .nili => some .nili
  | .any i => some (.any i)
  | .raw _ => none
def C.gss (pc : Pc) (σ : Sg) (f : Pt → Option Pt) : List C → Option (List C)
  | [] => some []
  | x :: xs => match C.gs pc σ f x with
    | some y => match C.gss pc σ f xs with
      | some ys => some (y :: ys)
      | none => none
    | none => none
end
variable {E : Env} {ρ ρ' : Pt → Rb} {D D' : Pt → Prop} {f : Pt → Option Pt} {pc : Pc} {σ : Sg}
theorem C.gs_ok (hp : pcOk E pc) (hσ : SgOk E σ) (h : Rn ρ D f ρ' D') (x : C) : ∀ y, C.gs pc σ f x = some y → x.ok (envS E σ) ρ D → y.ok E ρ' D' ∧ y.val E ρ' = x.val (envS E σ) ρ := by
  refine C.rec (motive_1 := fun x => ∀ y, C.gs pc σ f x = some y → x.ok (envS E σ) ρ D → y.ok E ρ' D' ∧ y.val E ρ' = x.val (envS E σ) ρ) (motive_2 := fun xs => ∀ ys, C.gss pc σ f xs = some ys → C.oks (envS E σ) ρ D xs → C.oks E ρ' D' ys ∧ C.vals E ρ' ys = C.vals (envS E σ) ρ xs)
    ?_ ?_ ?_ ?_ ?_ ?_ ?_ ?_ ?_ ?_ ?_ ?_ ?_ ?_ ?_ ?_ ?_ x
  · intro k t y hy _
    simp only [C.gs] at hy
    obtain ⟨t', h1, h2⟩ := fcO_some hy
    cases h2
    exact ⟨trivial, by simp only [C.val, sbG_ok hp hσ _ h1]⟩
  · intro t y hy _
    simp only [C.gs] at hy
    obtain ⟨t', h1, h2⟩ := fcO_some hy
    cases h2
    exact ⟨trivial, by simp only [C.val, T.tr, sbG_ok hp hσ _ h1]⟩
  · intro b o y hy hx
    simp only [C.gs] at hy
    split at hy
    · rename_i b' hb; cases hy
      obtain ⟨h1, h2⟩ := h b b' hb hx
      exact ⟨h1, by simp only [C.val, h2]⟩
    · cases hy
  · intro y hy _; simp only [C.gs] at hy; cases hy; exact ⟨trivial, rfl⟩
  · intro b o n c y hy hx
    simp only [C.gs] at hy
    split at hy
    · rename_i b' hb; cases hy
      obtain ⟨h1, h2⟩ := h b b' hb hx.1
      exact ⟨⟨h1, by rw [h2]; exact hx.2⟩, by simp only [C.val, h2]⟩
    · cases hy
  · intro y hy _; simp only [C.gs] at hy; cases hy; exact ⟨trivial, rfl⟩
  · intro l y hy hx
    simp only [C.gs] at hy
    split at hy
    · rename_i r hr
      cases hy
      have e := sbGs_ok hp hσ hr
      refine ⟨?_, ?_⟩
      · intro t ht
        have : t.den E ∈ r.map (T.den E) := List.mem_map_of_mem ht
        rw [e] at this
        obtain ⟨u, hu, hu2⟩ := List.mem_map.1 this
        rw [← hu2]; exact hx u hu
      · simp only [C.val, strOf]
        have : r.map (fun t => byteOf (t.den E)) = l.map fun t => byteOf (t.den (envS E σ)) := by
          have := congrArg (List.map byteOf) e
          rw [List.map_map, List.map_map] at this
          exact this
        rw [this]
    · cases hy
  · intro g caps ih y hy hx
    simp only [C.gs] at hy
    split at hy
    · rename_i l hl; cases hy
      obtain ⟨h1, h2⟩ := ih l hl hx
      exact ⟨h1, by simp only [C.val, h2]⟩
    · cases hy
  · intro y hy _; simp only [C.gs] at hy; cases hy; exact ⟨trivial, rfl⟩
  · intro b y hy hx
    simp only [C.gs] at hy
    split at hy
    · rename_i b' hb; cases hy
      obtain ⟨h1, h2⟩ := h b b' hb hx
      exact ⟨h1, by simp only [C.val, h2]⟩
    · cases hy
  · intro y hy _; simp only [C.gs] at hy; cases hy; exact ⟨trivial, rfl⟩
  · intro t g cs ih y hy hx
    simp only [C.gs] at hy
    split at hy
    · rename_i l hl; cases hy
      obtain ⟨h1, h2⟩ := ih l hl hx
      exact ⟨h1, by simp only [C.val, h2]⟩
    · cases hy
  · intro y hy _; simp only [C.gs] at hy; cases hy; exact ⟨trivial, rfl⟩
  · intro v y hy hx; simp only [C.gs] at hy; cases hy
  · intro i y hy hx; simp only [C.gs] at hy; cases hy; exact ⟨hx, rfl⟩
  · intro ys hy _; simp only [C.gss] at hy; cases hy; exact ⟨trivial, rfl⟩
  · intro x xs ih ihs ys hy hx
    simp only [C.gss] at hy
    split at hy
    · rename_i y' h1
      split at hy
      · rename_i ys' h2; cases hy
        obtain ⟨a1, a2⟩ := ih y' h1 hx.1
        obtain ⟨b1, b2⟩ := ihs ys' h2 hx.2
        exact ⟨⟨a1, b1⟩, by simp only [C.vals, a2, b2]⟩
      · cases hy
    · cases hy
theorem C.gss_at : ∀ {xs ys : List C}, C.gss pc σ f xs = some ys → ys.length = xs.length ∧ ∀ (i : Nat) (y : C), ys[i]? = some y → ∃ x, xs[i]? = some x ∧ C.gs pc σ f x = some y := by
  intro xs
  induction xs with
  | nil => intro ys hy; simp only [C.gss] at hy; cases hy; exact ⟨rfl, fun i y h => by simp at h⟩
  | cons x xs ih =>
    intro ys hy
    simp only [C.gss] at hy
    split at hy
    · rename_i y' h1
      split at hy
      · rename_i ys' h2; cases hy
        obtain ⟨a1, a2⟩ := ih h2
        refine ⟨by simp [a1], fun i y h => ?_⟩
        cases i with
        | zero => simp at h; subst h; exact ⟨x, rfl, h1⟩
        | succ i => exact a2 i y (by simpa using h)
      · cases hy
    · cases hy
theorem C.gss_ok (hp : pcOk E pc) (hσ : SgOk E σ) (h : Rn ρ D f ρ' D') : ∀ {xs ys : List C}, C.gss pc σ f xs = some ys → (∀ x ∈ xs, x.ok (envS E σ) ρ D) → (∀ y ∈ ys, y.ok E ρ' D') ∧ ys.map (C.val E ρ') = xs.map (C.val (envS E σ) ρ) := by
  intro xs
  induction xs with
  | nil => intro ys hy _; simp only [C.gss] at hy; cases hy; exact ⟨(fun _ h => nomatch h), rfl⟩
  | cons x xs ih =>
    intro ys hy hx
    simp only [C.gss] at hy
    split at hy
    · rename_i y' h1
      split at hy
      · rename_i ys' h2; cases hy
        obtain ⟨a1, a2⟩ := x.gs_ok hp hσ h y' h1 (hx _ List.mem_cons_self)
        obtain ⟨b1, b2⟩ := ih h2 fun z hz => hx z (List.mem_cons_of_mem _ hz)
        refine ⟨fun z hz => ?_, by simp only [List.map_cons, a2, b2]⟩
        rcases List.mem_cons.1 hz with rfl | hz
        · exact a1
        · exact b1 z hz
      · cases hy
    · cases hy
def A.gs (pc : Pc) (σ : Sg) (f : Pt → Option Pt) : A → Option A
  | .c x => match x.gs pc σ f with
    | some y => some (.c y)
    | none => none
  | .agg xs => match C.gss pc σ f xs with
    | some ys => some (.agg ys)
    | none => none
theorem A.gs_ok (hp : pcOk E pc) (hσ : SgOk E σ) (h : Rn ρ D f ρ' D') {x y : A} (hy : x.gs pc σ f = some y) (hx : x.ok (envS E σ) ρ D) : y.ok E ρ' D' ∧ y.val E ρ' = x.val (envS E σ) ρ := by
  cases x with
  | c x =>
    simp only [A.gs] at hy
    split at hy
    · rename_i z hz; cases hy; exact x.gs_ok hp hσ h z hz hx
    · cases hy
  | agg xs =>
    simp only [A.gs] at hy
    split at hy
    · rename_i z hz; cases hy
      obtain ⟨h1, h2⟩ := C.gss_ok hp hσ h hz hx
      exact ⟨h1, by simp only [A.val, h2]⟩
    · cases hy
def A.gss (pc : Pc) (σ : Sg) (f : Pt → Option Pt) : List A → Option (List A)
  | [] => some []
  | x :: xs => match x.gs pc σ f with
    | some y => match A.gss pc σ f xs with
      | some ys => some (y :: ys)
      | none => none
    | none => none
theorem A.gss_ok (hp : pcOk E pc) (hσ : SgOk E σ) (h : Rn ρ D f ρ' D') : ∀ {xs ys : List A}, A.gss pc σ f xs = some ys → (∀ x ∈ xs, x.ok (envS E σ) ρ D) → (∀ y ∈ ys, y.ok E ρ' D') ∧ ys.map (A.val E ρ') = xs.map (A.val (envS E σ) ρ) := by
  intro xs
  induction xs with
  | nil => intro ys hy _; simp only [A.gss] at hy; cases hy; exact ⟨(fun _ h => nomatch h), rfl⟩
  | cons x xs ih =>
    intro ys hy hx
    simp only [A.gss] at hy
    split at hy
    · rename_i y' h1
      split at hy
      · rename_i ys' h2; cases hy
        obtain ⟨a1, a2⟩ := A.gs_ok hp hσ h h1 (hx _ List.mem_cons_self)
        obtain ⟨b1, b2⟩ := ih h2 fun z hz => hx z (List.mem_cons_of_mem _ hz)
        refine ⟨fun z hz => ?_, by simp only [List.map_cons, a2, b2]⟩
        rcases List.mem_cons.1 hz with rfl | hz
        · exact a1
        · exact b1 z hz
      · cases hy
    · cases hy
def L.gs (pc : Pc) (σ : Sg) (f : Pt → Option Pt) : L → Option L
  | .a x => match x.gs pc σ f with
    | some y => some (.a y)
    | none => none
  | .tup xs => match A.gss pc σ f xs with
    | some ys => some (.tup ys)
    | none => none
  | .gd _ _ => none
theorem L.gs_ok (hp : pcOk E pc) (hσ : SgOk E σ) (h : Rn ρ D f ρ' D') {x y : L} (hy : x.gs pc σ f = some y) (hx : x.ok (envS E σ) ρ D) : y.ok E ρ' D' ∧ y.val E ρ' = x.val (envS E σ) ρ := by
  cases x with
  | a x =>
    simp only [L.gs] at hy
    split at hy
    · rename_i z hz; cases hy; exact A.gs_ok hp hσ h hz hx
    · cases hy
  | tup xs =>
    simp only [L.gs] at hy
    split at hy
    · rename_i z hz; cases hy
      obtain ⟨h1, h2⟩ := A.gss_ok hp hσ h hz hx
      exact ⟨h1, by simp only [L.val, h2]⟩
    · cases hy
  | gd c x => cases hy
def Ents.gs (pc : Pc) (σ : Sg) (f : Pt → Option Pt) : List Ent → Option (List Ent)
  | [] => some []
  | e :: es => match e.key.gs pc σ f with
    | some k => match e.val.gs pc σ f with
      | some v => match Ents.gs pc σ f es with
        | some es' => some (⟨k, v, e.born⟩ :: es')
        | none => none
      | none => none
    | none => none
theorem Ents.gs_ok (hp : pcOk E pc) (hσ : SgOk E σ) (h : Rn ρ D f ρ' D') : ∀ {es es' : List Ent}, Ents.gs pc σ f es = some es' → (∀ e ∈ es, e.key.ok (envS E σ) ρ D ∧ e.val.ok (envS E σ) ρ D) → (∀ e ∈ es', e.key.ok E ρ' D' ∧ e.val.ok E ρ' D') ∧
    es'.map (fun e => ({ key := e.key.val E ρ', val := e.val.val E ρ', born := e.born } : MapEntry)) = es.map (fun e => ({ key := e.key.val (envS E σ) ρ, val := e.val.val (envS E σ) ρ, born := e.born } : MapEntry)) := by
  intro es
  induction es with
  | nil => intro es' hy _; simp only [Ents.gs] at hy; cases hy; exact ⟨(fun _ h => nomatch h), rfl⟩
  | cons e es ih =>
    intro es' hy hx
    simp only [Ents.gs] at hy
    split at hy
    · rename_i k hk
      split at hy
      · rename_i v hv
        split at hy
        · rename_i es'' h2; cases hy
          obtain ⟨a1, a2⟩ := A.gs_ok hp hσ h hk (hx _ List.mem_cons_self).1
          obtain ⟨c1, c2⟩ := A.gs_ok hp hσ h hv (hx _ List.mem_cons_self).2
          obtain ⟨b1, b2⟩ := ih h2 fun z hz => hx z (List.mem_cons_of_mem _ hz)
          refine ⟨fun z hz => ?_, by simp only [List.map_cons, a2, b2, c2]⟩
          rcases List.mem_cons.1 hz with rfl | hz
          · exact ⟨a1, c1⟩
          · exact b1 z hz
        · cases hy
      · cases hy
    · cases hy
def B.gs (pc : Pc) (σ : Sg) (f : Pt → Option Pt) : B → Option B
  | .cells ty n k d t => match C.gss pc σ f d with
    | some d' => match t.mapO (C.gs pc σ f) with
      | some t' => some (.cells ty n k d' t')
      | none => none
    | none => none
  | .map es cl => match Ents.gs pc σ f es with
    | some es' => some (.map es' cl)
    | none => none
  | _ => none
theorem cellAt_gs {n : Nat} {d d' : List C} {t t' : Tri C} (hd : C.gss pc σ f d = some d') (ht : t.mapO (C.gs pc σ f) = some t') {i : Nat} {y : C} (h : cellAt n d' t' i = some y) : ∃ x, cellAt n d t i = some x ∧ C.gs pc σ f x = some y := by
  obtain ⟨l1, l2⟩ := C.gss_at hd
  unfold cellAt at h ⊢
  cases hn : Nat.ble n i <;> simp only [hn, cond_true, cond_false] at h ⊢
  · split at h
    · rename_i z hz
      cases h
      obtain ⟨x, h1, h2⟩ := Tri.mapO_get ht _ _ hz
      exact ⟨x, by rw [h1], h2⟩
    · rename_i hz
      have h1 := Tri.mapO_none ht _ hz
      split at h
      · cases h
      · obtain ⟨x, h2, h3⟩ := l2 _ _ h
        refine ⟨x, ?_, h3⟩
        rw [h1]
        rw [l1] at h2
        cases d with
        | nil => simp at h2
        | cons c d => exact h2
  · cases h
theorem BR.gs_ok (hp : pcOk E pc) (hσ : SgOk E σ) (hf : Rn ρ D f ρ' D') {z : Nat} {x y : B} (hy : x.gs pc σ f = some y) {o : Option Obj} (h : BR (envS E σ) ρ D z x o) : BR E ρ' D' z y o := by
  cases x with
  | cells ty n k d t =>
    simp only [B.gs] at hy
    split at hy
    · rename_i d' hd
      split at hy
      · rename_i t' ht; cases hy
        obtain ⟨cs, h1, h2, h3, h4, h5⟩ := h
        refine ⟨cs, h1, h2, h3, h4, fun i u hu => ?_⟩
        obtain ⟨v, hv, hv2⟩ := cellAt_gs hd ht hu
        obtain ⟨a1, a2⟩ := v.gs_ok hp hσ hf u hv2 (h5 i v hv).1
        exact ⟨a1, by rw [a2]; exact (h5 i v hv).2⟩
      · cases hy
    · cases hy
  | map es cl =>
    simp only [B.gs] at hy
    split at hy
    · rename_i es' he; cases hy
      obtain ⟨h1, h2⟩ := h
      obtain ⟨a1, a2⟩ := Ents.gs_ok hp hσ hf he h2
      exact ⟨h1.trans (by rw [a2]), a1⟩
    · cases hy
  | miter m a b c => simp only [B.gs] at hy; cases hy
  | siter s p => simp only [B.gs] at hy; cases hy
  | ro n t => simp only [B.gs] at hy; cases hy
end
end Go.E3
