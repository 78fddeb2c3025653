/- Part Zf1 of a checked reader of Go texts in their model form: it runs a function at terms in the place of numbers, and each part proves that its answers hold of the model. -/
import Derived.Test.YtgnfekfikifgiaaGreatWyZe3
import Derived.Maps.RangeRun
import Derived.Test.YtgnfekfikifgiaaGreatWyZd4
namespace Go.E3
open Go.Sy
noncomputable section
variable {P : Program}
/-! runs that fork: where the model leaves an order open, each way out -/
abbrev Fk := Oper → Pc → Tri L → Tri B → Pt → Option (List (L × Tri B × Pt))
/-- An operation comes to one of what is told. -/
def FkOk (P : Program) (fk : Fk) : Prop := ∀ o pc s m nx ls, fk o pc s m nx = some ls → ls ≠ [] ∧ (∀ x ∈ ls, nx.num ≤ x.2.2.num) ∧ ∀ (E : Env) (ρ : Pt → Rb) (D : Pt → Prop) (a : Act) (w : World), pcOk E pc → OpsR E ρ D s a.eval o.op.operands.toList → MR E ρ D m w → (∀ x ∈ ls, ∀ b, Rg nx x.2.2 b → ¬ D b) →
  ∀ (K : Act → World → Prop) (Q : Exit → Act → World → Prop), (∀ x ∈ ls, ∀ ρ' w', Turn E ρ D m nx w ρ' x.2.1 x.2.2 w' → x.1.ok E ρ' (Un D (Rg nx x.2.2)) → K (a.put o.dst (x.1.val E ρ')) w') → o.wp P a w K Q
def allL {α β : Type} (f : α → Option (List β)) : List α → Option (List β)
  | [] => some []
  | x :: r => match f x with
    | some a => match allL f r with
      | some b => some (a ++ b)
      | none => none
    | none => none
theorem allL_of {α β : Type} {f : α → Option (List β)} : ∀ {xs : List α} {ys : List β}, allL f xs = some ys → (∀ x ∈ xs, ∃ zs, f x = some zs ∧ ∀ z ∈ zs, z ∈ ys) ∧ ∀ y ∈ ys, ∃ x ∈ xs, ∃ zs, f x = some zs ∧ y ∈ zs := by
  intro xs
  induction xs with
  | nil => intro ys h; cases h; exact ⟨(fun _ h => nomatch h), fun _ h => nomatch h⟩
  | cons x r ih =>
    intro ys h
    simp only [allL] at h
    split at h
    · rename_i a ha
      split at h
      · rename_i b hb
        cases h
        obtain ⟨i1, i2⟩ := ih hb
        refine ⟨fun y hy => ?_, fun y hy => ?_⟩
        · rcases List.mem_cons.1 hy with rfl | hy
          · exact ⟨a, ha, fun z hz => List.mem_append_left _ hz⟩
          · obtain ⟨zs, h1, h2⟩ := i1 y hy
            exact ⟨zs, h1, fun z hz => List.mem_append_right _ (h2 z hz)⟩
        · rcases List.mem_append.1 hy with hy | hy
          · exact ⟨x, List.mem_cons_self, a, ha, hy⟩
          · obtain ⟨x', h1, zs, h2, h3⟩ := i2 y hy
            exact ⟨x', List.mem_cons_of_mem _ h1, zs, h2, h3⟩
      · cases h
    · cases h
theorem allL_ne {α β : Type} {f : α → Option (List β)} {xs : List α} {ys : List β} (h : allL f xs = some ys) (hx : xs ≠ []) (hf : ∀ x ∈ xs, ∀ zs, f x = some zs → zs ≠ []) : ys ≠ [] := by
  obtain ⟨x, r, rfl⟩ := List.exists_cons_of_ne_nil hx
  obtain ⟨zs, h1, h2⟩ := (allL_of h).1 x List.mem_cons_self
  intro e
  obtain ⟨z, r', hz⟩ := List.exists_cons_of_ne_nil (hf x List.mem_cons_self zs h1)
  have := h2 z (by rw [hz]; exact List.mem_cons_self)
  rw [e] at this; cases this
/-- What is to be shown of a code that forks. -/
def KOkL (P : Program) (pc : Pc) (N : Nat) (c : Code) (f : Tri L → Tri B → Pt → Option (List Out)) : Prop :=
  ∀ s m nx xs, f s m nx = some xs → xs ≠ [] ∧ (∀ x ∈ xs, nx.num ≤ x.nx.num) ∧ ∀ (E : Env) (ρ : Pt → Rb) (D : Pt → Prop) (a : Act) (w : World) (Q : Exit → Act → World → Prop) (ds : List Deferred), pcOk E pc → AR E ρ D N s a → a.defers = ds → MR E ρ D m w → (∀ x ∈ xs, ∀ b, Rg nx x.nx b → ¬ D b) →
    (∀ x ∈ xs, x.post E ρ D N ds m nx w Q) → c.wp P Q a w
def oneL {α : Type} : Option α → Option (List α)
  | some x => some [x]
  | none => none
theorem KOkL.one {pc : Pc} {N : Nat} {c : Code} {f : Tri L → Tri B → Pt → Option Out} (h : KOk P pc N c f) : KOkL P pc N c (fun s m nx => oneL (f s m nx)) := by
  intro s m nx xs hx
  simp only at hx
  cases hf : f s m nx with
  | none => rw [hf] at hx; cases hx
  | some x =>
    rw [hf] at hx; cases hx
    obtain ⟨h1, h2⟩ := h _ _ _ _ hf
    refine ⟨by simp, fun y hy => by simp at hy; subst hy; exact h1, fun E ρ D a w Q ds hp ha hd hm hfr hpost => ?_⟩
    exact h2 E ρ D a w Q ds hp ha hd hm (hfr x List.mem_cons_self) (hpost x List.mem_cons_self)
/-- Operations, one behind the other. -/
def exLL (P : Program) (N : Nat) (ops : Array Oper) (run : Run) (fk : Fk) (pc : Pc) : List Oper → Tri L → Tri B → Pt → Option (List Out)
  | [], s, m, nx => some [⟨.norm, s, m, nx⟩]
  | o :: r, s, m, nx => match gEv pc s (cO P N ops o).gd with
    | some .yes => match fk o pc s m nx with
      | some ls => allL (fun x => putD (dstP o) x.1 s fun s => exLL P N ops run fk pc r s x.2.1 x.2.2) ls
      | none => match exO run pc (cO P N ops o) s m nx with
        | some (.go s m nx) => exLL P N ops run fk pc r s m nx
        | some (.pan c m nx) => some [⟨.pan c, s, m, nx⟩]
        | none => none
    | _ => match exO run pc (cO P N ops o) s m nx with
      | some (.go s m nx) => exLL P N ops run fk pc r s m nx
      | some (.pan c m nx) => some [⟨.pan c, s, m, nx⟩]
      | none => none
section
variable {run : Run} {fk : Fk} {pc : Pc} {N : Nat}
theorem exLL_ok (hrun : CallOk P pc run) (hfk : FkOk P fk) {ops : Array Oper} : ∀ {os : List Oper} {k : Nat} {s : Tri L} {m : Tri B} {nx : Pt} {xs : List Out}, exLL P N ops run fk pc os s m nx = some xs → ops.toList.drop k = os →
    xs ≠ [] ∧ (∀ x ∈ xs, nx.num ≤ x.nx.num) ∧ ∀ {E : Env} {Q : Exit → Act → World → Prop} {ds : List Deferred} {ρ : Pt → Rb} {D : Pt → Prop} {a : Act} {w : World}, pcOk E pc → AR E ρ D N s a → a.defers = ds → MR E ρ D m w → (∀ x ∈ xs, ∀ b, Rg nx x.nx b → ¬ D b) →
      (∀ x ∈ xs, x.post E ρ D N ds m nx w Q) → wpOps P ops Q (List.range' k os.length) a w := by
  intro os
  induction os with
  | nil =>
    intro k s m nx xs h hk
    cases h
    refine ⟨by simp, fun x hx => by simp at hx; subst hx; exact Nat.le_refl _, fun hp ha hd hm hfr hpost => ?_⟩
    exact hpost _ List.mem_cons_self _ _ _ (Turn.refl hm) (by rw [un_self]; exact ha) hd
  | cons o os ih =>
    intro k s m nx xs h hk
    have hok : ops[k]? = some o := by
      have := List.getElem?_drop (xs := ops.toList) (i := k) (j := 0)
      rw [hk, Nat.add_zero, Array.getElem?_toList] at this; simpa using this.symm
    have hk' : ops.toList.drop (k + 1) = os := by
      have := List.drop_drop (i := 1) (j := k) (l := ops.toList)
      rw [← this, hk]; rfl
    have unf : ∀ {Q : Exit → Act → World → Prop} a w, wpO P ops Q o (wpOps P ops Q (List.range' (k + 1) os.length)) a w → wpOps P ops Q (List.range' k (o :: os).length) a w := by
      intro Q a w h
      show wpOps P ops Q (k :: List.range' (k + 1) os.length) a w
      simp only [wpOps, hok]
      exact h
    have plain : (match exO run pc (cO P N ops o) s m nx with
        | some (.go s m nx) => exLL P N ops run fk pc os s m nx
        | some (.pan c m nx) => some [⟨.pan c, s, m, nx⟩]
        | none => none) = some xs → xs ≠ [] ∧ (∀ x ∈ xs, nx.num ≤ x.nx.num) ∧ ∀ {E : Env} {Q : Exit → Act → World → Prop} {ds : List Deferred} {ρ : Pt → Rb} {D : Pt → Prop} {a : Act} {w : World}, pcOk E pc → AR E ρ D N s a → a.defers = ds → MR E ρ D m w → (∀ x ∈ xs, ∀ b, Rg nx x.nx b → ¬ D b) →
        (∀ x ∈ xs, x.post E ρ D N ds m nx w Q) → wpOps P ops Q (List.range' k (o :: os).length) a w := by
      intro h
      split at h
      · rename_i s1 m1 nx1 ho
        obtain ⟨n1, n2, n3⟩ := ih h hk'
        have h1 := exO_mono hrun ho
        refine ⟨n1, fun x hx => Nat.le_trans h1 (n2 x hx), fun hp ha hd hm hfr hpost => unf _ _ ?_⟩
        obtain ⟨x0, r, hx0⟩ := List.exists_cons_of_ne_nil n1
        have m0 : x0 ∈ xs := by rw [hx0]; exact List.mem_cons_self
        refine exO_ok hrun ho hp ha hm (fresh1 (hfr x0 m0) (n2 x0 m0)) _ _ fun ρ' a' w' hT ha' hd' => ?_
        exact n3 hp ha' (hd'.trans hd) hT.mr (fun x hx => fresh2 (hfr x hx) h1) (fun x hx => Out.post_step (hpost x hx) hT (n2 x hx))
      · rename_i c m1 nx1 ho
        cases h
        have h1 := exO_mono hrun ho
        refine ⟨by simp, fun x hx => by simp at hx; subst hx; exact h1, fun hp ha hd hm hfr hpost => unf _ _ ?_⟩
        refine exO_ok hrun ho hp ha hm (hfr _ List.mem_cons_self) _ _ fun ρ' w' hT hc => ?_
        exact hpost _ List.mem_cons_self ρ' _ w' hT (ha.grow hT.grow) hd hc
      · cases h
    simp only [exLL] at h
    split at h
    · rename_i hg
      split at h
      · rename_i ls hls
        obtain ⟨f1, f2, f3⟩ := hfk _ _ _ _ _ _ hls
        obtain ⟨a1, a2⟩ := allL_of h
        simp only [putD_eq] at a1 a2
        have nx1 : ∀ x ∈ xs, nx.num ≤ x.nx.num := fun x hx => by
          obtain ⟨y, hy, zs, hz, hxz⟩ := a2 x hx
          exact Nat.le_trans (f2 y hy) ((ih hz hk').2.1 x hxz)
        refine ⟨allL_ne h f1 fun y hy zs hz => by rw [putD_eq] at hz; exact (ih hz hk').1, nx1, fun {E Q ds ρ D a w} hp ha hd hm hfr hpost => unf _ _ ?_⟩
        have hs := gEv_ok hp ha.sr hg
        have c2 := cO_in hg
        have hw : Region.wanted o (yielded ops a.tmps) = true := hs
        unfold wpO
        rw [if_pos hw]
        refine .inl (f3 E ρ D a w hp (ha.sr.ops o.op.operands.toList) hm (fun y hy => ?_) _ Q fun y hy ρ' w' hT hl => ?_)
        · obtain ⟨zs, hz, hzs⟩ := a1 y hy
          obtain ⟨n1, n2, _⟩ := ih hz hk'
          obtain ⟨x0, r, hx0⟩ := List.exists_cons_of_ne_nil n1
          have m0 : x0 ∈ zs := by rw [hx0]; exact List.mem_cons_self
          exact fresh1 (hfr x0 (hzs x0 m0)) (n2 x0 m0)
        · obtain ⟨zs, hz, hzs⟩ := a1 y hy
          obtain ⟨n1, n2, n3⟩ := ih hz hk'
          have ha' : AR E ρ' (Un D (Rg nx y.2.2)) N (putS o y.1 s) (a.put o.dst (y.1.val E ρ')) := (ha.grow hT.grow).putS c2 hl
          exact n3 hp ha' ((put_defers _ _ _).trans hd) hT.mr (fun x hx => fresh2 (hfr x (hzs x hx)) (f2 y hy)) fun x hx => Out.post_step (hpost x (hzs x hx)) hT (n2 x hx)
      · exact plain h
    · exact plain h
def loopL (f : Tri L → Tri B → Pt → Option (List Out)) : Nat → Tri L → Tri B → Pt → Option (List Out)
  | 0, _, _, _ => none
  | n + 1, s, m, nx => match f s m nx with
    | some xs => allL (fun x => match x.e with
      | .norm => loopL f n x.s x.m x.nx
      | _ => some [x]) xs
    | none => none
def exKL (P : Program) (run : Run) (fk : Fk) (pc : Pc) (N : Nat) : Code → Tri L → Tri B → Pt → Option (List Out)
  | .skip, s, m, nx => some [⟨.norm, s, m, nx⟩]
  | .region _ ops draw, s, m, nx => bif draw then oneL (exDraw P run pc N ops s m nx) else exLL P N ops run fk pc ops.toList s m nx
  | .seq x y, s, m, nx => match exKL P run fk pc N x s m nx with
    | some xs => allL (fun o => match o.e with
      | .norm => exKL P run fk pc N y o.s o.m o.nx
      | _ => some [o]) xs
    | none => none
  | .cond c x y, s, m, nx => match opC pc s c with
    | some (.bool t) => match dec pc t with
      | some true => exKL P run fk pc N x s m nx
      | some false => exKL P run fk pc N y s m nx
      | none => none
    | _ => none
  | .block id x, s, m, nx => match exKL P run fk pc N x s m nx with
    | some xs => some (xs.map fun o => match o.e with
      | .exit id' => bif Nat.beq id' id then ⟨.norm, o.s, o.m, o.nx⟩ else o
      | _ => o)
    | none => none
  | .loop x, s, m, nx => loopL (exKL P run fk pc N x) 1000000 s m nx
  | .exit id, s, m, nx => some [⟨.exit id, s, m, nx⟩]
  | .ret, s, m, nx => some [⟨.ret, s, m, nx⟩]
  | _, _, _, _ => none
/-- Behind the ways out of a code go on those that go on. -/
theorem then_ok {c : Code} {f : Tri L → Tri B → Pt → Option (List Out)} (hf : KOkL P pc N c f) {g : Tri L → Tri B → Pt → Option (List Out)} {next : (Exit → Act → World → Prop) → Act → World → Prop}
    (hg : ∀ s m nx xs, g s m nx = some xs → xs ≠ [] ∧ (∀ x ∈ xs, nx.num ≤ x.nx.num) ∧ ∀ (E : Env) (ρ : Pt → Rb) (D : Pt → Prop) (a : Act) (w : World) (Q : Exit → Act → World → Prop) (ds : List Deferred), pcOk E pc → AR E ρ D N s a → a.defers = ds → MR E ρ D m w → (∀ x ∈ xs, ∀ b, Rg nx x.nx b → ¬ D b) → (∀ x ∈ xs, x.post E ρ D N ds m nx w Q) → next Q a w)
    {s : Tri L} {m : Tri B} {nx : Pt} {xs ys : List Out} (h : f s m nx = some xs) (h2 : allL (fun x => match x.e with
      | .norm => g x.s x.m x.nx
      | _ => some [x]) xs = some ys) : ys ≠ [] ∧ (∀ x ∈ ys, nx.num ≤ x.nx.num) ∧ ∀ (E : Env) (ρ : Pt → Rb) (D : Pt → Prop) (a : Act) (w : World) (Q : Exit → Act → World → Prop) (ds : List Deferred), pcOk E pc → AR E ρ D N s a → a.defers = ds → MR E ρ D m w → (∀ x ∈ ys, ∀ b, Rg nx x.nx b → ¬ D b) → (∀ x ∈ ys, x.post E ρ D N ds m nx w Q) → c.wp P (Exit.then (next Q) Q) a w := by
  obtain ⟨e1, e2, e3⟩ := hf _ _ _ _ h
  obtain ⟨a1, a2⟩ := allL_of h2
  have each : ∀ x ∈ xs, ∀ zs, (match x.e with
      | .norm => g x.s x.m x.nx
      | _ => some [x]) = some zs → zs ≠ [] ∧ ∀ z ∈ zs, x.nx.num ≤ z.nx.num := by
    intro x hx zs hz
    split at hz
    · exact ⟨(hg _ _ _ _ hz).1, (hg _ _ _ _ hz).2.1⟩
    · cases hz; exact ⟨by simp, fun z hz => by simp at hz; subst hz; exact Nat.le_refl _⟩
  refine ⟨allL_ne h2 e1 fun x hx zs hz => (each x hx zs hz).1, fun y hy => ?_, fun E ρ D a w Q ds hp ha hd hm hfr hpost => ?_⟩
  · obtain ⟨x, hx, zs, hz, hyz⟩ := a2 y hy
    exact Nat.le_trans (e2 x hx) ((each x hx zs hz).2 y hyz)
  · refine e3 E ρ D a w _ ds hp ha hd hm (fun x hx => ?_) fun x hx => ?_
    · obtain ⟨zs, hz, hzs⟩ := a1 x hx
      obtain ⟨n1, n2⟩ := each x hx zs hz
      obtain ⟨x0, r, hx0⟩ := List.exists_cons_of_ne_nil n1
      have m0 : x0 ∈ zs := by rw [hx0]; exact List.mem_cons_self
      exact fresh1 (hfr x0 (hzs x0 m0)) (n2 x0 m0)
    · obtain ⟨zs, hz, hzs⟩ := a1 x hx
      obtain ⟨e', s', m', nx'⟩ := x
      by_cases he : e' = .norm
      · subst he
        simp only at hz
        obtain ⟨g1, g2, g3⟩ := hg _ _ _ _ hz
        intro ρ' a' w' hT ha' hd'
        exact g3 E ρ' _ a' w' Q ds hp ha' hd' hT.mr (fun z hz => fresh2 (hfr z (hzs z hz)) (e2 _ hx)) fun z hz => Out.post_step (hpost z (hzs z hz)) hT (g2 z hz)
      · have hzs' : zs = [⟨e', s', m', nx'⟩] := by
          cases e' with
          | norm => exact (he rfl).elim
          | ret => cases hz; rfl
          | exit id => cases hz; rfl
          | pan c => cases hz; rfl
        exact post_then he (hpost _ (hzs _ (by rw [hzs']; exact List.mem_cons_self)))
theorem seq_okL {x y : Code} {f g : Tri L → Tri B → Pt → Option (List Out)} (hf : KOkL P pc N x f) (hg : KOkL P pc N y g) : KOkL P pc N (.seq x y) (fun s m nx => match f s m nx with
    | some xs => allL (fun o => match o.e with
      | .norm => g o.s o.m o.nx
      | _ => some [o]) xs
    | none => none) := by
  intro s m nx ys h
  simp only at h
  split at h
  · rename_i xs hx
    obtain ⟨r1, r2, r3⟩ := then_ok hf (g := g) (next := fun Q => y.wp P Q) (fun s m nx xs h => by
      obtain ⟨q1, q2, q3⟩ := hg _ _ _ _ h
      exact ⟨q1, q2, q3⟩) hx h
    exact ⟨r1, r2, fun E ρ D a w Q ds hp ha hd hm hfr hpost => wp_seq (r3 E ρ D a w Q ds hp ha hd hm hfr hpost)⟩
  · cases h
theorem loop_okL {x : Code} {f : Tri L → Tri B → Pt → Option (List Out)} (hf : KOkL P pc N x f) (n : Nat) : ∀ s m nx xs, loopL f n s m nx = some xs → xs ≠ [] ∧ (∀ x ∈ xs, nx.num ≤ x.nx.num) ∧ ∀ (E : Env) (ρ : Pt → Rb) (D : Pt → Prop) (a : Act) (w : World) (Q : Exit → Act → World → Prop) (ds : List Deferred), pcOk E pc → AR E ρ D N s a → a.defers = ds → MR E ρ D m w → (∀ x ∈ xs, ∀ b, Rg nx x.nx b → ¬ D b) →
    (∀ x ∈ xs, x.post E ρ D N ds m nx w Q) → Code.rounds P x Q n a w := by
  induction n with
  | zero => intro s m nx r h; cases h
  | succ n ih =>
    intro s m nx ys h
    simp only [loopL] at h
    split at h
    · rename_i xs hx
      obtain ⟨r1, r2, r3⟩ := then_ok hf (g := loopL f n) (next := fun Q => Code.rounds P x Q n) ih hx h
      exact ⟨r1, r2, fun E ρ D a w Q ds hp ha hd hm hfr hpost => r3 E ρ D a w Q ds hp ha hd hm hfr hpost⟩
    · cases h
theorem block_okL {id : Nat} {x : Code} {f : Tri L → Tri B → Pt → Option (List Out)} (hf : KOkL P pc N x f) : KOkL P pc N (.block id x) (fun s m nx => match f s m nx with
    | some xs => some (xs.map fun o => match o.e with
      | .exit id' => bif Nat.beq id' id then ⟨.norm, o.s, o.m, o.nx⟩ else o
      | _ => o)
    | none => none) := by
  intro s m nx ys h
  simp only at h
  split at h
  · rename_i xs hx
    cases h
    obtain ⟨e1, e2, e3⟩ := hf _ _ _ _ hx
    let F : Out → Out := fun o => match o.e with
      | .exit id' => bif Nat.beq id' id then ⟨.norm, o.s, o.m, o.nx⟩ else o
      | _ => o
    have Fnx : ∀ o, (F o).nx = o.nx ∧ (F o).m = o.m ∧ (F o).s = o.s := fun o => by
      obtain ⟨e, s, m, nx⟩ := o
      cases e with
      | norm => exact ⟨rfl, rfl, rfl⟩
      | ret => exact ⟨rfl, rfl, rfl⟩
      | pan c => exact ⟨rfl, rfl, rfl⟩
      | exit id' => cases h : Nat.beq id' id <;> simp [F, h]
    refine ⟨by simpa using e1, fun y hy => ?_, fun E ρ D a w Q ds hp ha hd hm hfr hpost => wp_block (e3 E ρ D a w _ ds hp ha hd hm (fun o ho => ?_) fun o ho => ?_)⟩
    · obtain ⟨o, ho, rfl⟩ := List.mem_map.1 hy
      have := (Fnx o).1
      show nx.num ≤ (F o).nx.num
      rw [this]; exact e2 o ho
    · have := hfr (F o) (List.mem_map.2 ⟨o, ho, rfl⟩)
      rw [(Fnx o).1] at this; exact this
    · have hp' := hpost (F o) (List.mem_map.2 ⟨o, ho, rfl⟩)
      intro ρ' a' w' hT ha' hd'
      unfold Out.post at hp'
      rw [(Fnx o).1, (Fnx o).2.1, (Fnx o).2.2] at hp'
      have hp' := hp' ρ' a' w' hT ha' hd'
      obtain ⟨e', s', m', nx'⟩ := o
      cases e' with
      | norm => exact hp'
      | ret => exact hp'
      | pan c => exact hp'
      | exit id' =>
        show (if id' = id then Q .normal a' w' else Q (.exit id') a' w')
        simp only [F] at hp'
        cases hb : Nat.beq id' id <;> rw [hb] at hp' <;> simp only [cond_true, cond_false] at hp'
        · rw [if_neg (Nat.ne_of_beq_eq_false hb)]; exact hp'
        · rw [if_pos (Nat.eq_of_beq_eq_true hb)]; exact hp'
  · cases h
theorem exKL_ok (hrun : CallOk P pc run) (hfk : FkOk P fk) (c : Code) : KOkL P pc N c (exKL P run fk pc N c) := by
  induction c with
  | skip => exact (KOkL.one (exK_ok (N := N) hrun (draw_ok hrun) .skip) : KOkL P pc N .skip _)
  | region id ops draw =>
    cases draw
    · intro s m nx xs h
      change exLL P N ops run fk pc ops.toList s m nx = some xs at h
      obtain ⟨r1, r2, r3⟩ := exLL_ok hrun hfk h (k := 0) rfl
      refine ⟨r1, r2, fun E ρ D a w Q ds hp ha hd hm hfr hpost => wp_region ?_⟩
      have := r3 hp ha hd hm hfr hpost
      rw [Array.length_toList] at this
      rw [List.range_eq_range']
      exact this
    · exact KOkL.one (draw_ok hrun id ops)
  | seq x y ihx ihy => exact seq_okL ihx ihy
  | cond c x y ihx ihy =>
    intro s m nx xs h
    simp only [exKL] at h
    split at h
    · rename_i t hc
      have hev : ∀ (E : Env) (ρ : Pt → Rb) (D : Pt → Prop) (a : Act) (b : Bool), dec pc t = some b → pcOk E pc → AR E ρ D N s a → a.eval c = .bool b := fun E ρ D a b hb hp ha => by
        have := (opC_ok hp (ha.sr.ops [c]) List.mem_cons_self hc).2
        rw [this, ← dec_ok hp hb]; rfl
      split at h
      · rename_i hd
        obtain ⟨r1, r2, r3⟩ := ihx _ _ _ _ h
        exact ⟨r1, r2, fun E ρ D a w Q ds hp ha hd' hm hfr hpost => wp_cond_true (hev E ρ D a _ hd hp ha) (r3 E ρ D a w Q ds hp ha hd' hm hfr hpost)⟩
      · rename_i hd
        obtain ⟨r1, r2, r3⟩ := ihy _ _ _ _ h
        exact ⟨r1, r2, fun E ρ D a w Q ds hp ha hd' hm hfr hpost => wp_cond_false (hev E ρ D a _ hd hp ha) (r3 E ρ D a w Q ds hp ha hd' hm hfr hpost)⟩
      · cases h
    · cases h
  | block id x ih => exact block_okL ih
  | loop x ih =>
    intro s m nx xs h
    obtain ⟨r1, r2, r3⟩ := loop_okL ih _ _ _ _ _ h
    exact ⟨r1, r2, fun E ρ D a w Q ds hp ha hd hm hfr hpost => wp_loop_rounds _ (r3 E ρ D a w Q ds hp ha hd hm hfr hpost)⟩
  | exit id => exact (KOkL.one (exK_ok (N := N) hrun (draw_ok hrun) (.exit id)) : KOkL P pc N (.exit id) _)
  | ret => exact (KOkL.one (exK_ok (N := N) hrun (draw_ok hrun) .ret) : KOkL P pc N .ret _)
  | rangeFunc => intro s m nx x h; cases h
  | scope => intro s m nx x h; cases h
  | label => intro s m nx x h; cases h
  | goto => intro s m nx x h; cases h
  | refuse => intro s m nx x h; cases h
def outCR (P : Program) (rv : List ResultVar) (x : Out) : Option (List CR) := match x.e with
  | .pan c => some [.pan c x.m x.nx]
  | .exit _ => none
  | _ => match resL P x.s x.m rv with
    | some l => fcV l fun l => some [.ret l x.m x.nx]
    | none => none
def runL1 (P : Program) (run : Run) (fk : Fk) (pc : Pc) : RunL := fun g as m nx => match funF P g with
  | some fn => match fn.body with
    | some body => bif fn.name == "runtime.NumGoroutine" then none else iniT as .e 0 fun s => match exKL P run fk pc fn.ntmps body s m nx with
      | some xs => allL (outCR P fn.results.toList) xs
      | none => none
    | none => none
  | none => none
theorem runL1_ok (hrun : CallOk P pc run) (hfk : FkOk P fk) : CallOkL P pc (runL1 P run fk pc) := by
  intro g as m nx rs h
  unfold runL1 at h
  rw [funF_eq] at h
  split at h
  · rename_i fn hf
    split at h
    · rename_i body hb
      cases hn : fn.name == "runtime.NumGoroutine" <;> simp only [hn, cond_true, cond_false] at h
      · rw [iniT_eq] at h
        have hn' : fn.name ≠ "runtime.NumGoroutine" := by simpa using hn
        split at h
        · rename_i xs hx
          obtain ⟨n1, n2, n3⟩ := exKL_ok hrun hfk body _ _ _ _ hx
          obtain ⟨a1, a2⟩ := allL_of h
          have nxs : ∀ x ∈ xs, ∀ zs, outCR P fn.results.toList x = some zs → ∃ z, zs = [z] ∧ z.nx = x.nx := by
            intro x _ zs hz
            unfold outCR at hz
            split at hz
            · cases hz; exact ⟨_, rfl, rfl⟩
            · cases hz
            · split at hz
              · rw [fcV_eq] at hz; cases hz; exact ⟨_, rfl, rfl⟩
              · cases hz
          refine ⟨fun r hr => ?_, fun E ρ D w hp has hm hfr => ⟨⟨fn, body, hf, hb, hn'⟩, ?_⟩⟩
          · obtain ⟨x, hx, zs, hz, hrz⟩ := a2 r hr
            obtain ⟨z, rfl, h2⟩ := nxs x hx zs hz
            rw [List.mem_singleton.1 hrz, h2]; exact n2 x hx
          · refine calls_of_wp hf hb (n3 E ρ D _ w _ [] hp (ini_ok has _ _) rfl hm (fun x hx => ?_) fun x hx ρ' a' w' hT ha hd => ?_)
            · obtain ⟨zs, hz, hzs⟩ := a1 x hx
              obtain ⟨z, rfl, h2⟩ := nxs x hx zs hz
              have := hfr z (hzs z List.mem_cons_self)
              rw [h2] at this; exact this
            · obtain ⟨zs, hz, hzs⟩ := a1 x hx
              obtain ⟨e', s', m', nx'⟩ := x
              unfold outCR at hz
              cases e' with
              | pan c =>
                cases hz
                exact fun hc => ⟨hd, _, hzs _ List.mem_cons_self, ρ', rfl, hc, hT⟩
              | exit id => cases hz
              | norm =>
                simp only at hz
                split at hz
                · rename_i l hl
                  rw [fcV_eq] at hz
                  cases hz
                  obtain ⟨h1, h2⟩ := resL_ok ha.sr hT.mr hl
                  exact ⟨hd, _, h1, _, hzs _ List.mem_cons_self, ρ', rfl, h2, hT⟩
                · cases hz
              | ret =>
                simp only at hz
                split at hz
                · rename_i l hl
                  rw [fcV_eq] at hz
                  cases hz
                  obtain ⟨h1, h2⟩ := resL_ok ha.sr hT.mr hl
                  exact ⟨hd, _, h1, _, hzs _ List.mem_cons_self, ρ', rfl, h2, hT⟩
                · cases hz
        · cases h
      · cases h
    · cases h
  · cases h
end
end
end Go.E3
namespace Go.E3
open Go.Sy Go.RowKit
noncomputable section
variable {P : Program}
/-! the operations that fork: the next entry of a map; slices.Collect(maps.Keys(m)) of two keys -/
theorem Turn.drew {E : Env} {ρ ρ' : Pt → Rb} {D : Pt → Prop} {m m' : Tri B} {nx nx' : Pt} {w w1 w' : World} (hw : w1 = w ∨ w1 = w.drew) (h : Turn E ρ D m nx w1 ρ' m' nx' w') : Turn E ρ D m nx w ρ' m' nx' w' := by
  rcases hw with rfl | rfl
  · exact h
  · exact ⟨h.le, h.rb, h.mr, h.off, h.new, h.os, h.tape, h.output, h.size, h.heap⟩
theorem MR.drew1 {E : Env} {ρ : Pt → Rb} {D : Pt → Prop} {m : Tri B} {w w1 : World} (hw : w1 = w ∨ w1 = w.drew) (h : MR E ρ D m w) : MR E ρ D m w1 := by
  rcases hw with rfl | rfl
  · exact h
  · exact ⟨⟨h.gl.at_, h.gl.off⟩, h.mem, h.inj⟩
def oldE (since : Nat) : List Ent → Bool
  | [] => true
  | e :: r => bif Nat.blt e.born since then oldE since r else false
theorem oldE_ok {since : Nat} : ∀ {es : List Ent}, oldE since es = true → ∀ e ∈ es, e.born < since := by
  intro es
  induction es with
  | nil => intro _ e he; cases he
  | cons x r ih =>
    intro h e he
    simp only [oldE] at h
    cases hb : Nat.blt x.born since <;> simp only [hb, cond_true, cond_false] at h
    · cases h
    rcases List.mem_cons.1 he with rfl | he
    · exact Nat.le_of_ble_eq_true hb
    · exact ih h e he
def nextsF (b b' : Pt) (since cl : Nat) (seen : List Nat) (m : Tri B) (nx : Pt) : List Ent → List (L × Tri B × Pt)
  | [] => []
  | e :: r => m.putK b (some (.miter (some b') since (seen ++ [e.born]) cl)) fun m' => (.tup [.c (.bool (.lit 1)), e.key, e.val], m', nx) :: nextsF b b' since cl seen m nx r
theorem nextsF_mem {b b' : Pt} {since cl : Nat} {seen : List Nat} {m : Tri B} {nx : Pt} {x : L × Tri B × Pt} : ∀ {es : List Ent}, x ∈ nextsF b b' since cl seen m nx es ↔ ∃ e ∈ es, x = (.tup [.c (.bool (.lit 1)), e.key, e.val], m.put b (some (.miter (some b') since (seen ++ [e.born]) cl)), nx) := by
  intro es
  induction es with
  | nil => simp [nextsF]
  | cons e r ih => simp only [nextsF, Tri.putK_eq, List.mem_cons, ih]; simp
def fkNext : Fk := fun o pc s m nx => match o.op with
  | .next x false => match opC pc s x with
    | some (.ptr b 0) => match m.get b with
      | some (.miter (some b') since seen last) => match m.get b' with
        | some (.map es cl) => bif oldE since es && Nat.ble since last then match leftE seen es with
            | e1 :: e2 :: r => some (nextsF b b' since cl seen m nx (e1 :: e2 :: r))
            | _ => none
          else none
        | _ => none
      | _ => none
    | _ => none
  | _ => none
theorem fkNext_ok : FkOk P fkNext := by
  intro o pc s m nx ls h
  unfold fkNext at h
  split at h
  · rename_i x ho
    split at h
    · rename_i b hx
      split at h
      · rename_i b' since seen last hb
        split at h
        · rename_i es cl hm'
          cases hc : oldE since es && Nat.ble since last <;> simp only [hc, cond_true, cond_false] at h
          · cases h
          rw [Bool.and_eq_true] at hc
          have hold := oldE_ok hc.1
          have hsc := Nat.le_of_ble_eq_true hc.2
          split at h
          · rename_i e1 e2 r hl
            cases h
            refine ⟨by simp [nextsF, Tri.putK_eq], fun x hx => ?_, fun E ρ D a w hp hops hm hfr K Q hK => ?_⟩
            · obtain ⟨e, _, rfl⟩ := nextsF_mem.1 hx; exact Nat.le_refl _
            · obtain ⟨h1, h2⟩ := opC_ok hp hops (by simp [ho, Op.operands]) hx
              have h2' : a.eval x = .pointer (some ⟨(ρ b).g, 0, none⟩) := h2
              obtain ⟨g1, g2⟩ := hm.mem b _ h1 hb
              have hb' := g2 b' rfl
              obtain ⟨q1, q2⟩ := hm.mem b' _ hb' hm'
              have q1' : w.heap[(ρ b').g]? = some (.map (es.map (entV E ρ)).toArray cl) := q1
              have hrun := run_next_at (P := P) w o.type (ρ b).g (ρ b').g since last seen.toArray (es.map (entV E ρ)).toArray cl g1 q1' (fun y hy => by
                simp at hy
                obtain ⟨e, he, rfl⟩ := hy
                exact hold e he) hsc
              have hfl : (leftOf (es.map (entV E ρ)).toArray seen.toArray).toList = (leftE seen es).map (entV E ρ) := by
                unfold leftOf
                rw [List.filter_toArray, leftE_eq, List.filter_map]
                simp only [List.contains_toArray]
                rfl
              rcases hrun with ⟨h0, _⟩ | ⟨e, he, w1, hw1, hrun⟩
              · have := congrArg List.length hfl
                rw [Array.length_toList, h0, hl] at this
                simp at this
              · rw [hfl, hl] at he
                obtain ⟨e0, he0, rfl⟩ := List.mem_map.1 he
                have hx0 : (L.tup [.c (.bool (.lit 1)), e0.key, e0.val], m.put b (some (.miter (some b') since (seen ++ [e0.born]) cl)), nx) ∈ nextsF b b' since cl seen m nx (e1 :: e2 :: r) := nextsF_mem.2 ⟨e0, he0, rfl⟩
                have hm1 := hm.drew1 hw1
                have hT := (hm1.setObj (x := .miter (some b') since (seen ++ [e0.born]) cl) (ob := .mapIter (some (ρ b').g) since (seen ++ [e0.born]).toArray cl) h1 hb ⟨rfl, fun b2 h => by cases h; exact hb'⟩ nx).drew hw1
                have hin : e0 ∈ es := by
                  have : e0 ∈ leftE seen es := by rw [hl]; exact he0
                  rw [leftE_eq] at this
                  exact (List.mem_filter.1 this).1
                have := hK _ hx0 ρ _ hT (fun y hy => by
                  simp at hy
                  rcases hy with rfl | rfl | rfl
                  · trivial
                  · rw [un_self]; exact (q2 e0 hin).1
                  · rw [un_self]; exact (q2 e0 hin).2)
                unfold Oper.wp
                have hx : (execOp a.eval o).run P w = .ok (.value ((L.tup [.c (.bool (.lit 1)), e0.key, e0.val]).val E ρ)) { w1 with heap := w1.heap.setIfInBounds (ρ b).g (.mapIter (some (ρ b').g) since (seen ++ [e0.born]).toArray cl) } := by
                  have hpush : seen.toArray.push (entV E ρ e0).born = (seen ++ [e0.born]).toArray := by simp [entV]
                  rw [hpush] at hrun
                  simp only [execOp, ho, h2', Sem.run_bind, hrun, Result.andThen_ok]
                  rfl
                rw [hx]
                exact this
          · cases h
        · cases h
      · cases h
    · cases h
  · cases h
/-- slices.Collect(maps.Keys(m)) of two keys: in one order or the other. -/
structure ColOk2 (P : Program) (q : IntKind) (co k1 : Nat) (ky : TypeId) : Prop where
  body : HasBody P co
  two : ∀ (w : World) (Bm b clock : Nat) (a a' : Int) (v v' : Value) (born born' : Nat), w.cell? ⟨Bm, 0, none⟩ = some (.map (some b)) → w.heap[b]? = some (.map #[{ key := .int q a, val := v, born := born }, { key := .int q a', val := v', born := born' }] clock) → born < clock → born' < clock → born ≠ born' → a ≠ a' → kmin q ≤ a → a ≤ kmax q → kmin q ≤ a' → a' ≤ kmax q →
    Calls P co #[.func (.func k1) #[] #[.pointer (some ⟨Bm, 0, none⟩)]] w fun e w' => (∃ g cap cur, e = .returned (.slice (some ⟨g, 0, none⟩) 2 cap) ∧ w.heap.size ≤ g ∧ w'.heap[g]? = some (.cells cur ky (0, 0)) ∧ 2 ≤ cap ∧ cap ≤ maxLen ∧ cur.size = cap ∧ ((cur[0]? = some (.int q a) ∧ cur[1]? = some (.int q a')) ∨ (cur[0]? = some (.int q a') ∧ cur[1]? = some (.int q a)))) ∧ Below w.heap.size w w'
def col2M (q : IntKind) (ky : TypeId) (m : Tri B) (nx : Pt) (s t : T) : L × Tri B × Pt := (.a (.c (.slc nx 0 2 (.r 1 0))), m.put nx (some (.cells ky 2 false [] (Tri.put (Tri.put .e (path 0) (some (.int q s))) (path 1) (some (.int q t))))), nx.succ)
def fkCol (q : IntKind) (co k1 : Nat) (ky : TypeId) : Fk := fun o pc s m nx => match o.op with
  | .call c => match c.callee with
    | .value f => match opC pc s f with
      | some (.fn g []) => bif Nat.beq g co then match rawAll s c.args.toList with
        | some [.a (.c (.fn f [.ptr bx 0]))] => bif Nat.beq f k1 then match m.get bx with
          | some (.cells _ n _ d t) => match cellAt n d t 0 with
            | some (.map b) => match m.get b with
              | some (.map es cl) => match es with
                | [⟨.c (.int q1 s1), _, n1⟩, ⟨.c (.int q2 s2), _, n2⟩] => bif decide (q1 = q) && decide (q2 = q) && inIv pc (kmin q) (kmax q) s1 && inIv pc (kmin q) (kmax q) s2 && Nat.blt n1 cl && Nat.blt n2 cl && !(Nat.beq n1 n2) then match dec pc (mk2 .eq s1 s2) with
                    | some false => some [col2M q ky m nx s1 s2, col2M q ky m nx s2 s1]
                    | _ => none
                  else none
                | _ => none
              | _ => none
            | _ => none
          | _ => none
          else none
        | _ => none
        else none
      | _ => none
    | _ => none
  | _ => none
/-- An operation that calls. -/
theorem call_wp {o : Oper} {c : Call} {f : Operand} (ho : o.op = .call c) (hcal : c.callee = .value f) {a : Act} {w : World} {g : Nat} (hf : a.eval f = .func (.func g) #[] #[]) (hb : HasBody P g) {R : Ending → World → Prop} (hc : Calls P g (c.args.map a.eval) w R)
    {K : Act → World → Prop} {Q : Exit → Act → World → Prop} (hR : ∀ e w', R e w' → ∃ v, e = .returned v ∧ K (a.put o.dst v) w') : o.wp P a w K Q := by
  obtain ⟨fn, body, q1, q2, q3⟩ := hb
  have hx : (execOp a.eval o).run P w = .ok (.enter g (c.args.map a.eval)) w := by
    simp [execOp, ho, resolve, hcal, hf, Deferred.ofValue, invoke, callFunc, q1, q2, q3]
  unfold Oper.wp
  rw [hx]
  exact Calls.mono hc fun e w' he => by
    obtain ⟨v, rfl, hv⟩ := hR e w' he
    exact hv
theorem fkCol_ok {q : IntKind} {co k1 : Nat} {ky : TypeId} (h : ColOk2 P q co k1 ky) : FkOk P (fkCol q co k1 ky) := by
  intro o pc s m nx ls hl
  unfold fkCol at hl
  split at hl
  · rename_i c ho
    split at hl
    · rename_i f hcal
      split at hl
      · rename_i g hf
        cases hg : Nat.beq g co <;> simp only [hg, cond_true, cond_false] at hl
        · cases hl
        have hg := Nat.eq_of_beq_eq_true hg
        subst hg
        split at hl
        · rename_i f' bx has
          cases hk : Nat.beq f' k1 <;> simp only [hk, cond_true, cond_false] at hl
          · cases hl
          have hk := Nat.eq_of_beq_eq_true hk
          subst hk
          split at hl
          · rename_i ty n k d t hbx
            split at hl
            · rename_i b hc0
              split at hl
              · rename_i es cl hb
                split at hl
                · rename_i q1 s1 v1 n1 q2 s2 v2 n2
                  cases hi : decide (q1 = q) && decide (q2 = q) && inIv pc (kmin q) (kmax q) s1 && inIv pc (kmin q) (kmax q) s2 && Nat.blt n1 cl && Nat.blt n2 cl && !(Nat.beq n1 n2) <;> simp only [hi, cond_true, cond_false] at hl
                  · cases hl
                  simp only [Bool.and_eq_true, decide_eq_true_eq, Bool.not_eq_true'] at hi
                  obtain ⟨⟨⟨⟨⟨⟨rfl, rfl⟩, i3⟩, i4⟩, i5⟩, i6⟩, i7⟩ := hi
                  split at hl
                  · rename_i hd
                    cases hl
                    have hsuc : nx.num ≤ nx.succ.num := by rw [Pt.succ_num]; omega
                    refine ⟨by simp, fun x hx => ?_, fun E ρ D a w hp hops hm hfr K Q hK => ?_⟩
                    · simp at hx
                      rcases hx with rfl | rfl <;> exact hsuc
                    · have memA : ∀ x ∈ c.args.toList, x ∈ o.op.operands.toList := by
                        intro x hx
                        simp only [ho, Op.operands, Call.operands, hcal]
                        simp; exact .inr (by simpa using hx)
                      obtain ⟨ha1, ha2⟩ := rawAll_ok hops memA has
                      obtain ⟨hf1, hf2⟩ := opC_ok hp hops (by simp [ho, Op.operands, Call.operands, hcal]) hf
                      have hD : D bx := by
                        have : C.oks E ρ D [.ptr bx 0] := ha1 _ List.mem_cons_self
                        exact this.1
                      obtain ⟨cs, e1, _, _, _, e2⟩ := hm.mem bx _ hD hbx
                      obtain ⟨o1, o2⟩ := e2 0 _ hc0
                      have hDb : D b := o1
                      obtain ⟨e3, _⟩ := hm.mem b _ hDb hb
                      have p2 : w.cell? ⟨(ρ bx).g, 0, none⟩ = some (.map (some (ρ b).g)) := by simp only [World.cell?, e1]; simpa [C.val] using o2
                      have hk1 := inIv_ok hp i3
                      have hk2 := inIv_ok hp i4
                      have hne : s1.den E ≠ s2.den E := by
                        have := dec_ok hp hd
                        simpa [T.tr, mk2_den, O2.den, tb_ne] using this
                      have hcall := h.two w _ _ cl (s1.den E) (s2.den E) (v1.val E ρ) (v2.val E ρ) n1 n2 p2 e3 (Nat.le_of_ble_eq_true i5) (Nat.le_of_ble_eq_true i6) (Nat.ne_of_beq_eq_false i7) hne hk1.1 hk1.2 hk2.1 hk2.2
                      have hargs : c.args.map a.eval = #[.func (.func f') #[] #[.pointer (some ⟨(ρ bx).g, 0, none⟩)]] := by
                        apply Array.ext'
                        rw [Array.toList_map, ha2]
                        rfl
                      refine call_wp ho hcal hf2 h.body (hargs ▸ hcall) fun e w' ⟨⟨g', cap, cur, r1, r2, r3, r4, r5, r6, r7⟩, r8⟩ => ?_
                      have hnx : ¬ D nx := hfr (col2M q2 ky m nx s1 s2) List.mem_cons_self nx ((rg_succ _ _).2 rfl)
                      have one : ∀ (s t : T), cur[0]? = some (.int q2 (s.den E)) → cur[1]? = some (.int q2 (t.den E)) → col2M q2 ky m nx s t ∈ [col2M q2 ky m nx s1 s2, col2M q2 ky m nx s2 s1] → ∃ v, e = .returned v ∧ K (a.put o.dst v) w' := by
                        intro s t h0 h1 hin
                        have hT := hm.adopt (Below.loc r8) (b := nx) (x := .cells ky 2 false [] (Tri.put (Tri.put .e (path 0) (some (.int q2 s))) (path 1) (some (.int q2 t)))) hnx (g := g') (z := cap) r2 (by
                          refine ⟨cur, r3, r6, r4, fun h => (by cases h), fun i x hx => ?_⟩
                          unfold cellAt at hx
                          cases hi' : Nat.ble 2 i <;> simp only [hi', cond_true, cond_false] at hx
                          · have hlt : ¬ 2 ≤ i := fun hc => by rw [Nat.ble_eq_true_of_le hc] at hi'; cases hi'
                            rw [Tri.get_put, Tri.get_put] at hx
                            have : i = 0 ∨ i = 1 := by omega
                            rcases this with rfl | rfl
                            · rw [if_neg (path_ne (by decide)), if_pos rfl] at hx
                              cases hx
                              exact ⟨trivial, h0⟩
                            · rw [if_pos rfl] at hx
                              cases hx
                              exact ⟨trivial, h1⟩
                          · cases hx)
                        refine ⟨_, r1, ?_⟩
                        have := hK _ hin _ w' hT (by
                          refine ⟨.inr ((rg_succ _ _).2 rfl), ?_, ?_⟩
                          · simp only [upd_same, Cp.val]; omega
                          · simp only [upd_same, Cp.fit]; exact ⟨by omega, by omega⟩)
                        have hv : (col2M q2 ky m nx s t).1.val E (upd ρ nx ⟨g', cap⟩) = .slice (some ⟨g', 0, none⟩) 2 cap := by simp [col2M, L.val, A.val, C.val, upd_same, Cp.val]
                        rw [hv] at this
                        exact this
                      rcases r7 with ⟨h0, h1⟩ | ⟨h0, h1⟩
                      · exact one s1 s2 h0 h1 (by simp)
                      · exact one s2 s1 h0 h1 (by simp)
                  · cases hl
                · cases hl
              · cases hl
            · cases hl
          · cases hl
        · cases hl
      · cases hl
    · cases hl
  · cases hl
def orFk (f g : Fk) : Fk := fun o pc s m nx => match f o pc s m nx with
  | some r => some r
  | none => g o pc s m nx
theorem orFk_ok {f g : Fk} (hf : FkOk P f) (hg : FkOk P g) : FkOk P (orFk f g) := by
  intro o pc s m nx ls h
  unfold orFk at h
  split at h
  · rename_i r h1; cases h; exact hf _ _ _ _ _ _ h1
  · exact hg _ _ _ _ _ _ h
end
end Go.E3
namespace Go.E3
open Go.Sy
noncomputable section
variable {P : Program}
/-! told calls under more facts -/
/-- Do facts decide others? -/
def impB (pc : Pc) : Pc → Bool
  | [] => true
  | f :: r => (match dec pc f.1 with
    | some b => b == f.2
    | none => false) && impB pc r
theorem impB_ok {pc : Pc} {E : Env} (hp : pcOk E pc) : ∀ {pc' : Pc}, impB pc pc' = true → pcOk E pc' := by
  intro pc'
  induction pc' with
  | nil => intro _ x hx; cases hx
  | cons f r ih =>
    intro h x hx
    simp only [impB, Bool.and_eq_true] at h
    rcases List.mem_cons.1 hx with rfl | hx
    · have h1 := h.1
      split at h1
      · rename_i b hd
        rw [dec_ok hp hd]
        exact eq_of_beq h1
      · cases h1
    · exact ih h.2 x hx
theorem TcOk.more {pc pc' : Pc} {c : Tc} (h : TcOk P pc' c) (hi : impB pc pc' = true) : TcOk P pc c :=
  ⟨h.1, fun E ρ D m w hp => h.2 E ρ D m w (impB_ok hp hi)⟩
/-- Told calls, each with the facts that it was told under: asked where these are decided. -/
def tabF (pc : Pc) : List (Pc × Tc) → Run
  | [], _, _, _, _ => none
  | p :: r, g, as, m, nx => bif Nat.beq g p.2.g then match tabX [p.2] g as m nx with
      | some x => bif impB pc p.1 then some x else tabF pc r g as m nx
      | none => tabF pc r g as m nx
    else tabF pc r g as m nx
theorem tabF_ok {pc : Pc} : ∀ {tab : List (Pc × Tc)}, (∀ p ∈ tab, TcOk P p.1 p.2 ∧ reachB (p.2.as.flatMap L.outs) p.2.pre = true) → CallOk P pc (tabF pc tab) := by
  intro tab
  induction tab with
  | nil => intro _ g as m nx r h; cases h
  | cons p tab ih =>
    intro ht g as m nx r h
    have rest : tabF pc tab g as m nx = some r → _ := fun h => ih (fun c' hc' => ht c' (List.mem_cons_of_mem _ hc')) g as m nx r h
    simp only [tabF] at h
    cases h1 : Nat.beq g p.2.g <;> simp only [h1, cond_true, cond_false] at h
    · exact rest h
    split at h
    · rename_i x hx
      cases h2 : impB pc p.1 <;> simp only [h2, cond_true, cond_false] at h
      · exact rest h
      · cases h
        obtain ⟨q1, q2⟩ := ht p List.mem_cons_self
        have hc : CallOk P pc (tabX [p.2]) := tabX_ok fun c hc => by
          rw [List.mem_singleton.1 hc]
          exact ⟨q1.more h2, q2⟩
        exact hc g as m nx _ hx
    · exact rest h
end
end Go.E3
