/- Part Zb6 of a checked reader of Go texts in their model form: it runs a function at terms in the place of numbers, and each part proves that its answers hold of the model. -/
import Derived.Test.YtjfcnhfpnjcjaaaGreatDoorQyZb7d
namespace Go.E3
open Go.Sy
noncomputable section
variable {P : Program}

/-! a condition that isn't decided, with nothing but numbers behind it on either side: both sides made one -/
def mrI (pc : Pc) (t a b : T) : T := bif a.beq b then a else match t with
  | .bin .lt r (.lit z) => bif eqF z 0 && r.beq b && a.beq (negL b) && (rngP pc b).within (-18446744073709551616) 0 then a else mkIte t a b
  | t => mkIte t a b
theorem mrI_den {E : Env} {pc : Pc} (hp : pcOk E pc) (t a b : T) : (mrI pc t a b).den E = if t.tr E = true then a.den E else b.den E := by
  unfold mrI
  cases h : a.beq b
  · simp only [cond_false]
    split
    · rename_i r z
      cases hc : eqF z 0 && r.beq b && a.beq (negL b) && (rngP pc b).within (-18446744073709551616) 0 <;> simp only [cond_true, cond_false]
      · exact den_ite E _ a b
      · simp only [Bool.and_eq_true] at hc
        obtain ⟨⟨⟨h1, h2⟩, h3⟩, h4⟩ := hc
        rw [eqF_eq, beq_iff_eq] at h1
        subst h1
        have h2 := T.beq_eq h2
        subst h2
        have h3 := T.beq_eq h3
        subst h3
        have hr := Iv.within_has h4 (rngP_has _ hp)
        split
        · rfl
        · rename_i hn
          simp only [T.tr, T.den, O2.den, tb_ne, Bool.not_eq_true, ltb_f] at hn
          rw [negL_den]; omega
    · exact den_ite E _ a b
  · rw [T.beq_eq h]; simp
theorem mrI_tr {E : Env} {pc : Pc} (hp : pcOk E pc) (t a b : T) : (mrI pc t a b).tr E = if t.tr E = true then a.tr E else b.tr E := by
  show (T.den E (mrI pc t a b) != 0) = _
  rw [mrI_den hp]
  cases t.tr E <;> rfl
def mgL (pc : Pc) (t : T) (x y : L) : Option L := match x, y with
  | .a (.c (.int k a)), .a (.c (.int k' b)) => bif decide (k = k') then some (.a (.c (.int k (mrI pc t a b)))) else none
  | .a (.c (.bool a)), .a (.c (.bool b)) => some (.a (.c (.bool (mrI pc t a b))))
  | x, y => bif x.beq y then some x else none
theorem mgL_ok {E : Env} {pc : Pc} (hp : pcOk E pc) {t : T} {x y z : L} (h : mgL pc t x y = some z) (ρ : Pt → Rb) (D : Pt → Prop) : z.val E ρ = (if t.tr E = true then x.val E ρ else y.val E ρ) ∧ ((if t.tr E = true then x.ok E ρ D else y.ok E ρ D) → z.ok E ρ D) := by
  unfold mgL at h
  split at h
  · rename_i k a k' b
    cases hk : decide (k = k') <;> rw [hk] at h
    · cases h
    · cases h
      rw [decide_eq_true_eq] at hk
      subst hk
      refine ⟨?_, fun _ => trivial⟩
      simp only [L.val, A.val, C.val, mrI_den hp]
      split <;> rfl
  · rename_i a b
    cases h
    refine ⟨?_, fun _ => trivial⟩
    simp only [L.val, A.val, C.val, mrI_tr hp]
    split <;> rfl
  · cases hb : x.beq y <;> rw [hb] at h
    · cases h
    · cases h
      rw [L.beq_eq hb]
      simp
def mgO (pc : Pc) (t : T) (x y : Option L) : Option L := match x, y with
  | some x, some y => mgL pc t x y
  | _, _ => none
def mgS (pc : Pc) (t : T) : Tri L → Tri L → Tri L
  | .n x l r, .n x' l' r' => .n (mgO pc t x x') (mgS pc t l l') (mgS pc t r r')
  | _, _ => .e
theorem mgS_get {pc : Pc} {t : T} : ∀ {a b : Tri L} {p : Pt} {z : L}, (mgS pc t a b).get p = some z → ∃ x y, a.get p = some x ∧ b.get p = some y ∧ mgL pc t x y = some z := by
  intro a
  induction a with
  | e => intro b p z h; rw [show mgS pc t .e b = .e by cases b <;> rfl, Tri.get_e] at h; cases h
  | n x l r ihl ihr =>
    intro b p z h
    cases b with
    | e => rw [show mgS pc t (.n x l r) .e = .e from rfl, Tri.get_e] at h; cases h
    | n x' l' r' =>
      cases p with
      | z =>
        change mgO pc t x x' = some z at h
        unfold mgO at h
        split at h
        · exact ⟨_, _, rfl, rfl, h⟩
        · cases h
      | l p => exact ihl h
      | r p => exact ihr h
theorem SR.mg {E : Env} {pc : Pc} (hp : pcOk E pc) {ρ : Pt → Rb} {D : Pt → Prop} {t : T} {a b : Tri L} {tmps : Array Value} (ha : t.tr E = true → SR E ρ D a tmps) (hb : t.tr E = false → SR E ρ D b tmps) : SR E ρ D (mgS pc t a b) tmps := by
  intro i l hl
  obtain ⟨x, y, hx, hy, hz⟩ := mgS_get hl
  obtain ⟨hv, ho⟩ := mgL_ok hp hz ρ D
  cases ht : t.tr E
  · obtain ⟨o, v⟩ := hb ht i y hy
    rw [ht] at hv ho
    exact ⟨ho o, by rw [hv]; exact v⟩
  · obtain ⟨o, v⟩ := ha ht i x hx
    rw [ht] at hv ho
    exact ⟨ho o, by rw [hv]; exact v⟩
/-- Operations that look at slots alone. -/
def pureL (pc : Pc) (cos : List Co) : Tri L → Option (Tri L) := List.rec (motive := fun _ => Tri L → Option (Tri L)) (fun s => some s) (fun co _ ih s => match co.c, co.dst, co.gd with
  | .pure f, some p, none => match f pc s with
    | some l => ih (s.put p (some l))
    | none => none
  | _, _, _ => none) cos
theorem pureL_ok {run : Run} {pc : Pc} {m : Tri B} {nx : Pt} : ∀ {cos : List Co} {s s' : Tri L}, pureL pc cos s = some s' → exL run pc cos s m nx = some ⟨.norm, s', m, nx⟩ := by
  intro cos
  induction cos with
  | nil => intro s s' h; cases h; rfl
  | cons co cos ih =>
    intro s s' h
    change (match co.c, co.dst, co.gd with
      | .pure f, some p, none => match f pc s with
        | some l => pureL pc cos (s.put p (some l))
        | none => none
      | _, _, _ => none) = some s' at h
    obtain ⟨c, dst, gd⟩ := co
    split at h
    · rename_i f p e1 e2 e3
      simp only at e1 e2 e3
      subst e1 e2 e3
      split at h
      · rename_i l hl
        show (match exO run pc ⟨.pure f, some p, none⟩ s m nx with
          | some (.go s m nx) => exL run pc cos s m nx
          | some (.pan c m nx) => some ⟨.pan c, s, m, nx⟩
          | none => none) = _
        have : exO run pc ⟨.pure f, some p, none⟩ s m nx = some (.go (s.put p (some l)) m nx) := by
          simp only [exO, gEv, exC, hl, putD, fcV_eq, Option.getD, Tri.putK_eq]
        rw [this]
        exact ih h
      · cases h
    · cases h
def pureK (P : Program) (pc : Pc) (N : Nat) : Code → Tri L → Option (Tri L)
  | .skip, s => some s
  | .region _ ops draw, s => bif draw then none else pureL pc (compR P N ops ops.toList) s
  | _, _ => none
end
end Go.E3
namespace Go.E3
open Go.Sy
noncomputable section
variable {P : Program}

/-! codes -/
def loopF (f : Tri L → Tri B → Pt → Option Out) (n : Nat) : Tri L → Tri B → Pt → Option Out :=
  Nat.rec (motive := fun _ => Tri L → Tri B → Pt → Option Out) (fun _ _ _ => none) (fun _ ih s m nx => match f s m nx with
    | some ⟨.norm, s, m, nx⟩ => ih s m nx
    | x => x) n
def exK (P : Program) (run : Run) (pc : Pc) (N : Nat) (c : Code) : Tri L → Tri B → Pt → Option Out :=
  Code.rec (motive := fun _ => Tri L → Tri B → Pt → Option Out)
    (fun s m nx => some ⟨.norm, s, m, nx⟩)
    (fun _ ops draw s m nx => bif draw then exDraw P run pc N ops s m nx else exLk run pc (compK P N ops ops.toList) s m nx)
    (fun _ _ ihx ihy s m nx => match ihx s m nx with
      | some ⟨.norm, s, m, nx⟩ => ihy s m nx
      | x => x)
    (fun c x y ihx ihy s m nx => match opC pc s c with
      | some (.bool t) => match t with
        | .lit n => bif eqF n 0 then ihy s m nx else ihx s m nx
        | t => match dec pc t with
          | some true => ihx s m nx
          | some false => ihy s m nx
          | none => match pureK P pc N x s, pureK P pc N y s with
            | some s1, some s2 => some ⟨.norm, mgS pc t s1 s2, m, nx⟩
            | _, _ => none
      | _ => none)
    (fun id _ ih s m nx => match ih s m nx with
      | some ⟨.exit id', s, m, nx⟩ => bif Nat.beq id' id then some ⟨.norm, s, m, nx⟩ else some ⟨.exit id', s, m, nx⟩
      | x => x)
    (fun _ ih s m nx => loopF ih 1000000 s m nx)
    (fun _ _ _ _ _ _ _ _ _ => none)
    (fun id s m nx => some ⟨.exit id, s, m, nx⟩)
    (fun _ _ _ _ _ => none)
    (fun _ _ _ _ => none)
    (fun _ _ _ _ => none)
    (fun s m nx => some ⟨.ret, s, m, nx⟩)
    (fun _ _ _ _ => none) c
section
variable {run : Run} {pc : Pc} {N : Nat}
theorem exK_seq (x y : Code) (s : Tri L) (m : Tri B) (nx : Pt) : exK P run pc N (.seq x y) s m nx = match exK P run pc N x s m nx with
  | some ⟨.norm, s, m, nx⟩ => exK P run pc N y s m nx
  | x => x := rfl
theorem exK_block (id : Nat) (x : Code) (s : Tri L) (m : Tri B) (nx : Pt) : exK P run pc N (.block id x) s m nx = match exK P run pc N x s m nx with
  | some ⟨.exit id', s, m, nx⟩ => bif Nat.beq id' id then some ⟨.norm, s, m, nx⟩ else some ⟨.exit id', s, m, nx⟩
  | x => x := rfl
theorem exK_loop (x : Code) (s : Tri L) (m : Tri B) (nx : Pt) : exK P run pc N (.loop x) s m nx = loopF (exK P run pc N x) 1000000 s m nx := rfl
theorem exK_region (id : Nat) (ops : Array Oper) (draw : Bool) (s : Tri L) (m : Tri B) (nx : Pt) : exK P run pc N (.region id ops draw) s m nx = bif draw then exDraw P run pc N ops s m nx else exL run pc (compR P N ops ops.toList) s m nx := by
  rw [← exLk_eq]; rfl
theorem exK_cond (c : Operand) (x y : Code) (s : Tri L) (m : Tri B) (nx : Pt) : exK P run pc N (.cond c x y) s m nx = match opC pc s c with
  | some (.bool t) => match t with
    | .lit n => bif eqF n 0 then exK P run pc N y s m nx else exK P run pc N x s m nx
    | t => match dec pc t with
      | some true => exK P run pc N x s m nx
      | some false => exK P run pc N y s m nx
      | none => match pureK P pc N x s, pureK P pc N y s with
        | some s1, some s2 => some ⟨.norm, mgS pc t s1 s2, m, nx⟩
        | _, _ => none
  | _ => none := rfl
theorem pureK_ok {c : Code} {s s' : Tri L} {m : Tri B} {nx : Pt} (h : pureK P pc N c s = some s') : exK P run pc N c s m nx = some ⟨.norm, s', m, nx⟩ := by
  unfold pureK at h
  split at h
  · cases h; rfl
  · rename_i id ops draw
    rw [exK_region]
    cases draw <;> simp only [cond_true, cond_false] at h ⊢
    · exact pureL_ok h
    · cases h
  · cases h
/-- What is to be shown of a code. -/
def KOk (P : Program) (pc : Pc) (N : Nat) (c : Code) (f : Tri L → Tri B → Pt → Option Out) : Prop :=
  ∀ s m nx x, f s m nx = some x → nx.num ≤ x.nx.num ∧ ∀ (E : Env) (ρ : Pt → Rb) (D : Pt → Prop) (a : Act) (w : World) (Q : Exit → Act → World → Prop) (ds : List Deferred), pcOk E pc → AR E ρ D N s a → a.defers = ds → MR E ρ D m w → (∀ b, Rg nx x.nx b → ¬ D b) →
    x.post E ρ D N ds m nx w Q → c.wp P Q a w
/-- A way out that is none behind which one goes on. -/
theorem post_then {E : Env} {ρ : Pt → Rb} {D : Pt → Prop} {ds : List Deferred} {m : Tri B} {nx : Pt} {w : World} {Q : Exit → Act → World → Prop} {next : Act → World → Prop} {x : Out} (hx : x.e ≠ .norm) (h : x.post E ρ D N ds m nx w Q) : x.post E ρ D N ds m nx w (Exit.then next Q) := by
  intro ρ' a' w' hT ha hd
  have := h ρ' a' w' hT ha hd
  revert this hx
  cases x.e <;> intro hx h
  · exact (hx rfl).elim
  · exact h
  · exact h
  · exact h
theorem seq_ok {x y : Code} {f g : Tri L → Tri B → Pt → Option Out} (hf : KOk P pc N x f) (hg : KOk P pc N y g) : KOk P pc N (.seq x y) (fun s m nx => match f s m nx with
    | some ⟨.norm, s, m, nx⟩ => g s m nx
    | x => x) := by
  intro s m nx r h
  simp only at h
  split at h
  · rename_i s1 m1 nx1 h1
    obtain ⟨l1, q1⟩ := hf _ _ _ _ h1
    obtain ⟨l2, q2⟩ := hg _ _ _ _ h
    refine ⟨Nat.le_trans l1 l2, fun E ρ D a w Q ds hp ha hd hm hfr hpost => wp_seq (q1 E ρ D a w _ ds hp ha hd hm (fresh1 hfr l2) fun ρ' a' w' hT ha' hd' => ?_)⟩
    exact q2 E ρ' _ a' w' Q ds hp ha' hd' hT.mr (fresh2 hfr l1) (Out.post_step hpost hT l2)
  · rename_i z hz
    obtain ⟨l1, q1⟩ := hf _ _ _ _ h
    refine ⟨l1, fun E ρ D a w Q ds hp ha hd hm hfr hpost => wp_seq (q1 E ρ D a w _ ds hp ha hd hm hfr (post_then (fun e => ?_) hpost))⟩
    obtain ⟨e', s', m', nx'⟩ := r
    simp only at e
    subst e
    exact hz _ _ _ h
theorem block_ok {id : Nat} {x : Code} {f : Tri L → Tri B → Pt → Option Out} (hf : KOk P pc N x f) : KOk P pc N (.block id x) (fun s m nx => match f s m nx with
    | some ⟨.exit id', s, m, nx⟩ => bif Nat.beq id' id then some ⟨.norm, s, m, nx⟩ else some ⟨.exit id', s, m, nx⟩
    | x => x) := by
  intro s m nx r h
  simp only at h
  split at h
  · rename_i id' s1 m1 nx1 h1
    obtain ⟨l1, q1⟩ := hf _ _ _ _ h1
    cases hb : Nat.beq id' id <;> simp only [hb, cond_true, cond_false] at h
    · cases h
      refine ⟨l1, fun E ρ D a w Q ds hp ha hd hm hfr hpost => wp_block (q1 E ρ D a w _ ds hp ha hd hm hfr fun ρ' a' w' hT ha' hd' => ?_)⟩
      show (if id' = id then Q .normal a' w' else Q (.exit id') a' w')
      rw [if_neg (Nat.ne_of_beq_eq_false hb)]
      exact hpost ρ' a' w' hT ha' hd'
    · cases h
      refine ⟨l1, fun E ρ D a w Q ds hp ha hd hm hfr hpost => wp_block (q1 E ρ D a w _ ds hp ha hd hm hfr fun ρ' a' w' hT ha' hd' => ?_)⟩
      show (if id' = id then Q .normal a' w' else Q (.exit id') a' w')
      rw [if_pos (Nat.eq_of_beq_eq_true hb)]
      exact hpost ρ' a' w' hT ha' hd'
  · rename_i z hz
    obtain ⟨l1, q1⟩ := hf _ _ _ _ h
    refine ⟨l1, fun E ρ D a w Q ds hp ha hd hm hfr hpost => wp_block (q1 E ρ D a w _ ds hp ha hd hm hfr fun ρ' a' w' hT ha' hd' => ?_)⟩
    have := hpost ρ' a' w' hT ha' hd'
    obtain ⟨e', s', m', nx'⟩ := r
    cases e' with
    | norm => exact this
    | ret => exact this
    | exit id' => exact (hz _ _ _ _ h).elim
    | pan c => exact this
theorem loop_ok {x : Code} {f : Tri L → Tri B → Pt → Option Out} (hf : KOk P pc N x f) (n : Nat) : ∀ s m nx r, loopF f n s m nx = some r → nx.num ≤ r.nx.num ∧ ∀ (E : Env) (ρ : Pt → Rb) (D : Pt → Prop) (a : Act) (w : World) (Q : Exit → Act → World → Prop) (ds : List Deferred), pcOk E pc → AR E ρ D N s a → a.defers = ds → MR E ρ D m w → (∀ b, Rg nx r.nx b → ¬ D b) →
    r.post E ρ D N ds m nx w Q → Code.rounds P x Q n a w := by
  induction n with
  | zero => intro s m nx r h; cases h
  | succ n ih =>
    intro s m nx r h
    change (match f s m nx with
      | some ⟨.norm, s, m, nx⟩ => loopF f n s m nx
      | x => x) = some r at h
    split at h
    · rename_i s1 m1 nx1 h1
      obtain ⟨l1, q1⟩ := hf _ _ _ _ h1
      obtain ⟨l2, q2⟩ := ih _ _ _ _ h
      refine ⟨Nat.le_trans l1 l2, fun E ρ D a w Q ds hp ha hd hm hfr hpost => q1 E ρ D a w _ ds hp ha hd hm (fresh1 hfr l2) fun ρ' a' w' hT ha' hd' => ?_⟩
      exact q2 E ρ' _ a' w' Q ds hp ha' hd' hT.mr (fresh2 hfr l1) (Out.post_step hpost hT l2)
    · rename_i z hz
      obtain ⟨l1, q1⟩ := hf _ _ _ _ h
      refine ⟨l1, fun E ρ D a w Q ds hp ha hd hm hfr hpost => q1 E ρ D a w _ ds hp ha hd hm hfr (post_then (fun e => ?_) hpost)⟩
      obtain ⟨e', s', m', nx'⟩ := r
      simp only at e
      subst e
      exact hz _ _ _ h
/-- A drawn region is what 'exDraw' tells. -/
def DrawOk (P : Program) (run : Run) (pc : Pc) (N : Nat) : Prop := ∀ id ops, KOk P pc N (.region id ops true) (exDraw P run pc N ops)
theorem sched_len {ds : List Dn} : ∀ {n L : Nat} {l : List Dn}, sched ds n L = some l → l.length = n := by
  intro n
  induction n with
  | zero => intro L l h; cases h; rfl
  | succ n ih =>
    intro L l h
    simp only [sched] at h
    split at h
    · obtain ⟨r, hr, rfl⟩ := Option.map_eq_some_iff.1 h
      rw [List.length_cons, ih hr]
    · split at h
      · obtain ⟨r, hr, rfl⟩ := Option.map_eq_some_iff.1 h
        rw [List.length_cons, ih hr]
      · cases h
theorem draw_ok (hrun : CallOk P pc run) : DrawOk P run pc N := by
  intro id ops s m nx x h
  unfold exDraw at h
  cases hfol : P.follows .mixedOrders
  · rw [hfol] at h; cases h
  rw [hfol] at h
  simp only [cond_true] at h
  split at h
  · rename_i ps fin hpl
    unfold planOf at hpl
    simp only at hpl
    cases hso : seesOk ops (mkDn P N ops 0 ops.toList) && dstsOk (mkDn P N ops 0 ops.toList)
    · rw [hso] at hpl; cases hpl
    rw [hso] at hpl
    simp only [cond_true] at hpl
    rw [Bool.and_eq_true] at hso
    have hR := rf_ok hso.1 hso.2
    split at hpl
    · rename_i l hl
      have hds := sched_mem hl
      refine ⟨exD_mono hrun hR hpl hds h, fun E ρ D a w Q dfs hp ha hd hm hfr hpost => wp_region_any hfol ?_⟩
      refine draw_main hrun hp hR hfr hpost ops.size l 0 [] none 0 ps fin [] s m nx _ ρ D a _ hpl hds h ?_ (by rw [sched_len hl]; simp)
      have hun : ∀ p, D p ↔ (D p ∨ Rg nx nx p) ∧ ∀ q ∈ ([] : List Pq), ¬ q.own p := fun p => ⟨fun h => ⟨.inl h, fun _ h => nomatch h⟩, fun h => h.1.elim (fun h => h) fun h => (rg_self _ _ h).elim⟩
      exact {
        lsz := Array.size_replicate
        lst := fun i => by
          rw [bit_zero]
          simp only [Array.getD_eq_getD_getElem?, Array.getElem?_replicate]
          split <;> simp
        low := fun i hi => by rw [bit_zero] at hi; cases hi
        acm := fun _ h => nomatch h
        anc := fun _ h => nomatch h
        clo := fun _ h => nomatch h
        pal := fun k hk => hk
        mem := fun _ h => nomatch h
        dst := fun _ h => nomatch h
        par := List.Pairwise.nil
        lds := fun _ h => nomatch h
        ina := fun _ h => nomatch h
        rcd := fun _ h => nomatch h
        agr := fun _ h => nomatch h
        deq := hun
        own := fun _ h => nomatch h
        sub := fun _ h => h
        ts := ⟨fun _ _ => rfl, fun b hb hn => (hn hb).elim, rfl, rfl, rfl, Nat.le_refl _, fun _ _ _ => rfl⟩
        mr := ⟨hm.gl.sub rfl fun _ hb => ⟨hb, rfl⟩, hm.mem, hm.inj⟩
        off := fun _ _ _ => rfl
        le := Nat.le_refl _
        sl := fun t _ l hl => ha.sr t l hl
        old := fun _ _ => rfl
        df := hd
        sz := ha.sz }
    · cases hpl
  · cases h
theorem exK_ok (hrun : CallOk P pc run) (hdraw : DrawOk P run pc N) (c : Code) : KOk P pc N c (exK P run pc N c) := by
  induction c with
  | skip =>
    intro s m nx x h
    cases h
    exact ⟨Nat.le_refl _, fun E ρ D a w Q ds hp ha hd hm hfr hpost => wp_skip (hpost ρ a w (Turn.refl hm) (by rw [un_self]; exact ha) hd)⟩
  | region id ops draw =>
    intro s m nx x h
    rw [exK_region] at h
    cases draw <;> simp only [cond_true, cond_false] at h
    · refine ⟨exL_mono hrun h, fun E ρ D a w Q ds hp ha hd hm hfr hpost => wp_region ?_⟩
      have := exL_ok hrun hp (Q := Q) h (k := 0) rfl ha hd hm hfr hpost
      rw [Array.length_toList] at this
      rw [List.range_eq_range']
      exact this
    · exact hdraw id ops s m nx x h
  | seq x y ihx ihy => exact seq_ok ihx ihy
  | cond c x y ihx ihy =>
    intro s m nx r h
    rw [exK_cond] at h
    have key : ∀ (t : T), opC pc s c = some (.bool t) → ∀ b : Bool, (∀ E, pcOk E pc → t.tr E = b) → (bif b then exK P run pc N x s m nx else exK P run pc N y s m nx) = some r → nx.num ≤ r.nx.num ∧ ∀ (E : Env) (ρ : Pt → Rb) (D : Pt → Prop) (a : Act) (w : World) (Q : Exit → Act → World → Prop) (ds : List Deferred), pcOk E pc → AR E ρ D N s a → a.defers = ds → MR E ρ D m w → (∀ b, Rg nx r.nx b → ¬ D b) →
        r.post E ρ D N ds m nx w Q → (Code.cond c x y).wp P Q a w := by
      intro t hc b hb hr
      have hev : ∀ (E : Env) (ρ : Pt → Rb) (D : Pt → Prop) (a : Act), pcOk E pc → AR E ρ D N s a → a.eval c = .bool b := fun E ρ D a hp ha => by
        have := (opC_ok hp (ha.sr.ops [c]) List.mem_cons_self hc).2
        rw [this, ← hb E hp]; rfl
      cases b
      · obtain ⟨l1, q1⟩ := ihy _ _ _ _ hr
        exact ⟨l1, fun E ρ D a w Q ds hp ha hd hm hfr hpost => wp_cond_false (hev E ρ D a hp ha) (q1 E ρ D a w Q ds hp ha hd hm hfr hpost)⟩
      · obtain ⟨l1, q1⟩ := ihx _ _ _ _ hr
        exact ⟨l1, fun E ρ D a w Q ds hp ha hd hm hfr hpost => wp_cond_true (hev E ρ D a hp ha) (q1 E ρ D a w Q ds hp ha hd hm hfr hpost)⟩
    split at h
    · rename_i t hc
      split at h
      · rename_i n
        cases hn : eqF n 0 <;> simp only [hn, cond_true, cond_false] at h
        · exact key _ hc true (fun E _ => by rw [eqF_eq] at hn; simp [T.tr, T.den, bne, hn]) h
        · exact key _ hc false (fun E _ => by rw [eqF_eq] at hn; simp [T.tr, T.den, bne, hn]) h
      · split at h
        · rename_i hd; exact key _ hc true (fun E hp => dec_ok hp hd) h
        · rename_i hd; exact key _ hc false (fun E hp => dec_ok hp hd) h
        · split at h
          · rename_i s1 s2 h1 h2
            cases h
            obtain ⟨l1, q1⟩ := ihx _ _ _ _ (pureK_ok (run := run) (m := m) (nx := nx) h1)
            obtain ⟨l2, q2⟩ := ihy _ _ _ _ (pureK_ok (run := run) (m := m) (nx := nx) h2)
            refine ⟨l1, fun E ρ D a w Q ds hp ha hd hm hfr hpost => ?_⟩
            have hev : a.eval c = .bool (T.tr E _) := (opC_ok hp (ha.sr.ops [c]) List.mem_cons_self hc).2
            cases ht : T.tr E _
            · refine wp_cond_false (hev.trans (congrArg _ ht)) (q2 E ρ D a w Q ds hp ha hd hm hfr fun ρ' a' w' hT ha' hd' => hpost ρ' a' w' hT ⟨SR.mg hp (fun h => by rw [ht] at h; cases h) (fun _ => ha'.sr), ha'.sz⟩ hd')
            · refine wp_cond_true (hev.trans (congrArg _ ht)) (q1 E ρ D a w Q ds hp ha hd hm hfr fun ρ' a' w' hT ha' hd' => hpost ρ' a' w' hT ⟨SR.mg hp (fun _ => ha'.sr) (fun h => by rw [ht] at h; cases h), ha'.sz⟩ hd')
          · cases h
    · cases h
  | block id x ih => exact block_ok ih
  | loop x ih =>
    intro s m nx r h
    rw [exK_loop] at h
    obtain ⟨l1, q1⟩ := loop_ok ih _ _ _ _ _ h
    exact ⟨l1, fun E ρ D a w Q ds hp ha hd hm hfr hpost => wp_loop_rounds _ (q1 E ρ D a w Q ds hp ha hd hm hfr hpost)⟩
  | exit id =>
    intro s m nx x h
    cases h
    exact ⟨Nat.le_refl _, fun E ρ D a w Q ds hp ha hd hm hfr hpost => wp_exit (hpost ρ a w (Turn.refl hm) (by rw [un_self]; exact ha) hd)⟩
  | ret =>
    intro s m nx x h
    cases h
    exact ⟨Nat.le_refl _, fun E ρ D a w Q ds hp ha hd hm hfr hpost => wp_ret (hpost ρ a w (Turn.refl hm) (by rw [un_self]; exact ha) hd)⟩
  | rangeFunc => intro s m nx x h; cases h
  | scope => intro s m nx x h; cases h
  | label => intro s m nx x h; cases h
  | goto => intro s m nx x h; cases h
  | refuse => intro s m nx x h; cases h
end
end
end Go.E3
namespace Go.E3
open Go.Sy
noncomputable section
variable {P : Program}

/-! functions -/
def resA (P : Program) (s : Tri L) (m : Tri B) : ResultVar → Option A
  | .tmp t => match s.get (path t) with
    | some (.a x) => some x
    | _ => none
  | .cell p ty => match s.get (path p) with
    | some (.a (.c (.ptr b o))) => match m.get b with
      | some (.cells _ n _ d t) => match isAggT P ty, sizeT P ty with
        | some true, some (k + 1) => match rdCells n d t (k + 1) o with
          | some xs => some (.agg xs)
          | none => none
        | some false, some _ => match cellAt n d t o with
          | some x => some (.c x)
          | none => none
        | _, _ => none
      | _ => none
    | _ => none
def resAll (P : Program) (s : Tri L) (m : Tri B) : List ResultVar → Option (List A)
  | [] => some []
  | r :: rest => match resA P s m r with
    | some x => match resAll P s m rest with
      | some xs => some (x :: xs)
      | none => none
    | none => none
def resL (P : Program) (s : Tri L) (m : Tri B) (rs : List ResultVar) : Option L := match resAll P s m rs with
  | some [x] => some (.a x)
  | some xs => some (.tup xs)
  | none => none
def resSem (tmps : Array Value) (r : ResultVar) : Sem Value := match r with
  | .tmp t => pure (tmps.getD t undef)
  | .cell p t => do loadVar t (← asAddr (tmps.getD p undef))
theorem results_eq (fn : Func) (tmps : Array Value) : results fn tmps = (fn.results.mapM (fun r => resSem tmps r) >>= fun vs => pure (if h : vs.size = 1 then vs[0] else .tuple vs)) := by
  unfold results resSem; rfl
section
variable {E : Env} {ρ : Pt → Rb} {D : Pt → Prop} {s : Tri L} {m : Tri B} {tmps : Array Value} {w : World}
theorem resA_ok (hs : SR E ρ D s tmps) (hm : MR E ρ D m w) {r : ResultVar} {x : A} (hx : resA P s m r = some x) : (resSem tmps r).run P w = .ok (x.val E ρ) w ∧ x.ok E ρ D := by
  unfold resA at hx
  split at hx
  · rename_i t
    split at hx
    · rename_i y hy
      cases hx
      obtain ⟨h1, h2⟩ := hs t _ hy
      exact ⟨by simp [resSem, h2, L.val], h1⟩
    · cases hx
  · rename_i p ty
    split at hx
    · rename_i b o' hy
      obtain ⟨h1, h2⟩ := hs p _ hy
      have hg : tmps.getD p undef = .pointer (some ⟨(ρ b).g, o', none⟩) := by simp [h2, L.val, A.val, C.val]
      split at hx
      · rename_i ty' n k d t hb
        obtain ⟨cs, g1, g2, g3, g4, g5⟩ := hm.mem b _ h1 hb
        split at hx
        · rename_i k' ha hs'
          split at hx
          · rename_i xs hxs
            cases hx
            obtain ⟨p1, p2, p3⟩ := rdCells_val g5 (Nat.succ_pos _) hxs
            refine ⟨?_, p2⟩
            simp only [resSem, hg, asAddr, Sem.run_bind, Sem.run_pure, Result.andThen_ok, A.val]
            rw [← p3]
            exact run_loadVar_agg g1 ha hs' p1
          · cases hx
        · rename_i ha hs'
          split at hx
          · rename_i c hc
            cases hx
            obtain ⟨p1, p2⟩ := g5 _ _ hc
            refine ⟨?_, p1⟩
            simp only [resSem, hg, asAddr, Sem.run_bind, Sem.run_pure, Result.andThen_ok, A.val]
            exact run_loadVar_cell g1 ha p2
          · cases hx
        · cases hx
      · cases hx
    · cases hx
theorem resAll_ok (hs : SR E ρ D s tmps) (hm : MR E ρ D m w) : ∀ {rs : List ResultVar} {xs : List A}, resAll P s m rs = some xs → (rs.mapM fun r => (resSem tmps r)).run P w = .ok (xs.map (A.val E ρ)) w ∧ ∀ x ∈ xs, x.ok E ρ D := by
  intro rs
  induction rs with
  | nil => intro xs hx; cases hx; exact ⟨by simp, fun _ h => nomatch h⟩
  | cons r rs ih =>
    intro xs hx
    simp only [resAll] at hx
    split at hx
    · rename_i y hy
      split at hx
      · rename_i l hl
        cases hx
        obtain ⟨h1, h2⟩ := resA_ok hs hm hy
        obtain ⟨h3, h4⟩ := ih hl
        refine ⟨?_, fun x hx' => ?_⟩
        · simp only [List.mapM_cons, Sem.run_bind, h1, Result.andThen_ok, h3]; rfl
        · rcases List.mem_cons.1 hx' with rfl | hx'
          · exact h2
          · exact h4 x hx'
      · cases hx
    · cases hx
theorem resL_ok (hs : SR E ρ D s tmps) (hm : MR E ρ D m w) {fn : Func} {l : L} (hl : resL P s m fn.results.toList = some l) : (results fn tmps).run P w = .ok (l.val E ρ) w ∧ l.ok E ρ D := by
  unfold resL at hl
  have base : ∀ xs, resAll P s m fn.results.toList = some xs → (fn.results.mapM fun r => (resSem tmps r)).run P w = .ok (xs.map (A.val E ρ)).toArray w ∧ ∀ x ∈ xs, x.ok E ρ D := by
    intro xs hx
    obtain ⟨h1, h2⟩ := resAll_ok hs hm hx
    refine ⟨?_, h2⟩
    rw [Array.mapM_eq_mapM_toList, Sem.run_map, h1]; rfl
  split at hl
  · rename_i x hx
    cases hl
    obtain ⟨h1, h2⟩ := base _ hx
    refine ⟨?_, h2 x List.mem_cons_self⟩
    rw [results_eq, Sem.run_bind, h1]; rfl
  · rename_i xs hne hx
    cases hl
    obtain ⟨h1, h2⟩ := base _ hx
    have hlen : ¬ (xs.map (A.val E ρ)).toArray.size = 1 := by
      intro hc
      simp at hc
      match xs, hc with
      | [x], _ => exact hne x rfl
    refine ⟨?_, h2⟩
    rw [results_eq, Sem.run_bind, h1]
    simp only [Result.andThen_ok, dif_neg hlen]; rfl
  · cases hl
end
/-- The slots at a call's beginning. -/
def iniT {β : Type} (as : List L) : Tri L → Nat → (Tri L → β) → β :=
  List.rec (motive := fun _ => Tri L → Nat → (Tri L → β) → β) (fun t _ k => k t) (fun x _ ih t o k => fcV x fun x => t.putK (path o) (some x) fun t => ih t (Nat.succ o) k) as
def iniS : List L → Tri L → Nat → Tri L
  | [], t, _ => t
  | x :: xs, t, o => iniS xs (t.put (path o) (some x)) (Nat.succ o)
theorem iniT_eq {β : Type} : ∀ (as : List L) (t : Tri L) (o : Nat) (k : Tri L → β), iniT as t o k = k (iniS as t o)
  | [], _, _, _ => rfl
  | x :: xs, t, o, k => by
    show fcV x (fun x => t.putK (path o) (some x) fun t => iniT xs t (Nat.succ o) k) = _
    rw [fcV_eq, Tri.putK_eq, iniT_eq xs]; rfl
theorem iniS_get : ∀ (as : List L) (t : Tri L) (o i : Nat), (iniS as t o).get (path i) = if o ≤ i ∧ i < o + as.length then as[i - o]? else t.get (path i)
  | [], t, o, i => by simp only [iniS, List.length_nil]; rw [if_neg (by omega)]
  | x :: xs, t, o, i => by
    simp only [iniS]
    rw [iniS_get xs, Tri.get_put]
    by_cases h : o = i
    · subst h
      rw [if_neg (by omega), if_pos rfl, if_pos (by simp)]; simp
    · rw [if_neg (path_ne h)]
      by_cases h2 : Nat.succ o ≤ i ∧ i < Nat.succ o + xs.length
      · rw [if_pos h2, if_pos (by simp; omega)]
        have : i - o = (i - Nat.succ o) + 1 := by omega
        rw [this, List.getElem?_cons_succ]
      · rw [if_neg h2, if_neg (by simp; omega)]
theorem ini_ok {E : Env} {ρ : Pt → Rb} {D : Pt → Prop} {as : List L} (h : ∀ l ∈ as, l.ok E ρ D) (N : Nat) (ds : List Deferred) : AR E ρ D N (iniS as .e 0) { tmps := (as.map (L.val E ρ)).toArray ++ Array.replicate (N - (as.map (L.val E ρ)).toArray.size) undef, defers := ds } := by
  refine ⟨fun t l hl => ?_, ?_⟩
  · rw [iniS_get] at hl
    split at hl
    · rename_i hi
      rw [Nat.sub_zero] at hl
      refine ⟨h l (List.mem_of_getElem? hl), ?_⟩
      rw [Array.getElem?_append_left (by simp; omega)]
      simp [hl]
    · rw [Tri.get_e] at hl; cases hl
  · simp only [Array.size_append, Array.size_replicate]; omega
def exF0 (P : Program) (run : Run) (pc : Pc) (fn : Func) (body : Code) (as : List L) (m : Tri B) (nx : Pt) : Option CR := iniT as .e 0 fun s => match exK P run pc fn.ntmps body s m nx with
  | some ⟨.pan c, _, m, nx⟩ => some (.pan c m nx)
  | some ⟨.exit _, _, _, _⟩ => none
  | some ⟨_, s, m, nx⟩ => match resL P s m fn.results.toList with
    | some l => fcV l fun l => some (.ret l m nx)
    | none => none
  | none => none
theorem exF0_ok {run : Run} {pc : Pc} (hrun : CallOk P pc run) {g : Nat} {fn : Func} {body : Code} (hf : P.funcs[g]? = some fn) (hb : fn.body = some body) {as : List L} {m : Tri B} {nx : Pt} {r : CR} (h : exF0 P run pc fn body as m nx = some r) :
    nx.num ≤ r.nx.num ∧ ∀ (E : Env) (ρ : Pt → Rb) (D : Pt → Prop) (w : World), pcOk E pc → (∀ l ∈ as, l.ok E ρ D) → MR E ρ D m w → (∀ b, Rg nx r.nx b → ¬ D b) → Calls P g (as.map (L.val E ρ)).toArray w (CR.ok E ρ D m nx w r) := by
  unfold exF0 at h
  rw [iniT_eq] at h
  simp only [fcV_eq] at h
  split at h
  · rename_i c s' m' nx' hk
    cases h
    obtain ⟨l1, q1⟩ := exK_ok hrun (draw_ok hrun) body _ _ _ _ hk
    refine ⟨l1, fun E ρ D w hp has hm hfr => calls_of_wp hf hb (q1 E ρ D _ w _ [] hp (ini_ok has _ _) rfl hm hfr fun ρ' a' w' hT ha hd hc => ⟨hd, ρ', rfl, hc, hT⟩)⟩
  · cases h
  · rename_i e s' m' nx' hne hne2 hk
    split at h
    · rename_i l hl
      cases h
      obtain ⟨l1, q1⟩ := exK_ok hrun (draw_ok hrun) body _ _ _ _ hk
      refine ⟨l1, fun E ρ D w hp has hm hfr => calls_of_wp hf hb (q1 E ρ D _ w _ [] hp (ini_ok has _ _) rfl hm hfr fun ρ' a' w' hT ha hd => ?_)⟩
      obtain ⟨h1, h2⟩ := resL_ok ha.sr hT.mr hl
      cases e with
      | norm => exact ⟨hd, _, h1, ρ', rfl, h2, hT⟩
      | ret => exact ⟨hd, _, h1, ρ', rfl, h2, hT⟩
      | exit id => exact (hne2 _ rfl).elim
      | pan c => exact (hne _ rfl).elim
    · cases h
  · cases h

end
end Go.E3
