/- Part 10 of a checked reader of Go texts in their model form: it runs a function at terms in the place of numbers, and each part proves that its answers hold of the model. -/
import Derived.Test.YtddfbikeaipepaaHy9b
namespace Go.Sy

inductive Ex where
  | norm
  | exit (id : Nat)
  | ret
def Ex.to : Ex → Exit
  | .norm => .normal
  | .exit id => .exit id
  | .ret => .ret
inductive Out where
  | good (e : Ex) (st : St)
  | bad (pc : Pc) (ds : List Df)

def Cx.at (X : Cx) (E : Env) : Cx := { X with E := E }
/-- Later on: more letters, more blocks. -/
structure Later (E : Env) (ρ : Nat → Rb) (n v : Nat) (E' : Env) (ρ' : Nat → Rb) (st' : St) : Prop where
  E : Agree E E' v
  ρ : ∀ i, i < n → ρ' i = ρ i
  n : n ≤ st'.m.length
  v : v ≤ st'.k.nv
theorem Later.refl [Fs] (E : Env) (ρ : Nat → Rb) (st : St) : Later E ρ st.m.length st.k.nv E ρ st := ⟨Agree.refl _ _, fun _ _ => rfl, Nat.le_refl _, Nat.le_refl _⟩
theorem Later.trans [Fs] {E E1 E2 : Env} {ρ ρ1 ρ2 : Nat → Rb} {n v : Nat} {s1 s2 : St} (h : Later E ρ n v E1 ρ1 s1) (h2 : Later E1 ρ1 s1.m.length s1.k.nv E2 ρ2 s2) : Later E ρ n v E2 ρ2 s2 :=
  ⟨h.E.trans h2.E h.v, fun i hi => (h2.ρ i (Nat.lt_of_lt_of_le hi h.n)).trans (h.ρ i hi), Nat.le_trans h.n h2.n, Nat.le_trans h.v h2.v⟩

/-- What is asked of one way out. -/
def Sat [Fs] (X : Cx) (ρ : Nat → Rb) (n v : Nat) (Q : Exit → Act → World → Prop) : Out → Prop
  | .good e st' => ∀ E' ρ' a' w', Later X.E ρ n v E' ρ' st' → Rel (X.at E') ρ' st' a' w' → Q e.to a' w'
  | .bad pc ds => ∀ E', Agree X.E E' v → pcOk E' pc → (∀ d ∈ ds, d.ok E') → False

theorem Sat.from [Fs] {X : Cx} {ρ ρ1 : Nat → Rb} {E1 : Env} {n v : Nat} {Q : Exit → Act → World → Prop} {o : Out} {st1 : St} (h : Sat X ρ n v Q o) (L : Later X.E ρ n v E1 ρ1 st1) : Sat (X.at E1) ρ1 st1.m.length st1.k.nv Q o := by
  cases o with
  | bad pc ds => exact fun E' hE => h E' (L.E.trans hE L.v)
  | good e st' => exact fun E' ρ' a' w' L2 h3 => h E' ρ' a' w' (L.trans L2) h3
theorem Sat.mono [Fs] {X : Cx} {ρ : Nat → Rb} {n v v' : Nat} {Q : Exit → Act → World → Prop} {o : Out} (h : Sat X ρ n v Q o) (hv : v ≤ v') : Sat X ρ n v' Q o := by
  cases o with
  | bad pc ds => exact fun E' hE => h E' (hE.mono hv)
  | good e st' => exact fun E' ρ' a' w' L h3 => h E' ρ' a' w' ⟨L.E.mono hv, L.ρ, L.n, Nat.le_trans hv L.v⟩ h3

/-- Go on from each plain way out. -/
def bindL (f : St → Option (List Out)) : List Out → Option (List Out)
  | [] => some []
  | .good .norm st :: rest => match f st with
    | some a => match bindL f rest with
      | some b => some (a ++ b)
      | none => none
    | none => none
  | o :: rest => match bindL f rest with
    | some b => some (o :: b)
    | none => none
theorem bindL_ok [Fs] {X : Cx} {ρ : Nat → Rb} {n v : Nat} {Q Q1 : Exit → Act → World → Prop} {f : St → Option (List Out)}
    (hf : ∀ st outs, f st = some outs → ∀ E1 ρ1 a w, Later X.E ρ n v E1 ρ1 st → Rel (X.at E1) ρ1 st a w → (∀ o ∈ outs, Sat X ρ n v Q o) → Q1 .normal a w)
    (h1 : ∀ e a w, e ≠ .normal → Q e a w → Q1 e a w) :
    ∀ {l : List Out} {outs : List Out}, bindL f l = some outs → (∀ o ∈ outs, Sat X ρ n v Q o) → ∀ o ∈ l, Sat X ρ n v Q1 o := by
  intro l
  induction l with
  | nil => intro outs _ _ o ho; simp at ho
  | cons x rest ih =>
    intro outs hb hs o ho
    unfold bindL at hb
    split at hb
    · rename_i he; cases he
    · rename_i st rest' he
      cases he
      split at hb
      · rename_i a ha
        split at hb
        · rename_i b hb'
          cases hb
          rcases List.mem_cons.1 ho with rfl | ho
          · exact fun E' ρ' a' w' L g3 => hf _ _ ha E' ρ' a' w' L g3 fun o ho => hs o (List.mem_append_left _ ho)
          · exact ih hb' (fun o ho => hs o (List.mem_append_right _ ho)) o ho
        · cases hb
      · cases hb
    · rename_i x' rest' hne he
      cases he
      split at hb
      · rename_i b hb'
        cases hb
        rcases List.mem_cons.1 ho with rfl | ho
        · have := hs o List.mem_cons_self
          cases o with
          | bad pc ds => exact this
          | good e st' =>
            cases e with
            | norm => exact (hne _ rfl).elim
            | exit id => exact fun E' ρ' a' w' L g3 => h1 _ _ _ (by simp [Ex.to]) (this E' ρ' a' w' L g3)
            | ret => exact fun E' ρ' a' w' L g3 => h1 _ _ _ (by simp [Ex.to]) (this E' ρ' a' w' L g3)
        · exact ih hb' (fun o ho => hs o (List.mem_cons_of_mem _ ho)) o ho
      · cases hb

def putS (st : St) (dst : Option Tmp) (l : L) : St := match dst with
  | some d => { st with s := st.s.set d l }
  | none => st
theorem Rel.put [Fs] {X : Cx} {ρ : Nat → Rb} {st : St} {a : Act} {w : World} (h : Rel X ρ st a w) (dst : Option Tmp) {l : L} {v : Value} (hl : Lr X.E ρ st.m.length l v) : Rel X ρ (putS st dst l) (a.put dst v) w := by
  cases dst with
  | none => exact h
  | some d => exact ⟨⟨h.slots.set d hl, h.pc, h.ds, h.F⟩, h.dfr, h.mr⟩
theorem putF_eq [Fs] {β : Type} (st : St) (dst : Option Tmp) (y : L) (k : St → β) : putF st dst y k = k (putS st dst y) := by
  cases dst <;> simp only [putF, putS, L.fc_eq, Tr.setF_eq]
theorem putS_k [Fs] (st : St) (dst : Option Tmp) (l : L) : (putS st dst l).k = st.k := by cases dst <;> rfl
theorem putS_m [Fs] (st : St) (dst : Option Tmp) (l : L) : (putS st dst l).m = st.m := by cases dst <;> rfl

theorem undef_ok [Fs] {E : Env} {ρ : Nat → Rb} {n : Nat} : Lr E ρ n (.tup []) undef := ⟨#[], rfl, F2.nil⟩
/-- What must hold, one after the other. -/
def needs (ds : List Df) (pc : Pc) : List T → List Out × Option Pc
  | [] => ([], some pc)
  | t :: rest => match dec pc t with
    | some true => needs ds pc rest
    | some false => ([.bad pc ds], none)
    | none => let r := needs ds (addP t true pc) rest; (.bad (addP t false pc) ds :: r.1, r.2)
theorem needs_ok [Fs] {X : Cx} {ρ : Nat → Rb} {n v : Nat} {Q : Exit → Act → World → Prop} {ds : List Df} (hds : ∀ d ∈ ds, d.ok X.E) : ∀ {ts : List T} {pc : Pc}, pcOk X.E pc → (∀ o ∈ (needs ds pc ts).1, Sat X ρ n v Q o) →
    ∃ pc', (needs ds pc ts).2 = some pc' ∧ pcOk X.E pc' ∧ ∀ t ∈ ts, t.tr X.E = true := by
  intro ts
  induction ts with
  | nil => intro pc hp _; exact ⟨pc, rfl, hp, fun t ht => by simp at ht⟩
  | cons t ts ih =>
    intro pc hp hs
    simp only [needs] at hs ⊢
    cases hd : dec pc t with
    | none =>
      simp only [hd] at hs ⊢
      have hb := hs _ List.mem_cons_self
      have ht : t.tr X.E = true := by
        cases h : t.tr X.E
        · exact (hb X.E (Agree.refl _ _) (pcOk_addP.2 ⟨h, hp⟩) hds).elim
        · rfl
      obtain ⟨pc', h1, h2, h3⟩ := ih (pcOk_addP.2 ⟨ht, hp⟩) (fun o ho => hs o (List.mem_cons_of_mem _ ho))
      exact ⟨pc', h1, h2, fun t' ht' => (List.mem_cons.1 ht').elim (fun e => e ▸ ht) (h3 t')⟩
    | some b =>
      cases b
      · simp only [hd] at hs
        exact ((hs _ List.mem_cons_self) X.E (Agree.refl _ _) hp hds).elim
      · simp only [hd] at hs ⊢
        obtain ⟨pc', h1, h2, h3⟩ := ih hp hs
        exact ⟨pc', h1, h2, fun t' ht' => (List.mem_cons.1 ht').elim (fun e => e ▸ dec_ok hp hd) (h3 t')⟩

inductive G where
  | yes
  | no
  | may (t : T)
def gOf (pc : Pc) (t : T) : G := match dec pc t with
  | some true => .yes
  | some false => .no
  | none => .may t
def evGuard (st : St) (ops : Array Oper) (o : Oper) : Option G :=
  match o.guard with
  | none => some .yes
  | some (j, want) => match (ops[j]?).bind (·.dst) with
    | some d => match st.s.get d with
      | some (.a (.c (.bool t))) => some (gOf st.pc (bif want then t else mkNot t))
      | some (.tup []) => some .no
      | some (.gd c (.c (.bool t))) => some (gOf st.pc (mk2 .and (tbT c) (tbT (bif want then t else mkNot t))))
      | _ => none
    | none => none
def G.says (X : Cx) (b : Bool) : G → Prop
  | .yes => b = true
  | .no => b = false
  | .may t => t.tr X.E = b
theorem evGuard_ok [Fs] {X : Cx} {ρ : Nat → Rb} {st : St} {a : Act} {w : World} (h : Rel X ρ st a w) {ops : Array Oper} {o : Oper} {g : G} (hg : evGuard st ops o = some g) : g.says X (Region.wanted o (yielded ops a.tmps)) := by
  have key : ∀ (t : T) (b : Bool), t.tr X.E = b → (gOf st.pc t).says X b := by
    intro t b hb
    unfold gOf
    split
    · rename_i hd; have := dec_ok h.pc hd; rw [hb] at this; exact this
    · rename_i hd; have := dec_ok h.pc hd; rw [hb] at this; exact this
    · exact hb
  unfold evGuard at hg
  unfold Region.wanted
  split at hg
  · rename_i ho; cases hg; simp [ho, G.says]
  · rename_i j want ho
    simp only [ho]
    unfold yielded
    split at hg
    · rename_i d hd
      rw [hd]
      split at hg
      · rename_i t hs
        cases hg
        obtain ⟨v, h1, h2⟩ := h.slots d _ hs
        simp only [Lr, Ar, Cr] at h2
        subst h2
        refine key _ _ ?_
        simp only [Option.bind_some, h1]
        cases want <;> simp only [cond_true, cond_false, tr_mkNot] <;> cases t.tr X.E <;> rfl
      · rename_i hs
        cases hg
        obtain ⟨v, h1, cs, h2, h3⟩ := h.slots d _ hs
        subst h2
        simp [h1, G.says]
      · rename_i c t hs
        cases hg
        obtain ⟨v, h1, h2, h3⟩ := h.slots d _ hs
        refine key _ _ ?_
        simp only [Option.bind_some, h1, tr_and2]
        cases hc : c.tr X.E
        · have := h3 hc
          subst this
          simp [undef]
        · have := h2 hc
          simp only [Ar, Cr] at this
          subst this
          cases want <;> simp only [cond_true, cond_false, tr_mkNot] <;> cases t.tr X.E <;> rfl
      · cases hg
    · cases hg

/-! calls -/
def calleeOf (st : St) (f : Operand) : Option (Nat × List C) :=
  match opC st f with
  | some (.fn g) => some (g, [])
  | some (.clo g caps) => some (g, caps.map fun p => .ptr p.1 p.2)
  | _ => none
def argsOf (st : St) : List Operand → Option (List L)
  | [] => some []
  | x :: rest => match argsOf st rest with
    | some r => some (.a (opA st x) :: r)
    | none => none
def resA (P : Program) (st : St) : ResultVar → Option A
  | .tmp t => match st.s.get t with
    | some (.a x) => some x
    | _ => none
  | .cell p ty => match st.s.get p with
    | some (.a (.c (.ptr b o))) => match st.m[b]? with
      | some (.cells _ xs) => match isAggT P ty with
        | some true => match sizeT P ty with
          | some n => bif Nat.ble (o + n) xs.length then some (.agg ((xs.drop o).take n)) else none
          | none => none
        | some false => match xs[o]? with
          | some y => some (.c y)
          | none => none
        | none => none
      | _ => none
    | _ => none
def resAll (P : Program) (st : St) : List ResultVar → Option (List A)
  | [] => some []
  | x :: rest => match resA P st x, resAll P st rest with
    | some y, some r => some (y :: r)
    | _, _ => none
def resL (P : Program) (st : St) (rs : List ResultVar) : Option L :=
  match resAll P st rs with
  | some [x] => some (.a x)
  | some xs => some (.tup xs)
  | none => none
/-- Back from a call: the results, into the slot. -/
def backs (P : Program) (st : St) (dst : Option Tmp) (rs : List ResultVar) : List Out → Option (List Out)
  | [] => some []
  | .bad pc ds :: rest => (backs P st dst rs rest).map (.bad pc ds :: ·)
  | .good (.exit _) _ :: _ => none
  | .good _ st' :: rest => match resL P st' rs with
    | some l => (backs P st dst rs rest).map (.good .norm (putS ⟨st.s, st'.m, st'.pc, st'.k⟩ dst l) :: ·)
    | none => none
/-- What a told call comes to. -/
structure SmR where
  l : L
  m : List Bk
  pc : Pc
  k : Kn
/-- .. of a function that only reckons. -/
structure SpR where
  l : L
  pc : Pc
  k : Kn
/-- What is known of functions: 'run' walks a body; 'sm' tells a result outright; 'sp' one of a function that only reckons. -/
structure Rn where
  run : Nat → Code → St → Option (List Out)
  sm : Nat → St → List A → Option SmR
  sp : Nat → Pc → Kn → List A → Option SpR
def argsA (st : St) : List Operand → List A
  | [] => []
  | x :: rest => opA st x :: argsA st rest
/-- A call of a function that only reckons: what it tells. -/
def evSpR (run : Rn) (st : St) (c : Call) : Option SpR :=
  match c.callee with
  | .value f => match calleeOf st f with
    | some (g, []) => match run.sp g st.pc st.k (argsA st c.args.toList) with
      | some r => bif st.s.bel st.k.nv && st.m.all (·.bel st.k.nv) then some r else none
      | none => none
    | _ => none
  | _ => none
def putP (st : St) (dst : Option Tmp) (r : SpR) : St := putS ⟨st.s, st.m, r.pc, r.k⟩ dst r.l
def evSm (run : Rn) (st : St) (dst : Option Tmp) (c : Call) : Option (List Out) :=
  match c.callee with
  | .value f => match calleeOf st f with
    | some (g, []) => match run.sm g st (argsA st c.args.toList) with
      | some r => bif st.s.bel st.k.nv then some [.good .norm (putS ⟨st.s, r.m, r.pc, r.k⟩ dst r.l)] else none
      | none => none
    | _ => none
  | _ => none
def evCall (P : Program) (run : Nat → Code → St → Option (List Out)) (st : St) (dst : Option Tmp) (c : Call) : Option (List Out) :=
  match c.callee with
  | .value f => match calleeOf st f with
    | some (g, caps) => match P.funcs[g]? with
      | some fn => match fn.body with
        | some body => bif fn.name == "runtime.NumGoroutine" then none else
          match argsOf st c.args.toList with
          | some as => match run g body ⟨ini (as ++ caps.map (fun x => .a (.c x))) fn.ntmps, st.m, st.pc, st.k⟩ with
            | some outs => bif st.s.bel st.k.nv then backs P st dst fn.results.toList outs else none
            | none => none
          | none => none
        | none => none
      | none => none
    | none => none
  | _ => none

/-- One operation, unguarded. -/
def evO (P : Program) (run : Rn) (st : St) (o : Oper) : Option (List Out) :=
  match evP P st o with
  | some r => let n := needs st.k.ds st.pc r.rq
    match n.2 with
    | some pc => some (n.1 ++ [.good .norm (putS ⟨st.s, r.m, pc, st.k⟩ o.dst r.l)])
    | none => some n.1
  | none => match o.op with
    | .call c => match evSpR run st c with
      | some r => some [.good .norm (putP st o.dst r)]
      | none => match evSm run st o.dst c with
        | some outs => some outs
        | none => evCall P run.run st o.dst c
    | _ => none
def evOps (P : Program) (run : Rn) (ops : Array Oper) : List Nat → St → Option (List Out)
  | [], st => some [.good .norm st]
  | i :: rest, st => match ops[i]? with
    | none => evOps P run ops rest st
    | some o => match evGuard st ops o with
      | none => none
      | some .yes => match evO P run st o with
        | some outs => bindL (evOps P run ops rest) outs
        | none => none
      | some .no => evOps P run ops rest (putS st o.dst (.tup []))
      | some (.may t) => match evS P (withPc st t true) o with
        | some ⟨.a x, _, []⟩ => evOps P run ops rest (putS st o.dst (.gd t x))
        | _ => match evO P run (withPc st t true) o with
          | some outs => match bindL (evOps P run ops rest) outs, evOps P run ops rest (putS (withPc st t false) o.dst (.tup [])) with
            | some a, some b => some (a ++ b)
            | _, _ => none
          | none => none

end Go.Sy
