/- Part 10 of a checked reader of Go texts in their model form: it runs a function at terms in the place of numbers, and each part proves that its answers hold of the model. -/
import Derived.Test.YtpjmhngcdbpmpaaLy9
namespace Go.Sy

inductive Ex where
  | norm
  | exit (id : Nat)
  | ret
  | pan (c : C)
def Ex.to : Ex → Exit
  | .norm => .normal
  | .exit id => .exit id
  | .ret => .ret
  | .pan _ => .panic []
inductive Out where
  | good (e : Ex) (st : St)
  | bad (pc : Pc) (ds : List Df)

def Cx.at (X : Cx) (E : Env) : Cx := { X with E := E }
/-- Later on: more letters, more blocks. -/
structure Later (E : Env) (ρ : Nat → Rb) (n v : Nat) (E' : Env) (ρ' : Nat → Rb) (st' : St) : Prop where
  E : Agree E E' v
  ρ : ∀ i, i < n → ρ' i = ρ i
  n : n ≤ st'.m.length
  v : v ≤ st'.k.nv
theorem Later.refl [Fs] (E : Env) (ρ : Nat → Rb) (st : St) : Later E ρ st.m.length st.k.nv E ρ st := ⟨Agree.refl _ _, fun _ _ => rfl, Nat.le_refl _, Nat.le_refl _⟩
theorem Later.trans [Fs] {E E1 E2 : Env} {ρ ρ1 ρ2 : Nat → Rb} {n v : Nat} {s1 s2 : St} (h : Later E ρ n v E1 ρ1 s1) (h2 : Later E1 ρ1 s1.m.length s1.k.nv E2 ρ2 s2) : Later E ρ n v E2 ρ2 s2 :=
  ⟨h.E.trans h2.E h.v, fun i hi => (h2.ρ i (Nat.lt_of_lt_of_le hi h.n)).trans (h.ρ i hi), Nat.le_trans h.n h2.n, Nat.le_trans h.v h2.v⟩

/-- What is asked of one way out. -/
def Sat [Fs] (X : Cx) (ρ : Nat → Rb) (n v : Nat) (Q : Exit → Act → World → Prop) : Out → Prop
  | .good (.pan c) st' => ∀ E' ρ' a' w' x, Later X.E ρ n v E' ρ' st' → Rel (X.at E') ρ' st' a' w' → Cr E' ρ' st'.m.length c x → Q (.panic [{ v := x, recovered := false }]) a' w'
  | .good e st' => ∀ E' ρ' a' w', Later X.E ρ n v E' ρ' st' → Rel (X.at E') ρ' st' a' w' → Q e.to a' w'
  | .bad pc ds => ∀ E', Agree X.E E' v → pcOk E' pc → (∀ d ∈ ds, d.ok E') → False

theorem Sat.from [Fs] {X : Cx} {ρ ρ1 : Nat → Rb} {E1 : Env} {n v : Nat} {Q : Exit → Act → World → Prop} {o : Out} {st1 : St} (h : Sat X ρ n v Q o) (L : Later X.E ρ n v E1 ρ1 st1) : Sat (X.at E1) ρ1 st1.m.length st1.k.nv Q o := by
  cases o with
  | bad pc ds => exact fun E' hE => h E' (L.E.trans hE L.v)
  | good e st' =>
    cases e with
    | pan c => exact fun E' ρ' a' w' x L2 h3 hx => h E' ρ' a' w' x (L.trans L2) h3 hx
    | _ => exact fun E' ρ' a' w' L2 h3 => h E' ρ' a' w' (L.trans L2) h3
theorem Sat.mono [Fs] {X : Cx} {ρ : Nat → Rb} {n v v' : Nat} {Q : Exit → Act → World → Prop} {o : Out} (h : Sat X ρ n v Q o) (hv : v ≤ v') : Sat X ρ n v' Q o := by
  cases o with
  | bad pc ds => exact fun E' hE => h E' (hE.mono hv)
  | good e st' =>
    cases e with
    | pan c => exact fun E' ρ' a' w' x L h3 hx => h E' ρ' a' w' x ⟨L.E.mono hv, L.ρ, L.n, Nat.le_trans hv L.v⟩ h3 hx
    | _ => exact fun E' ρ' a' w' L h3 => h E' ρ' a' w' ⟨L.E.mono hv, L.ρ, L.n, Nat.le_trans hv L.v⟩ h3

/-- Go on from each plain way out. -/
def bindL (f : St → Option (List Out)) : List Out → Option (List Out)
  | [] => some []
  | .good .norm st :: rest => match f st with
    | some a => match bindL f rest with
      | some b => some (a ++ b)
      | none => none
    | none => none
  | o :: rest => match bindL f rest with
    | some b => some (o :: b)
    | none => none
theorem bindL_ok [Fs] {X : Cx} {ρ : Nat → Rb} {n v : Nat} {Q Q1 : Exit → Act → World → Prop} {f : St → Option (List Out)}
    (hf : ∀ st outs, f st = some outs → ∀ E1 ρ1 a w, Later X.E ρ n v E1 ρ1 st → Rel (X.at E1) ρ1 st a w → (∀ o ∈ outs, Sat X ρ n v Q o) → Q1 .normal a w)
    (h1 : ∀ e a w, e ≠ .normal → Q e a w → Q1 e a w) :
    ∀ {l : List Out} {outs : List Out}, bindL f l = some outs → (∀ o ∈ outs, Sat X ρ n v Q o) → ∀ o ∈ l, Sat X ρ n v Q1 o := by
  intro l
  induction l with
  | nil => intro outs _ _ o ho; simp at ho
  | cons x rest ih =>
    intro outs hb hs o ho
    unfold bindL at hb
    split at hb
    · rename_i he; cases he
    · rename_i st rest' he
      cases he
      split at hb
      · rename_i a ha
        split at hb
        · rename_i b hb'
          cases hb
          rcases List.mem_cons.1 ho with rfl | ho
          · exact fun E' ρ' a' w' L g3 => hf _ _ ha E' ρ' a' w' L g3 fun o ho => hs o (List.mem_append_left _ ho)
          · exact ih hb' (fun o ho => hs o (List.mem_append_right _ ho)) o ho
        · cases hb
      · cases hb
    · rename_i x' rest' hne he
      cases he
      split at hb
      · rename_i b hb'
        cases hb
        rcases List.mem_cons.1 ho with rfl | ho
        · have := hs o List.mem_cons_self
          cases o with
          | bad pc ds => exact this
          | good e st' =>
            cases e with
            | norm => exact (hne _ rfl).elim
            | exit id => exact fun E' ρ' a' w' L g3 => h1 _ _ _ (by simp [Ex.to]) (this E' ρ' a' w' L g3)
            | ret => exact fun E' ρ' a' w' L g3 => h1 _ _ _ (by simp [Ex.to]) (this E' ρ' a' w' L g3)
            | pan c => exact fun E' ρ' a' w' x L g3 hx => h1 _ _ _ (by simp) (this E' ρ' a' w' x L g3 hx)
        · exact ih hb' (fun o ho => hs o (List.mem_cons_of_mem _ ho)) o ho
      · cases hb

def putS (st : St) (dst : Option Tmp) (l : L) : St := match dst with
  | some d => { st with s := st.s.set d l }
  | none => st
theorem Rel.put [Fs] {X : Cx} {ρ : Nat → Rb} {st : St} {a : Act} {w : World} (h : Rel X ρ st a w) (dst : Option Tmp) {l : L} {v : Value} (hl : Lr X.E ρ st.m.length l v) : Rel X ρ (putS st dst l) (a.put dst v) w := by
  cases dst with
  | none => exact h
  | some d => exact ⟨⟨h.slots.set d hl, h.pc, h.ds, h.F⟩, h.dfr, h.mr⟩
theorem putF_eq [Fs] {β : Type} (st : St) (dst : Option Tmp) (y : L) (k : St → β) : putF st dst y k = k (putS st dst y) := by
  cases dst <;> simp only [putF, putS, L.fc_eq, Tr.setF_eq]
theorem putS_k [Fs] (st : St) (dst : Option Tmp) (l : L) : (putS st dst l).k = st.k := by cases dst <;> rfl
theorem putS_m [Fs] (st : St) (dst : Option Tmp) (l : L) : (putS st dst l).m = st.m := by cases dst <;> rfl

theorem undef_ok [Fs] {E : Env} {ρ : Nat → Rb} {n : Nat} : Lr E ρ n (.tup []) undef := ⟨#[], rfl, F2.nil⟩
/-- What must hold, one after the other. -/
def needs (ds : List Df) (pc : Pc) : List T → List Out × Option Pc
  | [] => ([], some pc)
  | t :: rest => match dec pc t with
    | some true => needs ds pc rest
    | some false => ([.bad pc ds], none)
    | none => let r := needs ds (addP t true pc) rest; (.bad (addP t false pc) ds :: r.1, r.2)
theorem needs_ok [Fs] {X : Cx} {ρ : Nat → Rb} {n v : Nat} {Q : Exit → Act → World → Prop} {ds : List Df} (hds : ∀ d ∈ ds, d.ok X.E) : ∀ {ts : List T} {pc : Pc}, pcOk X.E pc → (∀ o ∈ (needs ds pc ts).1, Sat X ρ n v Q o) →
    ∃ pc', (needs ds pc ts).2 = some pc' ∧ pcOk X.E pc' ∧ ∀ t ∈ ts, t.tr X.E = true := by
  intro ts
  induction ts with
  | nil => intro pc hp _; exact ⟨pc, rfl, hp, fun t ht => by simp at ht⟩
  | cons t ts ih =>
    intro pc hp hs
    simp only [needs] at hs ⊢
    cases hd : dec pc t with
    | none =>
      simp only [hd] at hs ⊢
      have hb := hs _ List.mem_cons_self
      have ht : t.tr X.E = true := by
        cases h : t.tr X.E
        · exact (hb X.E (Agree.refl _ _) (pcOk_addP.2 ⟨h, hp⟩) hds).elim
        · rfl
      obtain ⟨pc', h1, h2, h3⟩ := ih (pcOk_addP.2 ⟨ht, hp⟩) (fun o ho => hs o (List.mem_cons_of_mem _ ho))
      exact ⟨pc', h1, h2, fun t' ht' => (List.mem_cons.1 ht').elim (fun e => e ▸ ht) (h3 t')⟩
    | some b =>
      cases b
      · simp only [hd] at hs
        exact ((hs _ List.mem_cons_self) X.E (Agree.refl _ _) hp hds).elim
      · simp only [hd] at hs ⊢
        obtain ⟨pc', h1, h2, h3⟩ := ih hp hs
        exact ⟨pc', h1, h2, fun t' ht' => (List.mem_cons.1 ht').elim (fun e => e ▸ dec_ok hp hd) (h3 t')⟩

inductive G where
  | yes
  | no
  | may (t : T)
def gOf (pc : Pc) (t : T) : G := match dec pc t with
  | some true => .yes
  | some false => .no
  | none => .may t
def evGuard (st : St) (ops : Array Oper) (o : Oper) : Option G :=
  match o.guard with
  | none => some .yes
  | some (j, want) => match (ops[j]?).bind (·.dst) with
    | some d => match st.s.get d with
      | some (.a (.c (.bool t))) => some (gOf st.pc (bif want then t else mkNot t))
      | some (.tup []) => some .no
      | some (.gd c (.c (.bool t))) => some (gOf st.pc (mk2 .and (tbT c) (tbT (bif want then t else mkNot t))))
      | _ => none
    | none => none
def G.says (X : Cx) (b : Bool) : G → Prop
  | .yes => b = true
  | .no => b = false
  | .may t => t.tr X.E = b
theorem evGuard_ok [Fs] {X : Cx} {ρ : Nat → Rb} {st : St} {a : Act} {w : World} (h : Rel X ρ st a w) {ops : Array Oper} {o : Oper} {g : G} (hg : evGuard st ops o = some g) : g.says X (Region.wanted o (yielded ops a.tmps)) := by
  have key : ∀ (t : T) (b : Bool), t.tr X.E = b → (gOf st.pc t).says X b := by
    intro t b hb
    unfold gOf
    split
    · rename_i hd; have := dec_ok h.pc hd; rw [hb] at this; exact this
    · rename_i hd; have := dec_ok h.pc hd; rw [hb] at this; exact this
    · exact hb
  unfold evGuard at hg
  unfold Region.wanted
  split at hg
  · rename_i ho; cases hg; simp [ho, G.says]
  · rename_i j want ho
    simp only [ho]
    unfold yielded
    split at hg
    · rename_i d hd
      rw [hd]
      split at hg
      · rename_i t hs
        cases hg
        obtain ⟨v, h1, h2⟩ := h.slots d _ hs
        simp only [Lr, Ar, Cr] at h2
        subst h2
        refine key _ _ ?_
        simp only [Option.bind_some, h1]
        cases want <;> simp only [cond_true, cond_false, tr_mkNot] <;> cases t.tr X.E <;> rfl
      · rename_i hs
        cases hg
        obtain ⟨v, h1, cs, h2, h3⟩ := h.slots d _ hs
        subst h2
        simp [h1, G.says]
      · rename_i c t hs
        cases hg
        obtain ⟨v, h1, h2, h3⟩ := h.slots d _ hs
        refine key _ _ ?_
        simp only [Option.bind_some, h1, tr_and2]
        cases hc : c.tr X.E
        · have := h3 hc
          subst this
          simp [undef]
        · have := h2 hc
          simp only [Ar, Cr] at this
          subst this
          cases want <;> simp only [cond_true, cond_false, tr_mkNot] <;> cases t.tr X.E <;> rfl
      · cases hg
    · cases hg

/-! calls -/
def calleeOf (st : St) (f : Operand) : Option (Nat × List C) :=
  match opC st f with
  | some (.fn g) => some (g, [])
  | some (.clo g caps) => some (g, caps.map fun p => .ptr p.1 p.2)
  | _ => none
def argsOf (st : St) : List Operand → Option (List L)
  | [] => some []
  | x :: rest => match argsOf st rest with
    | some r => some (.a (opA st x) :: r)
    | none => none
def resA (P : Program) (st : St) : ResultVar → Option A
  | .tmp t => match st.s.get t with
    | some (.a x) => some x
    | _ => none
  | .cell p ty => match st.s.get p with
    | some (.a (.c (.ptr b o))) => match st.m[b]? with
      | some (.cells _ xs) => match isAggT P ty with
        | some true => match sizeT P ty with
          | some n => bif Nat.ble (o + n) xs.length then some (.agg ((xs.drop o).take n)) else none
          | none => none
        | some false => match xs[o]? with
          | some y => some (.c y)
          | none => none
        | none => none
      | _ => none
    | _ => none
def resAll (P : Program) (st : St) : List ResultVar → Option (List A)
  | [] => some []
  | x :: rest => match resA P st x, resAll P st rest with
    | some y, some r => some (y :: r)
    | _, _ => none
def resL (P : Program) (st : St) (rs : List ResultVar) : Option L :=
  match resAll P st rs with
  | some [x] => some (.a x)
  | some xs => some (.tup xs)
  | none => none
/-- Back from a call: the results, into the slot. -/
def backs (P : Program) (st : St) (dst : Option Tmp) (rs : List ResultVar) : List Out → Option (List Out)
  | [] => some []
  | .bad pc ds :: rest => (backs P st dst rs rest).map (.bad pc ds :: ·)
  | .good (.exit _) _ :: _ => none
  | .good (.pan c) st' :: rest => (backs P st dst rs rest).map (.good (.pan c) ⟨st.s, st'.m, st'.pc, st'.k⟩ :: ·)
  | .good _ st' :: rest => match resL P st' rs with
    | some l => (backs P st dst rs rest).map (.good .norm (putS ⟨st.s, st'.m, st'.pc, st'.k⟩ dst l) :: ·)
    | none => none
/-- What a told call comes to. -/
structure SmR where
  l : L
  m : List Bk
  pc : Pc
  k : Kn
/-- .. of a function that only reckons. -/
structure SpR where
  l : L
  pc : Pc
  k : Kn
/-- What is known of functions: 'run' walks a body; 'sm' tells a result outright; 'sp' one of a function that only reckons. -/
structure Rn where
  run : Nat → Code → St → Option (List Out)
  sm : Nat → St → List A → Option SmR
  sp : Nat → Pc → Kn → List A → Option SpR
def argsA (st : St) : List Operand → List A
  | [] => []
  | x :: rest => opA st x :: argsA st rest
/-- A call of a function that only reckons: what it tells. -/
def evSpR (run : Rn) (st : St) (c : Call) : Option SpR :=
  match c.callee with
  | .value f => match calleeOf st f with
    | some (g, []) => match run.sp g st.pc st.k (argsA st c.args.toList) with
      | some r => bif st.s.bel st.k.nv && st.m.all (·.bel st.k.nv) then some r else none
      | none => none
    | _ => none
  | _ => none
def putP (st : St) (dst : Option Tmp) (r : SpR) : St := putS ⟨st.s, st.m, r.pc, r.k⟩ dst r.l
def evSm (run : Rn) (st : St) (dst : Option Tmp) (c : Call) : Option (List Out) :=
  match c.callee with
  | .value f => match calleeOf st f with
    | some (g, []) => match run.sm g st (argsA st c.args.toList) with
      | some r => bif st.s.bel st.k.nv then fcLs Bk.fc r.m fun m => fcPc r.pc fun pc => fcKn st.k r.k fun k => some [.good .norm (putS ⟨st.s, m, pc, k⟩ dst r.l)] else none
      | none => none
    | _ => none
  | _ => none
def evCall (P : Program) (run : Nat → Code → St → Option (List Out)) (st : St) (dst : Option Tmp) (c : Call) : Option (List Out) :=
  match c.callee with
  | .value f => match calleeOf st f with
    | some (g, caps) => match P.funcs[g]? with
      | some fn => match fn.body with
        | some body => bif fn.name == "runtime.NumGoroutine" then none else
          match argsOf st c.args.toList with
          | some as => (ini (as ++ caps.map (fun x => .a (.c x))) fn.ntmps).fc fun s => match run g body ⟨s, st.m, st.pc, st.k⟩ with
            | some outs => bif st.s.bel st.k.nv then backs P st dst fn.results.toList outs else none
            | none => none
          | none => none
        | none => none
      | none => none
    | none => none
  | _ => none

/-- A panic with a value that is known. -/
def evPan (st : St) (x : Operand) : Option (List Out) := match opC st x with
  | some (.ifc t g cs) => some [.good (.pan (.ifc t g cs)) st]
  | _ => none
def fcPcIf {β : Type} (ts : List T) (pc : Pc) (k : Pc → β) : β := match ts with
  | [] => k pc
  | _ => fcPc pc k
theorem fcPcIf_eq [Fs] {β : Type} (ts : List T) (pc : Pc) (k : Pc → β) : fcPcIf ts pc k = k pc := by unfold fcPcIf; split <;> simp only [fcPc_eq]
/-- One operation, unguarded. -/
def evO0 (P : Program) (run : Rn) (st : St) (o : Oper) : Option (List Out) :=
  match evP P st o with
  | some r => let n := needs st.k.ds st.pc r.rq
    match n.2 with
    | some pc => fcPcIf r.rq pc fun pc => some (n.1 ++ [.good .norm (putS ⟨st.s, r.m, pc, st.k⟩ o.dst r.l)])
    | none => some n.1
  | none => match o.op with
    | .call c => match evSpR run st c with
      | some r => fcPc r.pc fun pc => fcKn st.k r.k fun k => some [.good .norm (putP st o.dst ⟨r.l, pc, k⟩)]
      | none => match evSm run st o.dst c with
        | some outs => some outs
        | none => evCall P run.run st o.dst c
    | .panic x => evPan st x
    | _ => none
/-- Ways out behind an operation, what it changed written out. -/
def fcOs {β : Type} (P : Program) (old : St) (o : Oper) (at_ : Option Nat) (p : Bool) (l : List Out) (k : List Out → β) : β :=
  fcLs (fun x k => match x with | .good .norm st => fcLt P old o at_ p st fun st => k (.good .norm st) | x => k x) l k
theorem fcOs_eq [Fs] {β : Type} (P : Program) (old : St) (o : Oper) (at_ : Option Nat) (p : Bool) (l : List Out) (k : List Out → β) : fcOs P old o at_ p l k = k l :=
  fcLs_eq (fun x k => by split <;> simp only [fcLt_eq]) l k
def evO (P : Program) (run : Rn) (st : St) (o : Oper) : Option (List Out) := match evO0 P run st o with
  | some outs => fcOs P st o none false outs some
  | none => none
theorem evO_eq [Fs] (P : Program) (run : Rn) (st : St) (o : Oper) : evO P run st o = evO0 P run st o := by
  unfold evO; split <;> rename_i h <;> simp only [fcOs_eq, h]
def evOps (P : Program) (run : Rn) (ops : Array Oper) : List Nat → St → Option (List Out)
  | [], st => some [.good .norm st]
  | i :: rest, st => match ops[i]? with
    | none => evOps P run ops rest st
    | some o => match evGuard st ops o with
      | none => none
      | some .yes => match evO P run st o with
        | some outs => bindL (evOps P run ops rest) outs
        | none => none
      | some .no => evOps P run ops rest (putS st o.dst (.tup []))
      | some (.may t) => match evS P (withPc st t true) o with
        | some ⟨.a x, _, []⟩ => evOps P run ops rest (putS st o.dst (.gd t x))
        | _ => match evO P run (withPc st t true) o with
          | some outs => match bindL (evOps P run ops rest) outs, evOps P run ops rest (putS (withPc st t false) o.dst (.tup [])) with
            | some a, some b => some (a ++ b)
            | _, _ => none
          | none => none

end Go.Sy
namespace Go.Sy
section
variable {P : Program} {X : Cx}

def RunOk [Fs] (P : Program) (run : Code → St → Option (List Out)) : Prop :=
  ∀ c st outs, run c st = some outs → ∀ X ρ a w, Rel X ρ st a w → ∀ Q, (∀ o ∈ outs, Sat X ρ st.m.length st.k.nv Q o) → c.wp P Q a w

/-- A run whose 'ret' and plain end mean the same. -/
def RunE [Fs] (P : Program) (run : Code → St → Option (List Out)) : Prop :=
  ∀ c st outs, run c st = some outs → ∀ X ρ a w, Rel X ρ st a w → ∀ Q : Exit → Act → World → Prop, (∀ a w, Q .normal a w ↔ Q .ret a w) → (∀ o ∈ outs, Sat X ρ st.m.length st.k.nv Q o) → c.wp P Q a w
theorem MemR.ofD [Fs] {ρ : Nat → Rb} {m : List Bk} {w : World} (D : List Deferred) (h : MemR X ρ m w) : MemR { X with D := D } ρ m w :=
  ⟨h.mem, h.inj, h.len, h.old, h.new, ⟨h.fr.os, h.fr.tape, h.fr.output, h.fr.size, h.fr.block⟩⟩
theorem MemR.toD [Fs] {ρ : Nat → Rb} {m : List Bk} {w : World} {D : List Deferred} (h : MemR { X with D := D } ρ m w) : MemR X ρ m w :=
  ⟨h.mem, h.inj, h.len, h.old, h.new, ⟨h.fr.os, h.fr.tape, h.fr.output, h.fr.size, h.fr.block⟩⟩
/-- A run of a function's body, from its beginning. -/
def RunB [Fs] (P : Program) (g : Nat) (run : Code → St → Option (List Out)) : Prop :=
  ∀ fn body st outs, P.funcs[g]? = some fn → fn.body = some body → run body st = some outs → ∀ (X : Cx) (ρ : Nat → Rb) (args : Array Value) (w : World), X.D = [] →
    Rel X ρ st { tmps := args ++ Array.replicate (fn.ntmps - args.size) undef, defers := [] } w → ∀ R : Ending → World → Prop, (∀ o ∈ outs, Sat X ρ st.m.length st.k.nv (bodyPost P fn R) o) → Calls P g args w R
theorem then_of [Fs] {next : Act → World → Prop} {Q : Exit → Act → World → Prop} (e : Exit) (a : Act) (w : World) (he : e ≠ .normal) (h : Q e a w) : Exit.then next Q e a w := by
  cases e <;> first | exact h | exact absurd rfl he

def resSem (tmps : Array Value) (r : ResultVar) : Sem Value := match r with
  | .tmp t => pure (tmps.getD t undef)
  | .cell p t => do loadVar t (← asAddr (tmps.getD p undef))
theorem results_eq [Fs] (fn : Func) (tmps : Array Value) : results fn tmps = (fn.results.mapM (fun r => resSem tmps r) >>= fun vs => pure (if h : vs.size = 1 then vs[0] else .tuple vs)) := by
  unfold results resSem; rfl
theorem resA_ok [Fs] {ρ : Nat → Rb} {st : St} {a : Act} {w : World} (h : Rel X ρ st a w) {r : ResultVar} {x : A} (hx : resA P st r = some x) :
    ∃ v, (resSem a.tmps r).run P w = .ok v w ∧ Ar X.E ρ st.m.length x v := by
  unfold resA at hx
  split at hx
  · rename_i t
    split at hx
    · rename_i y hy
      cases hx
      obtain ⟨v, h1, h2⟩ := h.slots t _ hy
      exact ⟨v, by simp [resSem, h1], h2⟩
    · cases hx
  · rename_i p ty
    split at hx
    · rename_i b o' hy
      obtain ⟨v, h1, h2, h3⟩ := h.slots p _ hy
      subst h3
      have hg : a.tmps.getD p undef = .pointer (some ⟨(ρ b).g, o', none⟩) := by simp [h1]
      split at hx
      · rename_i ty' xs hm
        obtain ⟨cs, hh, hzz, hcs⟩ := h.mr.mem b _ hm
        split at hx
        · rename_i hagg
          split at hx
          · rename_i n hs
            cases hle : Nat.ble (o' + n) xs.length <;> simp only [hle, cond_true, cond_false] at hx
            · cases hx
            · cases hx
              rw [Nat.ble_eq] at hle
              exact ⟨_, by simp only [resSem, hg, asAddr, Sem.run_bind, Sem.run_pure, Result.andThen_ok]; exact run_loadVar_agg hh hagg hs (Nat.le_trans hle hcs.1), _, rfl, F2p.extract hcs hle⟩
          · cases hx
        · rename_i hagg
          split at hx
          · rename_i y hy'
            cases hx
            obtain ⟨v, h4, h5⟩ := hcs.2 _ _ hy'
            exact ⟨v, by simp only [resSem, hg, asAddr, Sem.run_bind, Sem.run_pure, Result.andThen_ok]; exact run_loadVar_cell hh hagg h4, h5⟩
          · cases hx
        · cases hx
      · cases hx
    · cases hx
theorem resAll_ok [Fs] {ρ : Nat → Rb} {st : St} {a : Act} {w : World} (h : Rel X ρ st a w) : ∀ {rs : List ResultVar} {xs : List A}, resAll P st rs = some xs →
    ∃ vs, (rs.mapM fun r => (resSem a.tmps r)).run P w = .ok vs w ∧ F2 (Ar X.E ρ st.m.length) xs vs.toArray := by
  intro rs
  induction rs with
  | nil => intro xs hx; cases hx; exact ⟨[], by simp, F2.nil⟩
  | cons r rs ih =>
    intro xs hx
    simp only [resAll] at hx
    split at hx
    · rename_i y l hy hl
      cases hx
      obtain ⟨v, h1, h2⟩ := resA_ok h hy
      obtain ⟨vs, h3, h4⟩ := ih hl
      refine ⟨v :: vs, ?_, ⟨by simpa using h4.1, fun i x hx => ?_⟩⟩
      · simp only [List.mapM_cons, Sem.run_bind, h1, Result.andThen_ok, h3]; rfl
      · cases i with
        | zero => simp at hx; exact ⟨v, rfl, hx ▸ h2⟩
        | succ i => simp at hx; obtain ⟨u, h5, h6⟩ := h4.2 i x hx; exact ⟨u, by simpa using h5, h6⟩
    · cases hx
theorem resL_ok [Fs] {ρ : Nat → Rb} {st : St} {a : Act} {w : World} (h : Rel X ρ st a w) {fn : Func} {l : L} (hl : resL P st fn.results.toList = some l) :
    ∃ v, (results fn a.tmps).run P w = .ok v w ∧ Lr X.E ρ st.m.length l v := by
  unfold resL at hl
  have base : ∀ xs, resAll P st fn.results.toList = some xs → ∃ vs : List Value, (fn.results.mapM fun r => (resSem a.tmps r)).run P w = .ok vs.toArray w ∧ F2 (Ar X.E ρ st.m.length) xs vs.toArray := by
    intro xs hx
    obtain ⟨vs, h1, h2⟩ := resAll_ok h hx
    refine ⟨vs, ?_, h2⟩
    rw [Array.mapM_eq_mapM_toList, Sem.run_map]
    rw [h1]; rfl
  split at hl
  · rename_i x hx
    cases hl
    obtain ⟨vs, h1, h2⟩ := base _ hx
    have hlen : vs.length = 1 := by simpa using h2.1
    match vs, hlen with
    | [v], _ =>
      obtain ⟨u, h3, h4⟩ := h2.2 0 x rfl
      simp at h3; subst h3
      refine ⟨v, ?_, h4⟩
      rw [results_eq, Sem.run_bind, h1]; rfl
  · rename_i xs hne hx
    cases hl
    obtain ⟨vs, h1, h2⟩ := base _ hx
    have hlen : ¬ vs.toArray.size = 1 := by
      intro hc
      rw [h2.1] at hc
      match xs, hc with
      | [x], _ => exact hne x rfl
    refine ⟨.tuple vs.toArray, ?_, _, rfl, h2⟩
    rw [results_eq, Sem.run_bind, h1]
    simp only [Result.andThen_ok, dif_neg hlen]; rfl
  · cases hl

theorem argsOf_ok [Fs] {ρ : Nat → Rb} {st : St} {a : Act} {w : World} (h : Rel X ρ st a w) : ∀ {xs : List Operand} {as : List L}, argsOf st xs = some as → F2 (Lr X.E ρ st.m.length) as (xs.map a.eval).toArray := by
  intro xs
  induction xs with
  | nil => intro as ha; cases ha; exact F2.nil
  | cons x xs ih =>
    intro as ha
    simp only [argsOf] at ha
    split at ha
    · rename_i r hr
      cases ha
      have := ih hr
      refine ⟨by simpa using this.1, fun i y hy => ?_⟩
      cases i with
      | zero => simp at hy; subst hy; exact ⟨a.eval x, rfl, opA_ok h.toSRel x⟩
      | succ i => simp at hy; obtain ⟨u, h5, h6⟩ := this.2 i y hy; exact ⟨u, by simpa using h5, h6⟩
    · cases ha
theorem calleeOf_ok [Fs] {ρ : Nat → Rb} {st : St} {a : Act} {w : World} (h : Rel X ρ st a w) {f : Operand} {g : Nat} {caps : List C} (hc : calleeOf st f = some (g, caps)) :
    ∃ vs, a.eval f = .func (.func g) #[] vs ∧ F2 (Cr X.E ρ st.m.length) caps vs := by
  unfold calleeOf at hc
  split at hc
  · rename_i g' hf
    cases hc
    exact ⟨#[], opC_ok h.toSRel hf, F2.nil⟩
  · rename_i g' caps' hf
    cases hc
    obtain ⟨h1, h2⟩ := opC_ok h.toSRel hf
    refine ⟨_, h2, by simp, fun i x hx => ?_⟩
    rw [List.getElem?_map] at hx
    cases hi : caps'[i]? with
    | none => simp [hi] at hx
    | some p =>
      simp [hi] at hx
      exact ⟨.pointer (some ⟨(ρ p.1).g, p.2, none⟩), by simp [hi], by rw [← hx]; exact ⟨h1 p (List.mem_of_getElem? hi), rfl⟩⟩
  · cases hc

theorem backs_ok [Fs] {ρ : Nat → Rb} {st : St} {a : Act} {w : World} (h : Rel X ρ st a w) (hbel : st.s.bel st.k.nv = true) {fn : Func} {dst : Option Tmp} {next : Act → World → Prop} {Q : Exit → Act → World → Prop} :
    ∀ {couts outs : List Out}, backs P st dst fn.results.toList couts = some outs → (∀ o ∈ outs, Sat X ρ st.m.length st.k.nv (Exit.then next Q) o) →
    ∀ o ∈ couts, Sat { X with D := [] } ρ st.m.length st.k.nv (bodyPost P fn fun
      | .returned v, w'' => next (a.put dst v) w''
      | .panicked chain, w'' => Q (.panic chain) a w''
      | .outgrown, _ => LetsOut Q) o := by
  intro couts
  induction couts with
  | nil => intro outs _ _ o ho; simp at ho
  | cons x rest ih =>
    intro outs hb hs o ho
    cases x with
    | bad pc ds =>
      simp only [backs, Option.map_eq_some_iff] at hb
      obtain ⟨outs', hb', rfl⟩ := hb
      rcases List.mem_cons.1 ho with rfl | ho
      · exact hs _ List.mem_cons_self
      · exact ih hb' (fun o ho => hs o (List.mem_cons_of_mem _ ho)) o ho
    | good e st' =>
      have step : ∀ l outs', resL P st' fn.results.toList = some l → backs P st dst fn.results.toList rest = some outs' → outs = .good .norm (putS ⟨st.s, st'.m, st'.pc, st'.k⟩ dst l) :: outs' → (e = .norm ∨ e = .ret) → Sat { X with D := [] } ρ st.m.length st.k.nv (bodyPost P fn fun
          | .returned v, w'' => next (a.put dst v) w''
          | .panicked chain, w'' => Q (.panic chain) a w''
          | .outgrown, _ => LetsOut Q) o := by
        intro l outs' hl hb' he hee
        subst he
        rcases List.mem_cons.1 ho with rfl | ho
        · have h1 := hs _ List.mem_cons_self
          rcases hee with rfl | rfl
          · intro E' ρ' a' w' L g3
            obtain ⟨v, h2, h3⟩ := resL_ok g3 hl
            have h4 := h1 E' ρ' (a.put dst v) w' ⟨L.E, L.ρ, by rw [putS_m]; exact L.n, by rw [putS_k]; exact L.v⟩ (Rel.put (X := X.at E') (st := ⟨st.s, st'.m, st'.pc, st'.k⟩) ⟨⟨(h.slots.agree L.E hbel).mono fun _ _ => Lr.mono L.ρ L.n, g3.pc, g3.ds, g3.F⟩, h.dfr, g3.mr.toD (X := X.at E')⟩ dst h3)
            exact ⟨g3.dfr, v, h2, h4⟩
          · intro E' ρ' a' w' L g3
            obtain ⟨v, h2, h3⟩ := resL_ok g3 hl
            have h4 := h1 E' ρ' (a.put dst v) w' ⟨L.E, L.ρ, by rw [putS_m]; exact L.n, by rw [putS_k]; exact L.v⟩ (Rel.put (X := X.at E') (st := ⟨st.s, st'.m, st'.pc, st'.k⟩) ⟨⟨(h.slots.agree L.E hbel).mono fun _ _ => Lr.mono L.ρ L.n, g3.pc, g3.ds, g3.F⟩, h.dfr, g3.mr.toD (X := X.at E')⟩ dst h3)
            exact ⟨g3.dfr, v, h2, h4⟩
        · exact ih hb' (fun o ho => hs o (List.mem_cons_of_mem _ ho)) o ho
      cases e with
      | exit id => simp [backs] at hb
      | pan c =>
        simp only [backs, Option.map_eq_some_iff] at hb
        obtain ⟨outs', hb', rfl⟩ := hb
        rcases List.mem_cons.1 ho with rfl | ho
        · have h1 := hs _ List.mem_cons_self
          intro E' ρ' a' w' x L g3 hx
          refine ⟨g3.dfr, ?_⟩
          exact h1 E' ρ' a w' x ⟨L.E, L.ρ, L.n, L.v⟩ ⟨⟨(h.slots.agree L.E hbel).mono fun _ _ => Lr.mono L.ρ L.n, g3.pc, g3.ds, g3.F⟩, h.dfr, g3.mr.toD (X := X.at E')⟩ hx
        · exact ih hb' (fun o ho => hs o (List.mem_cons_of_mem _ ho)) o ho
      | norm =>
        simp only [backs] at hb
        split at hb
        · rename_i l hl
          rw [Option.map_eq_some_iff] at hb
          obtain ⟨outs', hb', he⟩ := hb
          exact step l outs' hl hb' he.symm (.inl rfl)
        · cases hb
      | ret =>
        simp only [backs] at hb
        split at hb
        · rename_i l hl
          rw [Option.map_eq_some_iff] at hb
          obtain ⟨outs', hb', he⟩ := hb
          exact step l outs' hl hb' he.symm (.inr rfl)
        · cases hb

theorem evCall_ok [Fs] {run : Nat → Code → St → Option (List Out)} (hrun : ∀ g, RunB P g (run g)) {ρ : Nat → Rb} {st : St} {a : Act} {w : World} (h : Rel X ρ st a w) {o : Oper} {c : Call} (ho : o.op = .call c) {outs : List Out} (he : evCall P run st o.dst c = some outs)
    {next : Act → World → Prop} {Q : Exit → Act → World → Prop} (hs : ∀ x ∈ outs, Sat X ρ st.m.length st.k.nv (Exit.then next Q) x) : o.wp P a w next Q := by
  unfold evCall at he
  simp only [Tr.fc_eq] at he
  split at he
  · rename_i f hc
    split at he
    · rename_i g caps hg
      split at he
      · rename_i fn hfn
        split at he
        · rename_i body hb
          cases hn : fn.name == "runtime.NumGoroutine" <;> simp only [hn, cond_true, cond_false] at he
          · split at he
            · rename_i as has
              split at he
              · rename_i couts hr
                cases hbel : st.s.bel st.k.nv <;> simp only [hbel, cond_true, cond_false] at he
                · cases he
                obtain ⟨vs, hv, hvs⟩ := calleeOf_ok h hg
                have hargs := argsOf_ok h has
                have hx : (execOp a.eval o).run P w = .ok (.enter g ((c.args.map a.eval) ++ vs)) w := by
                  simp [execOp, ho, resolve, hc, hv, Deferred.ofValue, invoke, callFunc, hfn, (beq_eq_false_iff_ne.1 hn), hb]
                unfold Oper.wp
                rw [hx]
                refine hrun g fn body _ _ hfn hb hr { X with D := [] } ρ _ w rfl ⟨⟨?_, h.pc, h.ds, h.F⟩, rfl, h.mr.ofD []⟩ _ ?_
                · have e1 : F2 (Lr X.E ρ st.m.length) as (c.args.map a.eval) := by
                    have : c.args.map a.eval = (c.args.toList.map a.eval).toArray := by apply Array.ext'; simp
                    rw [this]; exact hargs
                  have e2 : F2 (Lr X.E ρ st.m.length) (caps.map fun x => L.a (.c x)) vs := hvs.map _ fun _ _ hr => hr
                  exact ini_ok (e1.append e2) _
                · exact backs_ok h hbel he hs
              · cases he
            · cases he
          · cases he
        · cases he
      · cases he
    · cases he
  · cases he

/-- What 'sm' tells is so. -/
def SmOk [Fs] (P : Program) (sm : Nat → St → List A → Option SmR) : Prop :=
  ∀ g st xs r, sm g st xs = some r → ∀ (X : Cx) (ρ : Nat → Rb) (args : Array Value) (w : World), X.E.F = Fs.F → pcOk X.E st.pc → (∀ d ∈ st.k.ds, d.ok X.E) → MemR X ρ st.m w → F2 (Ar X.E ρ st.m.length) xs args →
    (∃ fn, P.funcs[g]? = some fn ∧ fn.body.isSome = true ∧ (fn.name == "runtime.NumGoroutine") = false) ∧
    Calls P g args w fun e w' => ∃ v E' ρ', e = .returned v ∧ Later X.E ρ st.m.length st.k.nv E' ρ' ⟨st.s, r.m, r.pc, r.k⟩ ∧ Lr E' ρ' r.m.length r.l v ∧ MemR (X.at E') ρ' r.m w' ∧ pcOk E' r.pc ∧ ∀ d ∈ r.k.ds, d.ok E'
/-- What 'sp' tells is so, whatever the world. -/
def SpOk [Fs] (P : Program) (sp : Nat → Pc → Kn → List A → Option SpR) : Prop :=
  ∀ g pc k xs r, sp g pc k xs = some r → ∀ (E : Env) (ρ : Nat → Rb) (n : Nat) (args : Array Value), E.F = Fs.F → pcOk E pc → (∀ d ∈ k.ds, d.ok E) → F2 (Ar E ρ n) xs args →
    (∃ fn, P.funcs[g]? = some fn ∧ fn.body.isSome = true ∧ (fn.name == "runtime.NumGoroutine") = false) ∧
    ∃ v E', Agree E E' k.nv ∧ k.nv ≤ r.k.nv ∧ Lr E' ρ n r.l v ∧ pcOk E' r.pc ∧ (∀ d ∈ r.k.ds, d.ok E') ∧ ∀ w, Calls P g args w fun e w' => e = .returned v ∧ RowKit.Below w.heap.size w w'
def RnOk [Fs] (P : Program) (run : Rn) : Prop := (∀ g, RunB P g (run.run g)) ∧ SmOk P run.sm ∧ SpOk P run.sp
theorem MemR.below [Fs] {ρ : Nat → Rb} {m : List Bk} {w w' : World} (h : MemR X ρ m w) (hb : RowKit.Below w.heap.size w w') : MemR X ρ m w' := by
  have hf := h.fr
  refine ⟨fun i b hi => ?_, h.inj, h.len, h.old, h.new, ⟨hb.os.trans hf.os, hb.tape.trans hf.tape, hb.output.trans hf.output, Nat.le_trans hf.size hb.size, fun k hk hn => (hb.block k (Nat.lt_of_lt_of_le hk hf.size)).trans (hf.block k hk hn)⟩⟩
  exact (h.mem i b hi).same fun ht => hb.block _ (h.live_lt hi ht)
theorem argsA_ok [Fs] {ρ : Nat → Rb} {st : St} {a : Act} (h : SRel X ρ st a) : ∀ {xs : List Operand}, F2 (Ar X.E ρ st.m.length) (argsA st xs) (xs.map a.eval).toArray := by
  intro xs
  induction xs with
  | nil => exact F2.nil
  | cons x xs ih =>
    refine ⟨by simpa [argsA] using ih.1, fun i y hy => ?_⟩
    cases i with
    | zero => simp [argsA] at hy; subst hy; exact ⟨a.eval x, rfl, opA_ok h x⟩
    | succ i => simp [argsA] at hy; obtain ⟨u, h5, h6⟩ := ih.2 i y hy; exact ⟨u, by simpa using h5, h6⟩
theorem evSm_ok [Fs] {run : Rn} (hsm : SmOk P run.sm) {ρ : Nat → Rb} {st : St} {a : Act} {w : World} (h : Rel X ρ st a w) {o : Oper} {c : Call} (ho : o.op = .call c) {outs : List Out} (he : evSm run st o.dst c = some outs)
    {next : Act → World → Prop} {Q : Exit → Act → World → Prop} (hs : ∀ x ∈ outs, Sat X ρ st.m.length st.k.nv (Exit.then next Q) x) : o.wp P a w next Q := by
  unfold evSm at he
  simp only [fcPc_eq, fcKn_eq, fcLs_eq Bk.fc_eq] at he
  split at he
  · rename_i f hc
    split at he
    · rename_i g hg
      split at he
      · rename_i r hy
        cases hbel : st.s.bel st.k.nv <;> simp only [hbel, cond_true, cond_false] at he
        · cases he
        cases he
        obtain ⟨vs, hv, hvs⟩ := calleeOf_ok h hg
        have hvs' : vs = #[] := by have := hvs.1; simpa using this
        subst hvs'
        have hargs : F2 (Ar X.E ρ st.m.length) (argsA st c.args.toList) (c.args.map a.eval) := by
          have : c.args.map a.eval = (c.args.toList.map a.eval).toArray := by apply Array.ext'; simp
          rw [this]; exact argsA_ok h.toSRel
        obtain ⟨⟨fn, hfn, hb, hn⟩, hcall⟩ := hsm g _ _ r hy X ρ _ w h.F h.pc h.ds h.mr hargs
        have hx : (execOp a.eval o).run P w = .ok (.enter g (c.args.map a.eval)) w := by
          cases hbb : fn.body with
          | none => simp [hbb] at hb
          | some body => simp [execOp, ho, resolve, hc, hv, Deferred.ofValue, invoke, callFunc, hfn, (beq_eq_false_iff_ne.1 hn), hbb]
        unfold Oper.wp
        rw [hx]
        refine hcall.mono fun e w' ⟨v, E', ρ', he, L, hr, hm, hp, hd⟩ => ?_
        subst he
        exact hs _ List.mem_cons_self E' ρ' _ w' ⟨L.E, L.ρ, by rw [putS_m]; exact L.n, by rw [putS_k]; exact L.v⟩ (Rel.put (X := X.at E') (st := ⟨st.s, r.m, r.pc, r.k⟩) ⟨⟨(h.slots.agree L.E hbel).mono fun _ _ => Lr.mono L.ρ L.n, hp, hd, L.E.F.trans h.F⟩, h.dfr, hm⟩ o.dst hr)
      · cases he
    · cases he
  · cases he

theorem evSpR_raw [Fs] {run : Rn} (hsp : SpOk P run.sp) {ρ : Nat → Rb} {st : St} {a : Act} {w : World} (h : Rel X ρ st a w) {o : Oper} {c : Call} (ho : o.op = .call c) {r : SpR} (he : evSpR run st c = some r) :
    ∃ v E' g args, (∀ w, (execOp a.eval o).run P w = .ok (.enter g args) w) ∧ Agree X.E E' st.k.nv ∧ st.k.nv ≤ r.k.nv ∧ Lr E' ρ st.m.length r.l v ∧ pcOk E' r.pc ∧ (∀ d ∈ r.k.ds, d.ok E') ∧ (st.s.bel st.k.nv = true ∧ st.m.all (·.bel st.k.nv) = true) ∧ ∀ w, Calls P g args w fun e w' => e = .returned v ∧ RowKit.Below w.heap.size w w' := by
  unfold evSpR at he
  split at he
  · rename_i f hc
    split at he
    · rename_i g hg
      split at he
      · rename_i r' hy
        cases hbel : st.s.bel st.k.nv && st.m.all (·.bel st.k.nv) <;> simp only [hbel, cond_true, cond_false] at he
        · cases he
        cases he
        rw [Bool.and_eq_true] at hbel
        obtain ⟨vs, hv, hvs⟩ := calleeOf_ok h hg
        have hvs' : vs = #[] := by have := hvs.1; simpa using this
        subst hvs'
        have hargs : F2 (Ar X.E ρ st.m.length) (argsA st c.args.toList) (c.args.map a.eval) := by
          have : c.args.map a.eval = (c.args.toList.map a.eval).toArray := by apply Array.ext'; simp
          rw [this]; exact argsA_ok h.toSRel
        obtain ⟨⟨fn, hfn, hb, hn⟩, v, E', hE, hk, hl, hp, hd, hcall⟩ := hsp g _ _ _ r hy X.E ρ _ _ h.F h.pc h.ds hargs
        have hx : ∀ w, (execOp a.eval o).run P w = .ok (.enter g (c.args.map a.eval)) w := by
          intro w
          cases hbb : fn.body with
          | none => simp [hbb] at hb
          | some body => simp [execOp, ho, resolve, hc, hv, Deferred.ofValue, invoke, callFunc, hfn, (beq_eq_false_iff_ne.1 hn), hbb]
        exact ⟨v, E', g, _, hx, hE, hk, hl, hp, hd, hbel, hcall⟩
      · cases he
    · cases he
  · cases he
theorem evSpR_ok [Fs] {run : Rn} (hsp : SpOk P run.sp) {ρ : Nat → Rb} {st : St} {a : Act} {w : World} (h : Rel X ρ st a w) {o : Oper} {c : Call} (ho : o.op = .call c) {r : SpR} (he : evSpR run st c = some r) (dst : Option Tmp) :
    ∃ v E' g args, (∀ w, (execOp a.eval o).run P w = .ok (.enter g args) w) ∧ Later X.E ρ st.m.length st.k.nv E' ρ (putP st dst r) ∧ Rel (X.at E') ρ (putP st dst r) (a.put dst v) w ∧ ∀ w, Calls P g args w fun e w' => e = .returned v ∧ RowKit.Below w.heap.size w w' := by
  obtain ⟨v, E', g, args, hx, hE, hk, hl, hp, hd, hbel, hcall⟩ := evSpR_raw hsp h ho he
  refine ⟨v, E', g, args, hx, ⟨hE, fun _ _ => rfl, by rw [putP, putS_m]; exact Nat.le_refl _, by rw [putP, putS_k]; exact hk⟩, ?_, hcall⟩
  exact Rel.put (X := X.at E') (st := ⟨st.s, st.m, r.pc, r.k⟩) ⟨⟨h.slots.agree hE hbel.1, hp, hd, hE.F.trans h.F⟩, h.dfr, h.mr.agree hE hbel.2⟩ dst hl
theorem evO_ok [Fs] {run : Rn} (hrun : RnOk P run) {ρ : Nat → Rb} {st : St} {a : Act} {w : World} (h : Rel X ρ st a w) {o : Oper} {outs : List Out} (he : evO P run st o = some outs)
    {next : Act → World → Prop} {Q : Exit → Act → World → Prop} (hs : ∀ x ∈ outs, Sat X ρ st.m.length st.k.nv (Exit.then next Q) x) : o.wp P a w next Q := by
  rw [evO_eq] at he
  unfold evO0 at he
  simp only [fcPc_eq, fcKn_eq, fcPcIf_eq] at he
  split at he
  · rename_i r hr
    have hok := evP_ok h hr
    have hsn : ∀ x ∈ (needs st.k.ds st.pc r.rq).1, Sat X ρ st.m.length st.k.nv (Exit.then next Q) x := by
      intro x hx
      split at he <;> cases he
      · exact hs x (List.mem_append_left _ hx)
      · exact hs x hx
    obtain ⟨pc', h1, h2, h3⟩ := needs_ok h.ds h.pc hsn
    simp only [h1] at he
    cases he
    obtain ⟨v, w', ρ', hrun', hl, hmr, hρ, hn⟩ := hok h3
    have hlast := hs _ (List.mem_append_right _ List.mem_cons_self)
    have := hlast X.E ρ' (a.put o.dst v) w' ⟨Agree.refl _ _, hρ, by rw [putS_m]; exact hn, by rw [putS_k]; exact Nat.le_refl _⟩ (Rel.put (st := ⟨st.s, r.m, pc', st.k⟩) ⟨⟨h.slots.mono fun _ _ => Lr.mono hρ hn, h2, h.ds, h.F⟩, h.dfr, hmr⟩ o.dst hl)
    unfold Oper.wp
    rcases hrun' with hrun' | ⟨hrun', rfl⟩
    · rw [hrun']; exact this
    · rw [hrun']; exact this
  · split at he
    · rename_i c ho
      split at he
      · rename_i r hsp
        cases he
        obtain ⟨v, E', g, args, hx, L, hrel, hcall⟩ := evSpR_ok hrun.2.2 h ho hsp o.dst
        unfold Oper.wp
        rw [hx]
        refine (hcall w).mono fun e w' ⟨he, hb⟩ => ?_
        subst he
        exact hs _ List.mem_cons_self E' ρ _ w' L ⟨hrel.toSRel, hrel.dfr, hrel.mr.below hb⟩
      · split at he
        · rename_i hsm; cases he; exact evSm_ok hrun.2.1 h ho hsm hs
        · exact evCall_ok hrun.1 h ho he hs
    · rename_i x ho
      unfold evPan at he
      split at he
      · rename_i t g cs hx
        cases he
        have hv := opC_ok h.toSRel hx
        have := hs _ List.mem_cons_self X.E ρ a w _ (Later.refl _ _ _) h hv
        unfold Oper.wp
        simp only [Cr] at hv
        have e : (execOp a.eval o).run P w = .halt (.panic (a.eval x)) w := by
          simp only [execOp, ho, hv, ifV]; rfl
        rw [e]
        exact this
      · cases he
    · cases he

theorem evOps_ok [Fs] {run : Rn} (hrun : RnOk P run) {ops : Array Oper} {Q : Exit → Act → World → Prop} : ∀ {l : List Nat} {st : St} {outs : List Out}, evOps P run ops l st = some outs →
    ∀ {X : Cx} {ρ : Nat → Rb} {a : Act} {w : World}, Rel X ρ st a w → (∀ x ∈ outs, Sat X ρ st.m.length st.k.nv Q x) → wpOps P ops Q l a w := by
  intro l
  induction l with
  | nil =>
    intro st outs he X ρ a w h hs
    cases he
    exact hs _ List.mem_cons_self X.E ρ a w (Later.refl _ _ _) h
  | cons i rest ih =>
    intro st outs he X ρ a w h hs
    -- what a bind gives
    have bind : ∀ {st1 : St} {o : Oper} {outs1 outs2 : List Out}, st1.m = st.m → st1.k = st.k → Rel X ρ st1 a w → evO P run st1 o = some outs1 → bindL (evOps P run ops rest) outs1 = some outs2 → (∀ x ∈ outs2, Sat X ρ st.m.length st.k.nv Q x) → o.wp P a w (wpOps P ops Q rest) Q := by
      intro st1 o outs1 outs2 hm hk h1 ho hb hs2
      refine evO_ok hrun h1 ho ?_
      rw [hm, hk]
      refine bindL_ok (Q := Q) (fun st' outs' hf E1 ρ1 a1 w1 L hrel hs' => ?_) (fun e a w he hq => then_of e a w he hq) hb hs2
      exact ih hf hrel fun x hx => (hs' x hx).from L
    have putm : ∀ {ρ : Nat → Rb} {l : L} {dst : Option Tmp} {st1 : St}, st1.m = st.m → st1.k = st.k → ∀ {outs1 : List Out}, (∀ x ∈ outs1, Sat X ρ st.m.length st.k.nv Q x) → ∀ x ∈ outs1, Sat X ρ (putS st1 dst l).m.length (putS st1 dst l).k.nv Q x := by
      intro ρ l dst st1 hm hk outs1 hs1
      rw [putS_m, putS_k, hm, hk]; exact hs1
    simp only [evOps] at he
    simp only [wpOps]
    split at he
    · rename_i hi
      simp only [hi]
      exact ih he h hs
    · rename_i o hi
      simp only [hi]
      split at he
      · cases he
      · rename_i hg
        have hw : Region.wanted o (yielded ops a.tmps) = true := evGuard_ok h hg
        rw [if_pos hw]
        split at he
        · rename_i outs1 ho
          exact .inl (bind rfl rfl h ho he hs)
        · cases he
      · rename_i hg
        have hw : Region.wanted o (yielded ops a.tmps) = false := evGuard_ok h hg
        rw [if_neg (by simp [hw])]
        exact ih he (h.put o.dst (l := .tup []) (v := undef) undef_ok) (putm rfl rfl hs)
      · rename_i t hg
        have hw : t.tr X.E = Region.wanted o (yielded ops a.tmps) := evGuard_ok h hg
        have skip : ∀ outs', evOps P run ops rest (putS (withPc st t false) o.dst (.tup [])) = some outs' → (∀ x ∈ outs', Sat X ρ st.m.length st.k.nv Q x) → t.tr X.E = false → wpOps P ops Q rest (a.put o.dst undef) w := by
          intro outs' h1 h2 h3
          exact ih h1 ((h.withPc h3).put o.dst (l := .tup []) (v := undef) undef_ok) (putm (st1 := withPc st t false) rfl rfl h2)
        split at he
        · rename_i x m hq
          · by_cases ht : t.tr X.E = true
            · rw [if_pos (by rw [← hw]; exact ht)]
              have hrel := h.withPc ht
              obtain ⟨hok, hmm⟩ := evS_ok hrel hq
              obtain ⟨v, w', ρ', hrun', hl, hmr, hρ, hn⟩ := hok (fun t ht => by simp at ht)
              simp only at hmm hl hmr hn
              subst hmm
              left
              have hput : Rel X ρ' (putS st o.dst (.gd t x)) (a.put o.dst v) w' := Rel.put ⟨⟨h.slots.mono fun _ _ => Lr.mono hρ (Nat.le_refl _), h.pc, h.ds, h.F⟩, h.dfr, hmr⟩ o.dst ⟨fun _ => hl, fun hc => by rw [ht] at hc; cases hc⟩
              have := ih he hput (putm rfl rfl fun x hx => (hs x hx).from (st1 := st) (ρ1 := ρ') (E1 := X.E) ⟨Agree.refl _ _, hρ, Nat.le_refl _, Nat.le_refl _⟩)
              unfold Oper.wp
              rcases hrun' with hrun' | ⟨hrun', rfl⟩
              · rw [hrun']; exact this
              · rw [hrun']; exact this
            · have ht' : t.tr X.E = false := by simpa using ht
              rw [if_neg (by rw [← hw]; exact ht)]
              exact ih he (h.put o.dst (l := .gd t x) (v := undef) ⟨fun hc => absurd hc ht, fun _ => rfl⟩) (putm rfl rfl hs)
        · split at he
          · rename_i outs1 ho
            split at he
            · rename_i oa ob ha hb
              cases he
              by_cases ht : t.tr X.E = true
              · rw [if_pos (by rw [← hw]; exact ht)]
                exact .inl (bind (st1 := withPc st t true) rfl rfl (h.withPc ht) ho ha fun x hx => hs x (List.mem_append_left _ hx))
              · rw [if_neg (by rw [← hw]; exact ht)]
                exact skip ob hb (fun x hx => hs x (List.mem_append_right _ hx)) (by simpa using ht)
            · cases he
          · cases he

/-! loops -/
def wpIn (P : Program) (c : Code) (Q : Exit → Act → World → Prop) (a : Act) (w : World) : Prop :=
  ∀ (b : Frame) (k : List Item) (cs : List Frame), ∃ e a' w', Q e a' w' ∧ Arrives P (lone (b.at a (.inLoop c :: k)) cs w) b k cs e a' w'
theorem round_of [Fs] {c : Code} {Q : Exit → Act → World → Prop} {a : Act} {w : World} (h : c.wp P (Exit.then (wpIn P c Q) Q) a w) (b : Frame) (k : List Item) (cs : List Frame) :
    ∃ e a' w', Q e a' w' ∧ Arrives P (lone (b.at a (.code c :: .inLoop c :: k)) cs w) b k cs e a' w' := by
  obtain ⟨e, a₁, w₁, hq, harr⟩ := h b (.inLoop c :: k) cs
  cases e with
  | normal =>
    obtain ⟨e₂, a₂, w₂, hq₂, harr₂⟩ := hq b k cs
    exact ⟨e₂, a₂, w₂, hq₂, .of_steps harr harr₂⟩
  | exit id => exact ⟨_, a₁, w₁, hq, .pass (x := .inLoop c) rfl (fun _ _ => .inl (by simp)) harr⟩
  | goto l => exact ⟨_, a₁, w₁, hq, .pass (x := .inLoop c) rfl (fun _ _ => .inl (by simp)) harr⟩
  | ret => exact ⟨_, a₁, w₁, hq, .pass (x := .inLoop c) rfl (fun _ _ => .inl (by simp)) harr⟩
  | panic ch => exact ⟨_, a₁, w₁, hq, .pass (x := .inLoop c) rfl (fun _ _ => .inl (by simp)) harr⟩
  | outgrown => exact ⟨_, a₁, w₁, hq, .pass (x := .inLoop c) rfl (fun _ _ => .inl (by simp)) harr⟩
theorem wpIn_of [Fs] {c : Code} {Q : Exit → Act → World → Prop} {a : Act} {w : World} (h : c.wp P (Exit.then (wpIn P c Q) Q) a w) : wpIn P c Q a w := fun b k cs =>
  let ⟨e, a', w', q, r⟩ := round_of h b k cs
  ⟨e, a', w', q, .of_steps (.one step_inLoop) r⟩
theorem loop_of [Fs] {c : Code} {Q : Exit → Act → World → Prop} {a : Act} {w : World} (h : c.wp P (Exit.then (wpIn P c Q) Q) a w) : (Code.loop c).wp P Q a w := fun b k cs =>
  let ⟨e, a', w', q, r⟩ := round_of h b k cs
  ⟨e, a', w', q, .of_steps (.one step_loop) r⟩

end
end Go.Sy
