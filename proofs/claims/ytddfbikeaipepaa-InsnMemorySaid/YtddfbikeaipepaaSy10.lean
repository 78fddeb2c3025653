/- Part 10 of a checked reader of Go texts in their model form: it runs a function at terms in the place of numbers, and each part proves that its answers hold of the model. -/
import Derived.Test.YtddfbikeaipepaaSy9
namespace Go.Sy

inductive Ex where
  | norm
  | exit (id : Nat)
  | ret
def Ex.to : Ex → Exit
  | .norm => .normal
  | .exit id => .exit id
  | .ret => .ret
inductive Out where
  | good (e : Ex) (st : St)
  | bad (pc : Pc)

/-- What is asked of one way out. -/
def Sat (X : Cx) (ρ : Nat → Nat) (n : Nat) (Q : Exit → Act → World → Prop) : Out → Prop
  | .good e st' => ∀ ρ' a' w', (∀ i, i < n → ρ' i = ρ i) → n ≤ st'.m.length → Rel X ρ' st' a' w' → Q e.to a' w'
  | .bad pc => ¬ pcOk X.E pc

theorem Sat.from {X : Cx} {ρ ρ1 : Nat → Nat} {n n1 : Nat} {Q : Exit → Act → World → Prop} {o : Out} (h : Sat X ρ n Q o) (hρ : ∀ i, i < n → ρ1 i = ρ i) (hn : n ≤ n1) : Sat X ρ1 n1 Q o := by
  cases o with
  | bad pc => exact h
  | good e st' => exact fun ρ' a' w' h1 h2 h3 => h ρ' a' w' (fun i hi => (h1 i (Nat.lt_of_lt_of_le hi hn)).trans (hρ i hi)) (Nat.le_trans hn h2) h3

/-- Go on from each plain way out. -/
def bindL (f : St → Option (List Out)) : List Out → Option (List Out)
  | [] => some []
  | .good .norm st :: rest => match f st with
    | some a => match bindL f rest with
      | some b => some (a ++ b)
      | none => none
    | none => none
  | o :: rest => match bindL f rest with
    | some b => some (o :: b)
    | none => none
theorem bindL_ok {X : Cx} {ρ : Nat → Nat} {n : Nat} {Q Q1 : Exit → Act → World → Prop} {f : St → Option (List Out)}
    (hf : ∀ st outs, f st = some outs → ∀ ρ1 a w, (∀ i, i < n → ρ1 i = ρ i) → n ≤ st.m.length → Rel X ρ1 st a w → (∀ o ∈ outs, Sat X ρ n Q o) → Q1 .normal a w)
    (h1 : ∀ e a w, e ≠ .normal → Q e a w → Q1 e a w) :
    ∀ {l : List Out} {outs : List Out}, bindL f l = some outs → (∀ o ∈ outs, Sat X ρ n Q o) → ∀ o ∈ l, Sat X ρ n Q1 o := by
  intro l
  induction l with
  | nil => intro outs _ _ o ho; simp at ho
  | cons x rest ih =>
    intro outs hb hs o ho
    unfold bindL at hb
    split at hb
    · rename_i he; cases he
    · rename_i st rest' he
      cases he
      split at hb
      · rename_i a ha
        split at hb
        · rename_i b hb'
          cases hb
          rcases List.mem_cons.1 ho with rfl | ho
          · exact fun ρ' a' w' g1 g2 g3 => hf _ _ ha ρ' a' w' g1 g2 g3 fun o ho => hs o (List.mem_append_left _ ho)
          · exact ih hb' (fun o ho => hs o (List.mem_append_right _ ho)) o ho
        · cases hb
      · cases hb
    · rename_i x' rest' hne he
      cases he
      split at hb
      · rename_i b hb'
        cases hb
        rcases List.mem_cons.1 ho with rfl | ho
        · have := hs o List.mem_cons_self
          cases o with
          | bad pc => exact this
          | good e st' =>
            cases e with
            | norm => exact (hne _ rfl).elim
            | exit id => exact fun ρ' a' w' g1 g2 g3 => h1 _ _ _ (by simp [Ex.to]) (this ρ' a' w' g1 g2 g3)
            | ret => exact fun ρ' a' w' g1 g2 g3 => h1 _ _ _ (by simp [Ex.to]) (this ρ' a' w' g1 g2 g3)
        · exact ih hb' (fun o ho => hs o (List.mem_cons_of_mem _ ho)) o ho
      · cases hb

def putS (st : St) (dst : Option Tmp) (l : L) : St := match dst with
  | some d => { st with s := st.s.set d l }
  | none => st
theorem Rel.put {X : Cx} {ρ : Nat → Nat} {st : St} {a : Act} {w : World} (h : Rel X ρ st a w) (dst : Option Tmp) {l : L} {v : Value} (hl : Lr X.E ρ st.m.length l v) : Rel X ρ (putS st dst l) (a.put dst v) w := by
  cases dst with
  | none => exact h
  | some d => exact ⟨⟨h.slots.set d hl, h.pc⟩, h.dfr, h.mr⟩
theorem putS_m (st : St) (dst : Option Tmp) (l : L) : (putS st dst l).m = st.m := by cases dst <;> rfl

theorem undef_ok {E : Env} {ρ : Nat → Nat} {n : Nat} : Lr E ρ n (.tup []) undef := ⟨#[], rfl, F2.nil⟩
/-- What must hold, one after the other. -/
def needs (pc : Pc) : List T → List Out × Option Pc
  | [] => ([], some pc)
  | t :: rest => match dec pc t with
    | some true => needs pc rest
    | some false => ([.bad pc], none)
    | none => let r := needs (addP t true pc) rest; (.bad (addP t false pc) :: r.1, r.2)
theorem needs_ok {X : Cx} {ρ : Nat → Nat} {n : Nat} {Q : Exit → Act → World → Prop} : ∀ {ts : List T} {pc : Pc}, pcOk X.E pc → (∀ o ∈ (needs pc ts).1, Sat X ρ n Q o) →
    ∃ pc', (needs pc ts).2 = some pc' ∧ pcOk X.E pc' ∧ ∀ t ∈ ts, t.tr X.E = true := by
  intro ts
  induction ts with
  | nil => intro pc hp _; exact ⟨pc, rfl, hp, fun t ht => by simp at ht⟩
  | cons t ts ih =>
    intro pc hp hs
    simp only [needs] at hs ⊢
    cases hd : dec pc t with
    | none =>
      simp only [hd] at hs ⊢
      have hb := hs _ List.mem_cons_self
      simp only [Sat, pcOk_addP] at hb
      have ht : t.tr X.E = true := by
        cases h : t.tr X.E
        · exact absurd ⟨h, hp⟩ hb
        · rfl
      obtain ⟨pc', h1, h2, h3⟩ := ih (pcOk_addP.2 ⟨ht, hp⟩) (fun o ho => hs o (List.mem_cons_of_mem _ ho))
      exact ⟨pc', h1, h2, fun t' ht' => (List.mem_cons.1 ht').elim (fun e => e ▸ ht) (h3 t')⟩
    | some b =>
      cases b
      · simp only [hd] at hs
        exact absurd hp (hs _ List.mem_cons_self)
      · simp only [hd] at hs ⊢
        obtain ⟨pc', h1, h2, h3⟩ := ih hp hs
        exact ⟨pc', h1, h2, fun t' ht' => (List.mem_cons.1 ht').elim (fun e => e ▸ dec_ok hp hd) (h3 t')⟩

inductive G where
  | yes
  | no
  | may (t : T)
def gOf (pc : Pc) (t : T) : G := match dec pc t with
  | some true => .yes
  | some false => .no
  | none => .may t
def evGuard (st : St) (ops : Array Oper) (o : Oper) : Option G :=
  match o.guard with
  | none => some .yes
  | some (j, want) => match (ops[j]?).bind (·.dst) with
    | some d => match st.s.get d with
      | some (.a (.c (.bool t))) => some (gOf st.pc (bif want then t else mkNot t))
      | some (.tup []) => some .no
      | some (.gd c (.c (.bool t))) => some (gOf st.pc (mk2 .and (tbT c) (tbT (bif want then t else mkNot t))))
      | _ => none
    | none => none
def G.says (X : Cx) (b : Bool) : G → Prop
  | .yes => b = true
  | .no => b = false
  | .may t => t.tr X.E = b
theorem evGuard_ok {X : Cx} {ρ : Nat → Nat} {st : St} {a : Act} {w : World} (h : Rel X ρ st a w) {ops : Array Oper} {o : Oper} {g : G} (hg : evGuard st ops o = some g) : g.says X (Region.wanted o (yielded ops a.tmps)) := by
  have key : ∀ (t : T) (b : Bool), t.tr X.E = b → (gOf st.pc t).says X b := by
    intro t b hb
    unfold gOf
    split
    · rename_i hd; have := dec_ok h.pc hd; rw [hb] at this; exact this
    · rename_i hd; have := dec_ok h.pc hd; rw [hb] at this; exact this
    · exact hb
  unfold evGuard at hg
  unfold Region.wanted
  split at hg
  · rename_i ho; cases hg; simp [ho, G.says]
  · rename_i j want ho
    simp only [ho]
    unfold yielded
    split at hg
    · rename_i d hd
      rw [hd]
      split at hg
      · rename_i t hs
        cases hg
        obtain ⟨v, h1, h2⟩ := h.slots d _ hs
        simp only [Lr, Ar, Cr] at h2
        subst h2
        refine key _ _ ?_
        simp only [Option.bind_some, h1]
        cases want <;> simp only [cond_true, cond_false, tr_mkNot] <;> cases t.tr X.E <;> rfl
      · rename_i hs
        cases hg
        obtain ⟨v, h1, cs, h2, h3⟩ := h.slots d _ hs
        subst h2
        simp [h1, G.says]
      · rename_i c t hs
        cases hg
        obtain ⟨v, h1, h2, h3⟩ := h.slots d _ hs
        refine key _ _ ?_
        simp only [Option.bind_some, h1, tr_and2]
        cases hc : c.tr X.E
        · have := h3 hc
          subst this
          simp [undef]
        · have := h2 hc
          simp only [Ar, Cr] at this
          subst this
          cases want <;> simp only [cond_true, cond_false, tr_mkNot] <;> cases t.tr X.E <;> rfl
      · cases hg
    · cases hg

/-! calls -/
def calleeOf (st : St) (f : Operand) : Option (Nat × List C) :=
  match opC st f with
  | some (.fn g) => some (g, [])
  | some (.clo g caps) => some (g, caps.map fun p => .ptr p.1 p.2)
  | _ => none
def argsOf (st : St) : List Operand → Option (List L)
  | [] => some []
  | x :: rest => match argsOf st rest with
    | some r => some (.a (opA st x) :: r)
    | none => none
def resA (P : Program) (st : St) : ResultVar → Option A
  | .tmp t => match st.s.get t with
    | some (.a x) => some x
    | _ => none
  | .cell p ty => match st.s.get p with
    | some (.a (.c (.ptr b o))) => match st.m[b]? with
      | some (.cells _ xs) => match isAggT P ty with
        | some true => match sizeT P ty with
          | some n => bif Nat.ble (o + n) xs.length then some (.agg ((xs.drop o).take n)) else none
          | none => none
        | some false => match xs[o]? with
          | some y => some (.c y)
          | none => none
        | none => none
      | _ => none
    | _ => none
def resAll (P : Program) (st : St) : List ResultVar → Option (List A)
  | [] => some []
  | x :: rest => match resA P st x, resAll P st rest with
    | some y, some r => some (y :: r)
    | _, _ => none
def resL (P : Program) (st : St) (rs : List ResultVar) : Option L :=
  match resAll P st rs with
  | some [x] => some (.a x)
  | some xs => some (.tup xs)
  | none => none
/-- Back from a call: the results, into the slot. -/
def backs (P : Program) (st : St) (dst : Option Tmp) (rs : List ResultVar) : List Out → Option (List Out)
  | [] => some []
  | .bad pc :: rest => (backs P st dst rs rest).map (.bad pc :: ·)
  | .good (.exit _) _ :: _ => none
  | .good _ st' :: rest => match resL P st' rs with
    | some l => (backs P st dst rs rest).map (.good .norm (putS ⟨st.s, st'.m, st'.pc⟩ dst l) :: ·)
    | none => none
/-- What is known of functions: 'run' walks a body; 'sm' tells a result outright. -/
structure Rn where
  run : Nat → Code → St → Option (List Out)
  sm : Nat → Pc → List A → Option A
def argsA (st : St) : List Operand → List A
  | [] => []
  | x :: rest => opA st x :: argsA st rest
def evSm (run : Rn) (st : St) (dst : Option Tmp) (c : Call) : Option (List Out) :=
  match c.callee with
  | .value f => match calleeOf st f with
    | some (g, []) => match run.sm g st.pc (argsA st c.args.toList) with
      | some y => some [.good .norm (putS st dst (.a y))]
      | none => none
    | _ => none
  | _ => none
def evCall (P : Program) (run : Nat → Code → St → Option (List Out)) (st : St) (dst : Option Tmp) (c : Call) : Option (List Out) :=
  match c.callee with
  | .value f => match calleeOf st f with
    | some (g, caps) => match P.funcs[g]? with
      | some fn => match fn.body with
        | some body => bif fn.name == "runtime.NumGoroutine" then none else
          match argsOf st c.args.toList with
          | some as => match run g body ⟨ini (as ++ caps.map (fun x => .a (.c x))) fn.ntmps, st.m, st.pc⟩ with
            | some outs => backs P st dst fn.results.toList outs
            | none => none
          | none => none
        | none => none
      | none => none
    | none => none
  | _ => none

/-- One operation, unguarded. -/
def evO (P : Program) (run : Rn) (st : St) (o : Oper) : Option (List Out) :=
  match evP P st o with
  | some r => let n := needs st.pc r.rq
    match n.2 with
    | some pc => some (n.1 ++ [.good .norm (putS ⟨st.s, r.m, pc⟩ o.dst r.l)])
    | none => some n.1
  | none => match o.op with
    | .call c => match evSm run st o.dst c with
      | some outs => some outs
      | none => evCall P run.run st o.dst c
    | _ => none
def evOps (P : Program) (run : Rn) (ops : Array Oper) : List Nat → St → Option (List Out)
  | [], st => some [.good .norm st]
  | i :: rest, st => match ops[i]? with
    | none => evOps P run ops rest st
    | some o => match evGuard st ops o with
      | none => none
      | some .yes => match evO P run st o with
        | some outs => bindL (evOps P run ops rest) outs
        | none => none
      | some .no => evOps P run ops rest (putS st o.dst (.tup []))
      | some (.may t) => match evS P (withPc st t true) o with
        | some ⟨.a x, _, []⟩ => evOps P run ops rest (putS st o.dst (.gd t x))
        | _ => match evO P run (withPc st t true) o with
          | some outs => match bindL (evOps P run ops rest) outs, evOps P run ops rest (putS (withPc st t false) o.dst (.tup [])) with
            | some a, some b => some (a ++ b)
            | _, _ => none
          | none => none

end Go.Sy
