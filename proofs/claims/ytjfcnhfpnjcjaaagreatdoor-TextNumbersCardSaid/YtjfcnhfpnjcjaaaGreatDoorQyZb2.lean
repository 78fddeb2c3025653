/- Part Zb2 of a checked reader of Go texts in their model form: it runs a function at terms in the place of numbers, and each part proves that its answers hold of the model. -/
import Derived.Test.YtjfcnhfpnjcjaaaGreatDoorQyZb1c
import Derived.Test.YtjfcnhfpnjcjaaaGreatDoorQyZa12
import Derived.LoopN
namespace Go.E3
open Go.Sy
noncomputable section
variable {P : Program}

def cBin (P : Program) (op : BinOp) (t : TypeId) (x y : Operand) : Cop := match op with
  | .eql => .pure fun pc => orP (evNum pc .eql x y) (orP (evEqG P t false x y pc) (evStr .eql x y pc))
  | .neq => .pure fun pc => orP (evNum pc .neq x y) (orP (evEqG P t true x y pc) (evStr .neq x y pc))
  | .add => .pure fun pc => orP (evNum pc .add x y) (evStr .add x y pc)
  | .lss => .pure fun pc => orP (evNum pc .lss x y) (evStr .lss x y pc)
  | op => .pure fun pc => evNum pc op x y
theorem cBin_ok {o : Oper} {op : BinOp} {t yt : TypeId} {x y : Operand} (ho : o.op = .binOp op t x y yt) : CopOk P o (cBin P op t x y) := by
  unfold cBin
  split
  · exact fun pc => (evNum_ok ho).or ((evEqG_ok (ne := false) ho).or (evStr_ok ho))
  · exact fun pc => (evNum_ok ho).or ((evEqG_ok (ne := true) ho).or (evStr_ok ho))
  · exact fun pc => (evNum_ok ho).or (evStr_ok ho)
  · exact fun pc => (evNum_ok ho).or (evStr_ok ho)
  · exact fun pc => evNum_ok ho
def isIf : TypeDesc → Bool
  | .interface _ => true
  | _ => false
theorem isIf_no {d : TypeDesc} (h : isIf d = false) : ∀ ms, d ≠ .interface ms := fun ms e => by subst e; cases h
def cMkI (P : Program) (t : TypeId) (x : Operand) : Cop := match undF P t with
  | some d => bif isIf d then .bad else .pure fun pc => evMkI t x pc
  | none => .bad
theorem cMkI_ok {o : Oper} {t : TypeId} {x : Operand} (ho : o.op = .makeInterface t x) : CopOk P o (cMkI P t x) := by
  unfold cMkI
  simp only [undF_eq]
  split
  · rename_i d hu
    cases h : isIf d <;> simp only [cond_true, cond_false]
    · exact fun pc => evMkI_ok ho hu (isIf_no h)
    · trivial
  · trivial
def cTA (P : Program) (x : Operand) (t : TypeId) (ok : Bool) : Cop := match undF P t with
  | some d => bif isIf d then .bad else match zeroV P t with
    | some z => .pure fun pc => evTA z t ok x pc
    | none => .bad
  | none => .bad
theorem cTA_ok {o : Oper} {x : Operand} {xt t : TypeId} {ok : Bool} (ho : o.op = .typeAssert x xt t ok) : CopOk P o (cTA P x t ok) := by
  unfold cTA
  simp only [undF_eq]
  split
  · rename_i d hu
    cases h : isIf d <;> simp only [cond_true, cond_false]
    · split
      · rename_i z hz; exact fun pc => evTA_ok ho hu (isIf_no h) hz
      · trivial
    · trivial
  · trivial
def cMakeF (fn : Fn) (first caps : Array Operand) : Cop := match fn, first.toList with
  | .func f, [] => .pure fun pc => evMakeF f caps.toList pc
  | _, _ => .bad
theorem cMakeF_ok {o : Oper} {fn : Fn} {first caps : Array Operand} (ho : o.op = .makeFunc fn first caps) : CopOk P o (cMakeF fn first caps) := by
  unfold cMakeF
  split
  · rename_i f hfi
    have : first = #[] := by apply Array.ext'; simpa using hfi
    subst this
    exact fun pc => evMakeF_ok ho
  · trivial
def cLookup (P : Program) (t : TypeId) (x i : Operand) (ok : Bool) : Cop := match undF P t with
  | some (.map kt et) => bif keyDom P kt then match zeroV P et with
      | some z => .load fun pc => evLookup P kt z ok x i pc
      | none => .bad
    else .bad
  | _ => .bad
theorem cLookup_ok {o : Oper} {t : TypeId} {x i : Operand} {ok : Bool} (ho : o.op = .lookup t x i ok) : CopOk P o (cLookup P t x i ok) := by
  unfold cLookup
  simp only [undF_eq]
  split
  · rename_i kt et hu
    cases h : keyDom P kt <;> simp only [cond_true, cond_false]
    · trivial
    · split
      · rename_i z hz; exact fun pc => evLookup_ok ho hu h hz
      · trivial
  · trivial
def cUpd (P : Program) (t : TypeId) (x i v : Operand) : Cop := match undF P t with
  | some (.map kt _) => bif keyDom P kt then .eff fun pc => evUpd P kt x i v pc else .bad
  | _ => .bad
theorem cUpd_ok {o : Oper} {t : TypeId} {x i v : Operand} (ho : o.op = .mapUpdate t x i v ∨ o.op = .insert t x i v) : CopOk P o (cUpd P t x i v) := by
  unfold cUpd
  simp only [undF_eq]
  split
  · rename_i kt et hu
    cases h : keyDom P kt <;> simp only [cond_true, cond_false]
    · trivial
    · exact ⟨fun pc => evUpd_ok ho hu h, evUpd_mono P kt x i v⟩
  · trivial
def cRange (P : Program) (t : TypeId) (x : Operand) : Cop := match undF P t with
  | some (.map _ _) => .eff fun pc => evRange x pc
  | _ => .bad
theorem cRange_ok {o : Oper} {t : TypeId} {x : Operand} (ho : o.op = .range t x) : CopOk P o (cRange P t x) := by
  unfold cRange
  simp only [undF_eq]
  split
  · rename_i kt et hu; exact ⟨fun pc => evRange_ok ho hu, evRange_mono x⟩
  · trivial
def cNext (x : Operand) (s : Bool) : Cop := match s with
  | true => .bad
  | false => .eff fun pc => evNext x pc
theorem cNext_ok {o : Oper} {x : Operand} {s : Bool} (ho : o.op = .next x s) : CopOk P o (cNext x s) := by
  cases s
  · exact ⟨fun pc => evNext_ok ho, evNext_mono x⟩
  · trivial
/-- An operation, made ready. -/
def cOp (P : Program) (o : Oper) : Cop := match o.op with
  | .move x => .pure fun _ s => raw s x
  | .assign x => .pure fun _ s => raw s x
  | .pick c x y => .pure fun pc => evPick pc c x y
  | .alloc e => cAlloc P e
  | .box e x => .new fun pc => evBox pc e x
  | .build t ps => cBuild P t ps
  | .buildSlice t n ps => cBuildS P t n ps
  | .load t x => cLoad P t x
  | .store t x y => cStore P t x y
  | .nilCheck x => .pure fun pc => evNil pc x
  | .binOp op t x y _ => cBin P op t x y
  | .unOp op _ x => .pure fun pc => evUn pc op x
  | .convert s d x => cConv2 P s d x
  | .makeSlice t l c => cMakeS P t l c
  | .slice t x lo hi mx => cSlice P t x lo hi mx
  | .fieldAddr s x f => cField P s x f
  | .field t x f => cFieldV P t x f
  | .indexAddr t x i => cIndexA P t x i
  | .index t x i => cIndexV P t x i
  | .extract x i => .pure fun _ => evExtract i x
  | .call c => match c.callee with
    | .builtin b => cBi2 P b c.args.toList c.argTypes.toList
    | .value f => match f with
      | .func g => match cExt P g c.args.toList with
        | some x => x
        | none => .call (.func g) c.args.toList
      | f => .call f c.args.toList
    | _ => .bad
  | .panic x => .pan x
  | .makeInterface t x => cMkI P t x
  | .typeAssert x _ t ok => cTA P x t ok
  | .makeFunc fn first caps => cMakeF fn first caps
  | .makeMap _ none => .new fun _ => evMakeM
  | .lookup t x i ok => cLookup P t x i ok
  | .mapUpdate t x i v => cUpd P t x i v
  | .insert t x i v => cUpd P t x i v
  | .range t x => cRange P t x
  | .next x s => cNext x s
  | .entry x => .load fun pc => evEntry x pc
  | _ => .bad
theorem cOp_ok (o : Oper) : CopOk P o (cOp P o) := by
  unfold cOp
  split
  · rename_i ho; exact fun pc => move_ok (.inl ho)
  · rename_i ho; exact fun pc => move_ok (.inr ho)
  · rename_i ho; exact fun pc => evPick_ok ho
  · rename_i ho; exact cAlloc_ok ho
  · rename_i ho; exact fun pc => evBox_ok ho
  · rename_i ho; exact cBuild_ok ho
  · rename_i ho; exact cBuildS_ok ho
  · rename_i ho; exact cLoad_ok ho
  · rename_i ho; exact cStore_ok ho
  · rename_i ho; exact fun pc => evNil_ok ho
  · rename_i ho; exact cBin_ok ho
  · rename_i ho; exact fun pc => evUn_ok ho
  · rename_i ho; exact cConv2_ok ho
  · rename_i ho; exact cMakeS_ok ho
  · rename_i ho; exact cSlice_ok ho
  · rename_i ho; exact cField_ok ho
  · rename_i ho; exact cFieldV_ok ho
  · rename_i ho; exact cIndexA_ok ho
  · rename_i ho; exact cIndexV_ok ho
  · rename_i ho; exact fun pc => evExtract_ok ho
  · rename_i c ho
    split
    · rename_i b hc; exact cBi2_ok ho hc
    · rename_i f hc
      split
      · rename_i g
        split
        · rename_i x hx; exact cExt_ok ho hc hx
        · exact ⟨c, ho, hc, rfl⟩
      · exact ⟨c, ho, hc, rfl⟩
    · trivial
  · rename_i ho; exact ho
  · rename_i ho; exact cMkI_ok ho
  · rename_i ho; exact cTA_ok ho
  · rename_i ho; exact cMakeF_ok ho
  · rename_i ho; exact fun pc => evMakeM_ok ho
  · rename_i ho; exact cLookup_ok ho
  · rename_i ho; exact cUpd_ok (.inl ho)
  · rename_i ho; exact cUpd_ok (.inr ho)
  · rename_i ho; exact cRange_ok ho
  · rename_i ho; exact cNext_ok ho
  · rename_i ho; exact fun pc => evEntry_ok ho
  · trivial
end
end Go.E3
namespace Go.E3
open Go.Sy
noncomputable section
variable {P : Program}

/-! written out -/
section fc
variable {β : Type}
def fcN (n : Nat) (k : Nat → β) : β := Nat.casesOn n (k 0) (fun m => k (Nat.succ m))
theorem fcN_eq (n : Nat) (k : Nat → β) : fcN n k = k n := by cases n <;> rfl
def fcI (n : Int) (k : Int → β) : β := Int.casesOn n (fun n => fcN n fun n => k (.ofNat n)) (fun n => fcN n fun n => k (.negSucc n))
theorem fcI_eq (n : Int) (k : Int → β) : fcI n k = k n := by
  cases n with
  | ofNat n => exact fcN_eq n fun n => k (.ofNat n)
  | negSucc n => exact fcN_eq n fun n => k (.negSucc n)
def fcT (t : T) (k : T → β) : β := T.casesOn t (fun n => fcI n fun n => k (.lit n)) (fun i lo hi => k (.v i lo hi)) (fun o a => k (.un o a)) (fun o a b => k (.bin o a b)) (fun c a b => k (.ite c a b)) (fun s i => k (.sel s i)) (fun s i x => k (.upd s i x)) (fun s o => k (.sh s o)) (fun d o n s => k (.blit d o n s)) (fun n a b => k (.eqr n a b))
theorem fcT_eq (t : T) (k : T → β) : fcT t k = k t := by cases t <;> first | rfl | exact fcI_eq _ fun n => k (.lit n)
def fcL {α : Type} (xs : List α) : (List α → β) → β := List.rec (motive := fun _ => (List α → β) → β) (fun k => k []) (fun x _ ih k => ih fun xs => k (x :: xs)) xs
theorem fcL_eq {α : Type} (xs : List α) : ∀ (k : List α → β), fcL xs k = k xs := by
  induction xs with
  | nil => intro k; rfl
  | cons x xs ih => intro k; exact ih _
def fcC (x : C) (k : C → β) : β := match x with
  | .int q t => fcT t fun t => k (.int q t)
  | .bool t => fcT t fun t => k (.bool t)
  | .ptr b o => fcN o fun o => k (.ptr b o)
  | .slc b o n c => fcN o fun o => fcN n fun n => k (.slc b o n c)
  | .str l => fcL l fun l => k (.str l)
  | x => k x
theorem fcC_eq (x : C) (k : C → β) : fcC x k = k x := by cases x <;> simp only [fcC, fcT_eq, fcN_eq, fcL_eq]
def fcA (x : A) (k : A → β) : β := A.rec (motive := fun _ => β) (fun x => fcC x fun x => k (.c x)) (fun xs => fcL xs fun xs => k (.agg xs)) x
theorem fcA_eq (x : A) (k : A → β) : fcA x k = k x := by
  cases x
  · exact fcC_eq _ fun x => k (.c x)
  · exact fcL_eq _ fun xs => k (.agg xs)
def fcV (x : L) (k : L → β) : β := L.rec (motive := fun _ => β) (fun x => fcA x fun x => k (.a x)) (fun xs => k (.tup xs)) (fun c x => k (.gd c x)) x
theorem fcV_eq (x : L) (k : L → β) : fcV x k = k x := by
  cases x
  · exact fcA_eq _ fun x => k (.a x)
  · rfl
  · rfl
end fc

/-! one operation -/
structure Co where
  c : Cop
  dst : Option Pt
  gd : Option (Option Pt × Bool)
def dstP (o : Oper) : Option Pt := match o.dst with
  | some d => some (path d)
  | none => none
def dstIn (N : Nat) (o : Oper) : Bool := match o.dst with
  | some d => Nat.ble (Nat.succ d) N
  | none => true
def cO (P : Program) (N : Nat) (ops : Array Oper) (o : Oper) : Co :=
  ⟨cOp P o, dstP o, bif dstIn N o then match o.guard with
    | some (j, b) => some (match (ops[j]?).bind (·.dst) with
      | some d => some (path d)
      | none => none, b)
    | none => none else some (none, true)⟩
inductive G where
  | yes
  | no
  | may (t : T)
def gOf (pc : Pc) (t : T) : G := match dec pc t with
  | some true => .yes
  | some false => .no
  | none => .may t
def gEv (pc : Pc) (s : Tri L) (g : Option (Option Pt × Bool)) : Option G := match g with
  | none => some .yes
  | some (none, _) => none
  | some (some p, want) => match s.get p with
    | some (.a (.c (.bool t))) => match t with
      | .lit n => some (bif (bif want then eqF n 0 else not (eqF n 0)) then .no else .yes)
      | t => some (gOf pc (bif want then t else mkNot t))
    | some (.tup []) => some .no
    | some (.gd c (.c (.bool t))) => some (gOf pc (mk2 .and (mkIte c (.lit 1) (.lit 0)) (mkIte (bif want then t else mkNot t) (.lit 1) (.lit 0))))
    | _ => none
def G.says (E : Env) (b : Bool) : G → Prop
  | .yes => b = true
  | .no => b = false
  | .may t => t.tr E = b
theorem undef_val (E : Env) (ρ : Pt → Rb) : (L.tup []).val E ρ = undef := rfl
theorem gOf_says {E : Env} {pc : Pc} (hp : pcOk E pc) (t : T) (b : Bool) (hb : t.tr E = b) : (gOf pc t).says E b := by
  unfold gOf
  split
  · rename_i hd; have := dec_ok hp hd; rw [hb] at this; exact this
  · rename_i hd; have := dec_ok hp hd; rw [hb] at this; exact this
  · exact hb
theorem gEv_ok {E : Env} {ρ : Pt → Rb} {D : Pt → Prop} {pc : Pc} {s : Tri L} {tmps : Array Value} (hp : pcOk E pc) (h : SR E ρ D s tmps) {N : Nat} {ops : Array Oper} {o : Oper} {g : G} (hg : gEv pc s (cO P N ops o).gd = some g) : g.says E (Region.wanted o (yielded ops tmps)) := by
  unfold Region.wanted
  simp only [cO] at hg
  cases hin : dstIn N o
  · rw [hin] at hg; cases hg
  rw [hin] at hg
  simp only [cond_true] at hg
  cases ho : o.guard with
  | none => rw [ho] at hg; cases hg; rfl
  | some jb =>
    obtain ⟨j, want⟩ := jb
    rw [ho] at hg
    simp only at hg ⊢
    unfold yielded
    cases hd : (ops[j]?).bind (·.dst) with
    | none => rw [hd] at hg; cases hg
    | some d =>
      rw [hd] at hg
      simp only [gEv] at hg
      split at hg
      · rename_i t hs
        have h2 := (h d _ hs).2
        have h2' : tmps[d]? = some (.bool (t.tr E)) := h2
        split at hg
        · rename_i n
          cases hg
          simp only [Option.bind_some, h2']
          have ht : (T.lit n).tr E = !(eqF n 0) := by rw [eqF_eq]; rfl
          rw [ht]
          cases want <;> cases eqF n 0 <;> rfl
        · cases hg
          refine gOf_says hp _ _ ?_
          simp only [Option.bind_some, h2']
          cases want <;> simp only [cond_true, cond_false, tr_mkNot] <;> cases t.tr E <;> rfl
      · rename_i hs
        have h2 := (h d _ hs).2
        rw [undef_val] at h2
        cases hg
        simp only [Option.bind_some, h2]
        rfl
      · rename_i c t hs
        have h2 := (h d _ hs).2
        cases hg
        refine gOf_says hp _ _ ?_
        simp only [Option.bind_some, h2]
        have e : ∀ (x y : T), (mk2 .and (mkIte x (.lit 1) (.lit 0)) (mkIte y (.lit 1) (.lit 0))).tr E = (x.tr E && y.tr E) := by
          intro x y
          simp only [T.tr, mk2_den, O2.den, tb_ne, mkIte_den, T.den]
          by_cases h1 : x.den E = 0 <;> by_cases h2 : y.den E = 0 <;> simp [h1, h2]
        rw [e]
        simp only [L.val, A.val, C.val]
        cases hc : c.tr E
        · simp [undef]
        · cases want <;> simp only [cond_true, cond_false, tr_mkNot, if_true] <;> cases t.tr E <;> rfl
      · cases hg

/-- How a call ends. -/
inductive CR where
  | ret (l : L) (m : Tri B) (nx : Pt)
  | pan (c : C) (m : Tri B) (nx : Pt)
def CR.nx : CR → Pt
  | .ret _ _ nx => nx
  | .pan _ _ nx => nx
abbrev Run := Nat → List L → Tri B → Pt → Option CR
def CR.ok (E : Env) (ρ : Pt → Rb) (D : Pt → Prop) (m : Tri B) (nx : Pt) (w : World) : CR → Ending → World → Prop
  | .ret l m' nx', e, w' => ∃ ρ', e = .returned (l.val E ρ') ∧ l.ok E ρ' (Un D (Rg nx nx')) ∧ Turn E ρ D m nx w ρ' m' nx' w'
  | .pan c m' nx', e, w' => ∃ ρ', e = .panicked [{ v := c.val E ρ', recovered := false }] ∧ c.ok E ρ' (Un D (Rg nx nx')) ∧ Turn E ρ D m nx w ρ' m' nx' w'
/-- A call is what 'run' tells. -/
def CallOk (P : Program) (pc : Pc) (run : Run) : Prop :=
  ∀ g as m nx r, run g as m nx = some r → nx.num ≤ r.nx.num ∧ ∀ (E : Env) (ρ : Pt → Rb) (D : Pt → Prop) (w : World), pcOk E pc → (∀ l ∈ as, l.ok E ρ D) → MR E ρ D m w → (∀ b, Rg nx r.nx b → ¬ D b) →
    (∃ fn body, P.funcs[g]? = some fn ∧ fn.body = some body ∧ fn.name ≠ "runtime.NumGoroutine") ∧ Calls P g (as.map (L.val E ρ)).toArray w (CR.ok E ρ D m nx w r)

inductive Rs where
  | val (l : Option L) (m : Tri B) (nx : Pt)
  | pan (c : C) (m : Tri B) (nx : Pt)
/-- Operands as they lie there. -/
def rawAll (s : Tri L) (xs : List Operand) : Option (List L) := List.rec (motive := fun _ => Option (List L)) (some []) (fun x _ ih => match raw s x with
  | some l => match ih with
    | some r => some (l :: r)
    | none => none
  | none => none) xs
theorem rawAll_ok {E : Env} {ρ : Pt → Rb} {D : Pt → Prop} {s : Tri L} {ev : Operand → Value} {ys : List Operand} (h : OpsR E ρ D s ev ys) : ∀ {xs : List Operand} {as : List L}, (∀ x ∈ xs, x ∈ ys) → rawAll s xs = some as → (∀ l ∈ as, l.ok E ρ D) ∧ xs.map ev = as.map (L.val E ρ) := by
  intro xs
  induction xs with
  | nil => intro as _ ha; cases ha; exact ⟨(fun _ h => nomatch h), rfl⟩
  | cons x xs ih =>
    intro as hm ha
    change (match raw s x with
      | some l => match rawAll s xs with
        | some r => some (l :: r)
        | none => none
      | none => none) = some as at ha
    split at ha
    · rename_i l hl
      split at ha
      · rename_i r hr
        cases ha
        obtain ⟨h1, h2⟩ := h x (hm x List.mem_cons_self) l hl
        obtain ⟨h3, h4⟩ := ih (fun y hy => hm y (List.mem_cons_of_mem _ hy)) hr
        refine ⟨fun l' hl' => ?_, by rw [List.map_cons, List.map_cons, h2, h4]⟩
        rcases List.mem_cons.1 hl' with rfl | hl'
        · exact h1
        · exact h3 l' hl'
      · cases ha
    · cases ha
def exC (run : Run) (pc : Pc) (s : Tri L) (m : Tri B) (nx : Pt) (c : Cop) : Option Rs := match c with
  | .pure f => match f pc s with
    | some l => some (.val (some l) m nx)
    | none => none
  | .load f => match f pc s m with
    | some l => some (.val (some l) m nx)
    | none => none
  | .new f => match f pc s with
    | some (x, k) => m.putK nx (some x) fun m => nx.sucK fun nx' => some (.val (some (.a (.c (k.at nx)))) m nx')
    | none => none
  | .eff f => match f pc s m nx with
    | some (l, m, nx) => some (.val l m nx)
    | none => none
  | .call f args => match opC pc s f with
    | some (.fn g caps) => match rawAll s args with
      | some as => match run g (as ++ caps.map fun x => .a (.c x)) m nx with
        | some (.ret l m nx) => some (.val (some l) m nx)
        | some (.pan c m nx) => some (.pan c m nx)
        | none => none
      | none => none
    | _ => none
  | .pan x => match opC pc s x with
    | some (.ifc t g cs) => some (.pan (.ifc t g cs) m nx)
    | _ => none
  | .bad => none
def Rs.nx : Rs → Pt
  | .val _ _ nx => nx
  | .pan _ _ nx => nx
def Rs.ok (P : Program) (o : Oper) (a : Act) (E : Env) (ρ : Pt → Rb) (D : Pt → Prop) (m : Tri B) (nx : Pt) (w : World) : Rs → Prop
  | .val l m' nx' => ∀ (K : Act → World → Prop) (Q : Exit → Act → World → Prop), (∀ ρ' w', Turn E ρ D m nx w ρ' m' nx' w' → (l.getD (.tup [])).ok E ρ' (Un D (Rg nx nx')) → K (a.put o.dst ((l.getD (.tup [])).val E ρ')) w') → o.wp P a w K Q
  | .pan c m' nx' => ∀ (K : Act → World → Prop) (Q : Exit → Act → World → Prop), (∀ ρ' w', Turn E ρ D m nx w ρ' m' nx' w' → c.ok E ρ' (Un D (Rg nx nx')) → Q (.panic [{ v := c.val E ρ', recovered := false }]) a w') → o.wp P a w K Q
theorem Calls.mono' {f : FuncId} {args : Array Value} {w : World} {R R' : Ending → World → Prop} (h : Calls P f args w R) (hr : ∀ e w', R e w' → R' e w') : Calls P f args w R' := Calls.mono h hr
theorem exC_mono {run : Run} {pc : Pc} (hrun : CallOk P pc run) {o : Oper} {c : Cop} (hc : CopOk P o c) {s : Tri L} {m : Tri B} {nx : Pt} {r : Rs} (h : exC run pc s m nx c = some r) : nx.num ≤ r.nx.num := by
  unfold exC at h
  split at h
  · split at h <;> cases h; exact Nat.le_refl _
  · split at h <;> cases h; exact Nat.le_refl _
  · split at h
    · rw [Tri.putK_eq, Pt.sucK_eq] at h; cases h; simp only [Rs.nx]; rw [Pt.succ_num]; omega
    · cases h
  · split at h
    · rename_i hf; cases h; exact hc.2 _ _ _ _ _ _ _ hf
    · cases h
  · split at h
    · split at h
      · split at h
        · rename_i hr; cases h; exact (hrun _ _ _ _ _ hr).1
        · rename_i hr; cases h; exact (hrun _ _ _ _ _ hr).1
        · cases h
      · cases h
    · cases h
  · split at h
    · cases h; exact Nat.le_refl _
    · cases h
  · cases h
theorem exC_ok {run : Run} {pc : Pc} (hrun : CallOk P pc run) {o : Oper} {c : Cop} (hc : CopOk P o c) {s : Tri L} {m : Tri B} {nx : Pt} {r : Rs} (h : exC run pc s m nx c = some r)
    {E : Env} {ρ : Pt → Rb} {D : Pt → Prop} {a : Act} {w : World} (hp : pcOk E pc) (hops : OpsR E ρ D s a.eval o.op.operands.toList) (hm : MR E ρ D m w) (hfr : ∀ b, Rg nx r.nx b → ¬ D b) : r.ok P o a E ρ D m nx w := by
  unfold exC at h
  split at h
  · rename_i f
    split at h
    · rename_i l hl
      cases h
      intro K Q hK
      obtain ⟨h1, h2⟩ := hc pc s l hl E ρ D a.eval hp hops
      unfold Oper.wp
      rw [h1 w]
      exact hK ρ w (Turn.refl hm) (by rw [un_self]; exact h2)
    · cases h
  · rename_i f
    split at h
    · rename_i l hl
      cases h
      intro K Q hK
      obtain ⟨h1, h2⟩ := hc pc s m l hl E ρ D a.eval w hp hops hm
      unfold Oper.wp
      rw [h1]
      exact hK ρ w (Turn.refl hm) (by rw [un_self]; exact h2)
    · cases h
  · rename_i f
    split at h
    · rename_i x k hl
      rw [Tri.putK_eq, Pt.sucK_eq] at h
      cases h
      intro K Q hK
      obtain ⟨ob, z, h1, h2⟩ := hc pc s x k hl E ρ D a.eval w hp hops
      obtain ⟨h3, h4⟩ := h1 nx
      have hnx : ¬ D nx := hfr nx ((rg_succ _ _).2 rfl)
      unfold Oper.wp
      rw [h4]
      refine hK _ _ (hm.alloc hnx (h2 _ _ (grow_upd hnx _ _))) ?_
      exact h3
    · cases h
  · rename_i f
    split at h
    · rename_i l m' nx' hl
      cases h
      intro K Q hK
      obtain ⟨r, w', ρ', h1, h2, h3⟩ := hc.1 pc s m nx l m' nx' hl E ρ D a.eval w hp hops hm hfr
      unfold Oper.wp
      rw [h1]
      cases l with
      | some l => obtain ⟨rfl, h4⟩ := h3; exact hK _ _ h2 h4
      | none => subst h3; exact hK _ _ h2 (fun _ h => nomatch h)
    · cases h
  · rename_i f args
    obtain ⟨cl, ho, hcal, hargs⟩ := hc
    split at h
    · rename_i g caps hf
      split at h
      · rename_i as has
        have mem : ∀ x ∈ args, x ∈ o.op.operands.toList := by
          intro x hx
          rw [← hargs] at hx
          simp only [ho, Op.operands, Call.operands, hcal]
          simp; exact .inr (by simpa using hx)
        obtain ⟨ha1, ha2⟩ := rawAll_ok hops mem has
        obtain ⟨hf1, hf2⟩ := opC_ok hp hops (by simp [ho, Op.operands, Call.operands, hcal]) hf
        have hok : ∀ l ∈ as ++ caps.map (fun x => L.a (.c x)), l.ok E ρ D := by
          intro l hl
          rcases List.mem_append.1 hl with hl | hl
          · exact ha1 l hl
          · obtain ⟨x, hx, rfl⟩ := List.mem_map.1 hl
            exact oks_iff.1 hf1 x hx
        have hvals : ((as ++ caps.map (fun x => L.a (.c x))).map (L.val E ρ)).toArray = cl.args.map a.eval ++ (caps.map (C.val E ρ)).toArray := by
          apply Array.ext'
          rw [Array.toList_append, Array.toList_map, hargs, ha2]
          simp only [List.map_append, List.map_map]
          rfl
        have gen : ∀ r', run g (as ++ caps.map fun x => .a (.c x)) m nx = some r' → r.nx = r'.nx → ∀ (K : Act → World → Prop) (Q : Exit → Act → World → Prop), (∀ e w', r'.ok E ρ D m nx w e w' → (match (generalizing := false) e with
            | .returned v => K (a.put o.dst v) w'
            | .panicked chain => Q (.panic chain) a w'
            | .outgrown => LetsOut Q)) → o.wp P a w K Q := by
          intro r' hr hnx K Q hK
          obtain ⟨⟨fn, body, q1, q2, q3⟩, q4⟩ := (hrun _ _ _ _ _ hr).2 E ρ D w hp hok hm (by rw [← hnx]; exact hfr)
          have hx : (execOp a.eval o).run P w = .ok (.enter g (cl.args.map a.eval ++ (caps.map (C.val E ρ)).toArray)) w := by
            simp only [C.val, vals_map] at hf2
            simp [execOp, ho, resolve, hcal, hf2, Deferred.ofValue, invoke, callFunc, q1, q2, q3]
          unfold Oper.wp
          rw [hx, ← hvals]
          exact Calls.mono q4 fun e w' he => by have := hK e w' he; cases e <;> exact this
        split at h
        · rename_i l m' nx' hr
          cases h
          intro K Q hK
          refine gen _ hr rfl K Q fun e w' he => ?_
          obtain ⟨ρ', rfl, h2, h3⟩ := he
          exact hK ρ' w' h3 h2
        · rename_i c m' nx' hr
          cases h
          intro K Q hK
          refine gen _ hr rfl K Q fun e w' he => ?_
          obtain ⟨ρ', rfl, h2, h3⟩ := he
          exact hK ρ' w' h3 h2
        · cases h
      · cases h
    · cases h
  · rename_i x
    split at h
    · rename_i t g cs hx
      cases h
      intro K Q hK
      have ho : o.op = .panic x := hc
      obtain ⟨x1, x2⟩ := opC_ok hp hops (by simp [ho, Op.operands]) hx
      have hr : (execOp a.eval o).run P w = .halt (.panic ((C.ifc t g cs).val E ρ)) w := by
        simp only [execOp, ho, x2, Sem.run_bind]
        rfl
      unfold Oper.wp
      rw [hr]
      exact hK ρ w (Turn.refl hm) (by rw [un_self]; exact x1)
    · cases h
  · cases h
end
end Go.E3
namespace Go.E3
open Go.Sy
noncomputable section
variable {P : Program}

def putD {β : Type} (dst : Option Pt) (l : L) (s : Tri L) (k : Tri L → β) : β := match dst with
  | none => k s
  | some p => fcV l fun l => s.putK p (some l) k
/-- The slots of an activation: of 'N' at least. -/
structure AR (E : Env) (ρ : Pt → Rb) (D : Pt → Prop) (N : Nat) (s : Tri L) (a : Act) : Prop where
  sr : SR E ρ D s a.tmps
  sz : N ≤ a.tmps.size
theorem SR.put {E : Env} {ρ : Pt → Rb} {D : Pt → Prop} {s : Tri L} {tmps : Array Value} (h : SR E ρ D s tmps) {d : Nat} (hd : d < tmps.size) {l : L} (hl : l.ok E ρ D) : SR E ρ D (s.put (path d) (some l)) (tmps.setIfInBounds d (l.val E ρ)) := by
  intro t l' ht
  rw [Tri.get_put] at ht
  split at ht
  · rename_i e
    cases ht
    have := path_inj e
    subst this
    exact ⟨hl, Array.getElem?_setIfInBounds_self_of_lt hd⟩
  · rename_i e
    have hne : d ≠ t := fun h => e (by rw [h])
    rw [Array.getElem?_setIfInBounds_ne hne]
    exact h t l' ht
theorem AR.grow {E : Env} {ρ ρ' : Pt → Rb} {D D' : Pt → Prop} (g : Grow ρ D ρ' D') {N : Nat} {s : Tri L} {a : Act} (h : AR E ρ D N s a) : AR E ρ' D' N s a := ⟨h.sr.grow g, h.sz⟩
theorem AR.put {E : Env} {ρ : Pt → Rb} {D : Pt → Prop} {N : Nat} {s : Tri L} {a : Act} (h : AR E ρ D N s a) {dst : Option Tmp} (hd : ∀ d, dst = some d → d < N) {l : L} (hl : l.ok E ρ D) {β : Type} (k : Tri L → β) :
    ∃ s', putD (match dst with | some d => some (path d) | none => none) l s k = k s' ∧ AR E ρ D N s' (a.put dst (l.val E ρ)) := by
  cases dst with
  | none => exact ⟨s, rfl, h⟩
  | some d =>
    refine ⟨s.put (path d) (some l), by simp only [putD, fcV_eq, Tri.putK_eq], h.sr.put (Nat.lt_of_lt_of_le (hd d rfl) h.sz) hl, ?_⟩
    show N ≤ (a.tmps.setIfInBounds d _).size
    rw [Array.size_setIfInBounds]; exact h.sz
def putS (o : Oper) (l : L) (s : Tri L) : Tri L := match o.dst with
  | some d => s.put (path d) (some l)
  | none => s
theorem putD_eq {β : Type} (o : Oper) (l : L) (s : Tri L) (k : Tri L → β) : putD (dstP o) l s k = k (putS o l s) := by
  unfold dstP putS putD
  cases o.dst <;> simp only [fcV_eq, Tri.putK_eq]
theorem AR.putS {E : Env} {ρ : Pt → Rb} {D : Pt → Prop} {N : Nat} {s : Tri L} {a : Act} (h : AR E ρ D N s a) {o : Oper} (hd : ∀ d, o.dst = some d → d < N) {l : L} (hl : l.ok E ρ D) : AR E ρ D N (putS o l s) (a.put o.dst (l.val E ρ)) := by
  unfold E3.putS
  cases ho : o.dst with
  | none => exact h
  | some d =>
    refine ⟨h.sr.put (Nat.lt_of_lt_of_le (hd d ho) h.sz) hl, ?_⟩
    show N ≤ (a.tmps.setIfInBounds d _).size
    rw [Array.size_setIfInBounds]; exact h.sz

inductive Os where
  | go (s : Tri L) (m : Tri B) (nx : Pt)
  | pan (c : C) (m : Tri B) (nx : Pt)
def Os.nx : Os → Pt
  | .go _ _ nx => nx
  | .pan _ _ nx => nx
def exO (run : Run) (pc : Pc) (co : Co) (s : Tri L) (m : Tri B) (nx : Pt) : Option Os := match gEv pc s co.gd with
  | some .yes => match exC run pc s m nx co.c with
    | some (.val l m nx) => putD co.dst (l.getD (.tup [])) s fun s => some (.go s m nx)
    | some (.pan c m nx) => some (.pan c m nx)
    | none => none
  | some .no => putD co.dst (.tup []) s fun s => some (.go s m nx)
  | some (.may t) => match co.c with
    | .pure f => match f (addF t true pc) s with
      | some (.a x) => putD co.dst (.gd t x) s fun s => some (.go s m nx)
      | _ => none
    | .load f => match f (addF t true pc) s m with
      | some (.a x) => putD co.dst (.gd t x) s fun s => some (.go s m nx)
      | _ => none
    | _ => none
  | none => none
/-- An operation's turn. -/
def wpO (P : Program) (ops : Array Oper) (Q : Exit → Act → World → Prop) (o : Oper) (K : Act → World → Prop) (a : Act) (w : World) : Prop :=
  if Region.wanted o (yielded ops a.tmps) then o.wp P a w K Q ∨ (o.asks P a w ∧ LetsOut Q) else K (a.put o.dst undef) w
theorem cO_in {pc : Pc} {s : Tri L} {N : Nat} {ops : Array Oper} {o : Oper} {g : G} (h : gEv pc s (cO P N ops o).gd = some g) : ∀ d, o.dst = some d → d < N := by
  intro d hd
  unfold cO at h
  simp only at h
  cases hin : dstIn N o
  · rw [hin] at h; cases h
  · unfold dstIn at hin
    rw [hd] at hin
    simp only [Nat.ble_eq] at hin
    exact hin
theorem cO_dst (P : Program) (N : Nat) (ops : Array Oper) (o : Oper) : (cO P N ops o).dst = dstP o := rfl
theorem exO_mono {run : Run} {pc : Pc} (hrun : CallOk P pc run) {N : Nat} {ops : Array Oper} {o : Oper} {s : Tri L} {m : Tri B} {nx : Pt} {r : Os} (h : exO run pc (cO P N ops o) s m nx = some r) : nx.num ≤ r.nx.num := by
  unfold exO at h
  rw [cO_dst] at h
  simp only [putD_eq] at h
  split at h
  · split at h
    · rename_i hc; cases h
      exact exC_mono hrun (cOp_ok o) hc
    · rename_i hc; cases h
      exact exC_mono hrun (cOp_ok o) hc
    · cases h
  · cases h; exact Nat.le_refl _
  · split at h
    · split at h <;> cases h; exact Nat.le_refl _
    · split at h <;> cases h; exact Nat.le_refl _
    · cases h
  · cases h
/-- What comes of an operation. -/
def Os.ok (P : Program) (ops : Array Oper) (o : Oper) (N : Nat) (a : Act) (E : Env) (ρ : Pt → Rb) (D : Pt → Prop) (m : Tri B) (nx : Pt) (w : World) : Os → Prop
  | .go s' m' nx' => ∀ (K : Act → World → Prop) (Q : Exit → Act → World → Prop), (∀ ρ' a' w', Turn E ρ D m nx w ρ' m' nx' w' → AR E ρ' (Un D (Rg nx nx')) N s' a' → a'.defers = a.defers → K a' w') → wpO P ops Q o K a w
  | .pan c m' nx' => ∀ (K : Act → World → Prop) (Q : Exit → Act → World → Prop), (∀ ρ' w', Turn E ρ D m nx w ρ' m' nx' w' → c.ok E ρ' (Un D (Rg nx nx')) → Q (.panic [{ v := c.val E ρ', recovered := false }]) a w') → wpO P ops Q o K a w
theorem put_defers (a : Act) (dst : Option Tmp) (v : Value) : (a.put dst v).defers = a.defers := by cases dst <;> rfl
theorem exO_ok {run : Run} {pc : Pc} (hrun : CallOk P pc run) {N : Nat} {ops : Array Oper} {o : Oper} {s : Tri L} {m : Tri B} {nx : Pt} {r : Os} (h : exO run pc (cO P N ops o) s m nx = some r)
    {E : Env} {ρ : Pt → Rb} {D : Pt → Prop} {a : Act} {w : World} (hp : pcOk E pc) (ha : AR E ρ D N s a) (hm : MR E ρ D m w) (hfr : ∀ b, Rg nx r.nx b → ¬ D b) : r.ok P ops o N a E ρ D m nx w := by
  unfold exO at h
  rw [cO_dst] at h
  simp only [putD_eq] at h
  have hops := ha.sr.ops o.op.operands.toList
  cases hg : gEv pc s (cO P N ops o).gd with
  | none => rw [hg] at h; cases h
  | some g =>
    have hs := gEv_ok hp ha.sr hg
    have c2 := cO_in hg
    rw [hg] at h
    cases g with
    | yes =>
      simp only at h
      have hw : Region.wanted o (yielded ops a.tmps) = true := hs
      split at h
      · rename_i l m' nx' hc
        cases h
        have := exC_ok hrun (cOp_ok o) hc hp hops hm hfr
        intro K Q hK
        unfold wpO
        rw [if_pos hw]
        refine .inl (this K Q fun ρ' w' hT hl => ?_)
        exact hK ρ' _ w' hT ((ha.grow hT.grow).putS c2 hl) (put_defers _ _ _)
      · rename_i c m' nx' hc
        cases h
        have := exC_ok hrun (cOp_ok o) hc hp hops hm hfr
        intro K Q hK
        unfold wpO
        rw [if_pos hw]
        exact .inl (this K Q hK)
      · cases h
    | no =>
      simp only at h
      cases h
      have hw : Region.wanted o (yielded ops a.tmps) = false := hs
      intro K Q hK
      unfold wpO
      rw [hw]
      exact hK ρ _ w (Turn.refl hm) (by rw [un_self]; exact ha.putS (l := .tup []) c2 (fun _ h => nomatch h)) (put_defers _ _ _)
    | may t =>
      simp only at h
      have hw : t.tr E = Region.wanted o (yielded ops a.tmps) := hs
      have gen : ∀ (x : A), (t.tr E = true → (execOp a.eval o).run P w = .ok (.value (x.val E ρ)) w ∧ x.ok E ρ D) → (Os.go (putS o (.gd t x) s) m nx).ok P ops o N a E ρ D m nx w := by
        intro x hx K Q hK
        unfold wpO
        rw [← hw]
        cases ht : t.tr E
        · have h1 := hK ρ (a.put o.dst ((L.gd t x).val E ρ)) w (Turn.refl hm) (by rw [un_self]; exact ha.putS c2 (fun h => by rw [ht] at h; cases h)) (put_defers _ _ _)
          rw [show (L.gd t x).val E ρ = undef by simp only [L.val, ht]; rfl] at h1
          exact h1
        · obtain ⟨h1, h2⟩ := hx ht
          refine .inl ?_
          unfold Oper.wp
          rw [h1]
          have h3 := hK ρ (a.put o.dst ((L.gd t x).val E ρ)) w (Turn.refl hm) (by rw [un_self]; exact ha.putS c2 (fun _ => h2)) (put_defers _ _ _)
          rw [show (L.gd t x).val E ρ = x.val E ρ by simp only [L.val, ht, if_true]] at h3
          exact h3
      have hc := cOp_ok (P := P) o
      split at h
      · rename_i f hf
        change (cOp P o) = .pure f at hf
        rw [hf] at hc
        split at h
        · rename_i x hx
          cases h
          refine gen x fun ht => ?_
          obtain ⟨h1, h2⟩ := hc _ s _ hx E ρ D a.eval (pcOk_addF.2 ⟨ht, hp⟩) hops
          exact ⟨h1 w, h2⟩
        · cases h
      · rename_i f hf
        change (cOp P o) = .load f at hf
        rw [hf] at hc
        split at h
        · rename_i x hx
          cases h
          refine gen x fun ht => ?_
          exact hc _ s m _ hx E ρ D a.eval w (pcOk_addF.2 ⟨ht, hp⟩) hops hm
        · cases h
      · cases h
end
end Go.E3
namespace Go.E3
open Go.Sy
noncomputable section
variable {P : Program}

/-! codes -/
inductive Ex where
  | norm
  | ret
  | exit (id : Nat)
  | pan (c : C)
structure Out where
  e : Ex
  s : Tri L
  m : Tri B
  nx : Pt
def Ex.post (E : Env) (ρ : Pt → Rb) (D : Pt → Prop) (Q : Exit → Act → World → Prop) (a : Act) (w : World) : Ex → Prop
  | .norm => Q .normal a w
  | .ret => Q .ret a w
  | .exit id => Q (.exit id) a w
  | .pan c => c.ok E ρ D → Q (.panic [{ v := c.val E ρ, recovered := false }]) a w
/-- What is to hold of a way out. -/
def Out.post (E : Env) (ρ : Pt → Rb) (D : Pt → Prop) (N : Nat) (ds : List Deferred) (m : Tri B) (nx : Pt) (w : World) (Q : Exit → Act → World → Prop) (x : Out) : Prop :=
  ∀ ρ' a' w', Turn E ρ D m nx w ρ' x.m x.nx w' → AR E ρ' (Un D (Rg nx x.nx)) N x.s a' → a'.defers = ds → x.e.post E ρ' (Un D (Rg nx x.nx)) Q a' w'
theorem fresh1 {D : Pt → Prop} {a b c : Pt} (h : ∀ p, Rg a c p → ¬ D p) (h2 : b.num ≤ c.num) : ∀ p, Rg a b p → ¬ D p := fun p hp => h p ⟨hp.1, Nat.lt_of_lt_of_le hp.2 h2⟩
theorem fresh2 {D : Pt → Prop} {a b c : Pt} (h : ∀ p, Rg a c p → ¬ D p) (h1 : a.num ≤ b.num) : ∀ p, Rg b c p → ¬ Un D (Rg a b) p := fun p hp hu => by
  rcases hu with hu | hu
  · exact h p ⟨Nat.le_trans h1 hp.1, hp.2⟩ hu
  · exact absurd hu.2 (Nat.not_lt.2 hp.1)
/-- .. behind what has gone before. -/
theorem Out.post_step {E : Env} {ρ ρ1 : Pt → Rb} {D : Pt → Prop} {N : Nat} {ds : List Deferred} {m m1 : Tri B} {nx nx1 : Pt} {w w1 : World} {Q : Exit → Act → World → Prop} {x : Out} (h : x.post E ρ D N ds m nx w Q) (hT : Turn E ρ D m nx w ρ1 m1 nx1 w1) (hle : nx1.num ≤ x.nx.num) :
    x.post E ρ1 (Un D (Rg nx nx1)) N ds m1 nx1 w1 Q := by
  intro ρ' a' w' hT' ha hd
  have e := un_rg (D := D) hT.le hle
  rw [e] at ha ⊢
  exact h ρ' a' w' (hT.trans hT') ha hd

/-- Operations, one behind the other. -/
def exL (run : Run) (pc : Pc) (cos : List Co) : Tri L → Tri B → Pt → Option Out :=
  List.rec (motive := fun _ => Tri L → Tri B → Pt → Option Out) (fun s m nx => some ⟨.norm, s, m, nx⟩) (fun co _ ih s m nx => match exO run pc co s m nx with
    | some (.go s m nx) => ih s m nx
    | some (.pan c m nx) => some ⟨.pan c, s, m, nx⟩
    | none => none) cos
def compR (P : Program) (N : Nat) (ops : Array Oper) (os : List Oper) : List Co := os.map (cO P N ops)
theorem exL_mono {run : Run} {pc : Pc} (hrun : CallOk P pc run) {N : Nat} {ops : Array Oper} : ∀ {os : List Oper} {s : Tri L} {m : Tri B} {nx : Pt} {x : Out}, exL run pc (compR P N ops os) s m nx = some x → nx.num ≤ x.nx.num := by
  intro os
  induction os with
  | nil => intro s m nx x h; cases h; exact Nat.le_refl _
  | cons o os ih =>
    intro s m nx x h
    change (match exO run pc (cO P N ops o) s m nx with
      | some (.go s m nx) => exL run pc (compR P N ops os) s m nx
      | some (.pan c m nx) => some ⟨.pan c, s, m, nx⟩
      | none => none) = some x at h
    split at h
    · rename_i ho; exact Nat.le_trans (exO_mono hrun ho) (ih h)
    · rename_i ho; cases h; exact exO_mono hrun ho
    · cases h
theorem exL_ok {run : Run} {pc : Pc} (hrun : CallOk P pc run) {N : Nat} {ops : Array Oper} {E : Env} (hp : pcOk E pc) {Q : Exit → Act → World → Prop} {ds : List Deferred} : ∀ {os : List Oper} {k : Nat} {s : Tri L} {m : Tri B} {nx : Pt} {x : Out}, exL run pc (compR P N ops os) s m nx = some x → ops.toList.drop k = os →
    ∀ {ρ : Pt → Rb} {D : Pt → Prop} {a : Act} {w : World}, AR E ρ D N s a → a.defers = ds → MR E ρ D m w → (∀ b, Rg nx x.nx b → ¬ D b) → x.post E ρ D N ds m nx w Q → wpOps P ops Q (List.range' k os.length) a w := by
  intro os
  induction os with
  | nil =>
    intro k s m nx x h hk ρ D a w ha hd hm hfr hpost
    cases h
    exact hpost ρ a w (Turn.refl hm) (by rw [un_self]; exact ha) hd
  | cons o os ih =>
    intro k s m nx x h hk ρ D a w ha hd hm hfr hpost
    change (match exO run pc (cO P N ops o) s m nx with
      | some (.go s m nx) => exL run pc (compR P N ops os) s m nx
      | some (.pan c m nx) => some ⟨.pan c, s, m, nx⟩
      | none => none) = some x at h
    have hok : ops[k]? = some o := by
      have := List.getElem?_drop (xs := ops.toList) (i := k) (j := 0)
      rw [hk, Nat.add_zero, Array.getElem?_toList] at this; simpa using this.symm
    have hk' : ops.toList.drop (k + 1) = os := by
      have := List.drop_drop (i := 1) (j := k) (l := ops.toList)
      rw [← this, hk]; rfl
    show wpOps P ops Q (k :: List.range' (k + 1) os.length) a w
    have unf : ∀ a w, wpO P ops Q o (wpOps P ops Q (List.range' (k + 1) os.length)) a w → wpOps P ops Q (k :: List.range' (k + 1) os.length) a w := by
      intro a w h
      simp only [wpOps, hok]
      exact h
    refine unf a w ?_
    split at h
    · rename_i s1 m1 nx1 ho
      have hle := exL_mono hrun h
      have h1 := exO_mono hrun ho
      refine exO_ok hrun ho hp ha hm (fresh1 hfr hle) _ _ fun ρ' a' w' hT ha' hd' => ?_
      exact ih h hk' ha' (hd'.trans hd) hT.mr (fresh2 hfr h1) (Out.post_step hpost hT hle)
    · rename_i c m1 nx1 ho
      cases h
      refine exO_ok hrun ho hp ha hm hfr _ _ fun ρ' w' hT hc => ?_
      exact hpost ρ' a w' hT (ha.grow hT.grow) hd hc
    · cases h

/-! operations made ready to run -/
inductive Clo where
  | mk (f : Run → Pc → Tri L → Tri B → Pt → (Tri L → Tri B → Pt → Option Out) → Option Out)
def cloF (c : Clo) : Run → Pc → Tri L → Tri B → Pt → (Tri L → Tri B → Pt → Option Out) → Option Out := Clo.rec (motive := fun _ => Run → Pc → Tri L → Tri B → Pt → (Tri L → Tri B → Pt → Option Out) → Option Out) (fun f => f) c
def stepO (co : Co) : Run → Pc → Tri L → Tri B → Pt → (Tri L → Tri B → Pt → Option Out) → Option Out := fun run pc s m nx k => match exO run pc co s m nx with
  | some (.go s m nx) => k s m nx
  | some (.pan c m nx) => some ⟨.pan c, s, m, nx⟩
  | none => none
def cK (co : Co) : Clo := match co.gd with
  | none => match co.dst with
    | some p => match co.c with
      | .pure f => .mk fun _ pc s m nx k => Option.rec (motive := fun _ => Option Out) none (fun l => fcV l fun l => s.putK p (some l) fun s => k s m nx) (f pc s)
      | .load f => .mk fun _ pc s m nx k => Option.rec (motive := fun _ => Option Out) none (fun l => fcV l fun l => s.putK p (some l) fun s => k s m nx) (f pc s m)
      | .new f => .mk fun _ pc s m nx k => Option.rec (motive := fun _ => Option Out) none (fun xk => Prod.rec (motive := fun _ => Option Out) (fun x kd => m.putK nx (some x) fun m => nx.sucK fun nx' => fcV (.a (.c (kd.at nx))) fun l => s.putK p (some l) fun s => k s m nx') xk) (f pc s)
      | _ => .mk (stepO co)
    | none => .mk (stepO co)
  | _ => .mk (stepO co)
theorem cK_eq (co : Co) (run : Run) (pc : Pc) (s : Tri L) (m : Tri B) (nx : Pt) (k : Tri L → Tri B → Pt → Option Out) : cloF (cK co) run pc s m nx k = stepO co run pc s m nx k := by
  obtain ⟨c, dst, gd⟩ := co
  cases gd with
  | some g => rfl
  | none =>
    cases dst with
    | none => rfl
    | some p =>
      cases c with
      | pure f =>
        simp only [cK, cloF, stepO, exO, gEv, exC, putD, fcV_eq, Tri.putK_eq]
        cases f pc s <;> rfl
      | load f =>
        simp only [cK, cloF, stepO, exO, gEv, exC, putD, fcV_eq, Tri.putK_eq]
        cases f pc s m <;> rfl
      | new f =>
        simp only [cK, cloF, stepO, exO, gEv, exC, putD, fcV_eq, Tri.putK_eq, Pt.sucK_eq]
        cases f pc s with
        | none => rfl
        | some xk => rfl
      | eff f => rfl
      | call f as => rfl
      | pan x => rfl
      | bad => rfl
def exLk (run : Run) (pc : Pc) (cs : List Clo) : Tri L → Tri B → Pt → Option Out :=
  List.rec (motive := fun _ => Tri L → Tri B → Pt → Option Out) (fun s m nx => some ⟨.norm, s, m, nx⟩) (fun c _ ih s m nx => Clo.rec (motive := fun _ => Option Out) (fun f => f run pc s m nx ih) c) cs
def compK (P : Program) (N : Nat) (ops : Array Oper) (os : List Oper) : List Clo := List.rec (motive := fun _ => List Clo) [] (fun o _ ih => cK (cO P N ops o) :: ih) os
theorem exLk_eq {run : Run} {pc : Pc} {N : Nat} {ops : Array Oper} : ∀ (os : List Oper) (s : Tri L) (m : Tri B) (nx : Pt), exLk run pc (compK P N ops os) s m nx = exL run pc (compR P N ops os) s m nx := by
  intro os
  induction os with
  | nil => intro s m nx; rfl
  | cons o os ih =>
    intro s m nx
    have h1 : exLk run pc (compK P N ops (o :: os)) s m nx = cloF (cK (cO P N ops o)) run pc s m nx (exLk run pc (compK P N ops os)) := by
      show (Clo.rec (motive := fun _ => Option Out) (fun f => f run pc s m nx (exLk run pc (compK P N ops os))) (cK (cO P N ops o)) : Option Out) = _
      cases cK (cO P N ops o); rfl
    rw [h1, cK_eq]
    show stepO (cO P N ops o) run pc s m nx (exLk run pc (compK P N ops os)) = (match exO run pc (cO P N ops o) s m nx with
      | some (.go s m nx) => exL run pc (compR P N ops os) s m nx
      | some (.pan c m nx) => some ⟨.pan c, s, m, nx⟩
      | none => none)
    unfold stepO
    split
    · exact ih _ _ _
    · rfl
    · rfl
end
end Go.E3
