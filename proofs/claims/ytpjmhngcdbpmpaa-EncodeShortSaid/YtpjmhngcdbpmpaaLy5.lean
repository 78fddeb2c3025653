/- Part 5 of a checked reader of Go texts in their model form: it runs a function at terms in the place of numbers, and each part proves that its answers hold of the model. -/
import Derived.Test.YtpjmhngcdbpmpaaLy4
namespace Go.Sy

def constC : Value → C
  | .int k n => .int k (.lit n)
  | .bool b => .bool (.lit (tb b))
  | .pointer none => .nilp
  | .slice none 0 0 => .nils
  | v => .raw v
def constA : Value → A
  | .agg cs => bif cs.toList.all (·.oneCell') then .agg (cs.toList.map constC) else .dead
  | .tuple _ => .dead
  | v => .c (constC v)
theorem constC_ok [Fs] {E : Env} {ρ : Nat → Rb} {n : Nat} {v : Value} (h : v.oneCell' = true) : Cr E ρ n (constC v) v := by
  unfold constC
  split <;> simp only [Cr]
  · rfl
  · simp [T.tr, T.den, tb_ne]
  · exact ⟨trivial, h⟩
theorem constCs_ok [Fs] {E : Env} {ρ : Nat → Rb} {n : Nat} {cs : Array Value} (h : cs.toList.all (·.oneCell') = true) : F2 (Cr E ρ n) (cs.toList.map constC) cs := by
  refine ⟨by simp, fun i x hx => ?_⟩
  rw [List.getElem?_map] at hx
  cases hc : cs[i]? with
  | none => simp [hc] at hx
  | some v =>
    simp [hc] at hx
    refine ⟨v, rfl, hx ▸ constC_ok ?_⟩
    rw [List.all_eq_true] at h
    exact h v (by simpa using Array.mem_of_getElem? hc)
theorem constA_ok [Fs] {E : Env} {ρ : Nat → Rb} {n : Nat} (v : Value) : Ar E ρ n (constA v) v := by
  unfold constA
  split
  · rename_i cs
    cases h : cs.toList.all (·.oneCell')
    · trivial
    · exact ⟨cs, rfl, constCs_ok h⟩
  · trivial
  · rename_i h1 h2
    refine constC_ok ?_
    cases v <;> first | rfl | (exact absurd rfl (h1 _)) | (exact absurd rfl (h2 _))

/-- An operand; what is known only on one way is looked up under what is known. -/
def opd (st : St) : Operand → L
  | .tmp t => match st.s.get t with
    | some (.gd c x) => match dec st.pc c with
      | some true => .a x
      | _ => .a .dead
    | some l => l
    | none => .a .dead
  | .const v => .a (constA v)
  | .func f => .a (.c (.fn f))
  | .global g => .a (.c (.raw (.pointer (some ⟨g, 0, none⟩))))
theorem opd_ok [Fs] {X : Cx} {ρ : Nat → Rb} {st : St} {a : Act} (h : SRel X ρ st a) (x : Operand) : Lr X.E ρ st.m.length (opd st x) (a.eval x) := by
  cases x with
  | const v => exact constA_ok v
  | func f => exact rfl
  | global g => exact ⟨rfl, rfl⟩
  | tmp t =>
    simp only [opd, Act.eval]
    split
    · rename_i c x hx
      obtain ⟨v, h1, h2⟩ := h.slots t _ hx
      split
      · rename_i hd
        have : a.tmps.getD t undef = v := by simp [h1]
        rw [this]
        exact h2.1 (dec_ok h.pc hd)
      · trivial
    · rename_i l _ hl
      obtain ⟨v, h1, h2⟩ := h.slots t _ hl
      have : a.tmps.getD t undef = v := by simp [h1]
      rw [this]; exact h2
    · trivial
def opA (st : St) (x : Operand) : A := match opd st x with
  | .a y => y
  | _ => .dead
theorem opA_ok [Fs] {X : Cx} {ρ : Nat → Rb} {st : St} {a : Act} (h : SRel X ρ st a) (x : Operand) : Ar X.E ρ st.m.length (opA st x) (a.eval x) := by
  have := opd_ok h x
  unfold opA
  split
  · rename_i y hy; rw [hy] at this; exact this
  · trivial
def opC (st : St) (x : Operand) : Option C := match opA st x with
  | .c y => some y
  | _ => none
theorem opC_ok [Fs] {X : Cx} {ρ : Nat → Rb} {st : St} {a : Act} (h : SRel X ρ st a) {x : Operand} {y : C} (hy : opC st x = some y) : Cr X.E ρ st.m.length y (a.eval x) := by
  have := opA_ok h x
  unfold opC at hy
  split at hy
  · rename_i y' hy'; cases hy; rw [hy'] at this; exact this
  · cases hy
/-- A slice that may be appended to is a slice. -/
def C.nrm : C → C
  | .sle b _ k => .slc b 0 k
  | x => x
theorem C.nrm_ok [Fs] {E : Env} {ρ : Nat → Rb} {n : Nat} {x : C} {v : Value} (h : Cr E ρ n x v) : Cr E ρ n x.nrm v := by
  cases x <;> try exact h
  obtain ⟨h1, cap, h2, h3, _⟩ := h
  exact ⟨h1, cap, h2, h3⟩
def opN (st : St) (x : Operand) : Option C := match opC st x with
  | some y => some y.nrm
  | none => none
theorem opN_ok [Fs] {X : Cx} {ρ : Nat → Rb} {st : St} {a : Act} (h : SRel X ρ st a) {x : Operand} {y : C} (hy : opN st x = some y) : Cr X.E ρ st.m.length y (a.eval x) := by
  unfold opN at hy
  split at hy
  · rename_i z hz; cases hy; exact C.nrm_ok (opC_ok h hz)
  · cases hy

/-- What an operation comes to: its value, the blocks, what must hold lest it panics. -/
structure OpR where
  l : L
  m : List Bk
  rq : List T
def isAggT (P : Program) (t : TypeId) : Option Bool := match P.underlying t with
  | some (.struct _) | some (.array _ _) => some true
  | some _ => some false
  | none => none
def sizeT (P : Program) (t : TypeId) : Option Nat := (P.info? t).map (·.size)
theorem run_isAggT [Fs] {P : Program} {t : TypeId} {b : Bool} (h : isAggT P t = some b) (w : World) : (isAgg t).run P w = .ok b w := by
  unfold isAggT at h
  unfold isAgg
  split at h
  · rename_i hu; cases h; rw [Sem.run_bind, run_underlying hu w]; rfl
  · rename_i hu; cases h; rw [Sem.run_bind, run_underlying hu w]; rfl
  · rename_i d h1 h2 hu
    cases h; rw [Sem.run_bind, run_underlying hu w]
    cases d <;> first | rfl | (exact (h1 _ rfl).elim) | (exact (h2 _ _ rfl).elim)
  · cases h
theorem run_sizeT [Fs] {P : Program} {t : TypeId} {n : Nat} (h : sizeT P t = some n) (w : World) : (sizeOf t).run P w = .ok n w := by
  unfold sizeT at h
  cases hi : P.info? t with
  | none => simp [hi] at h
  | some i =>
    simp [hi] at h
    simp [sizeOf, typeInfo, hi, h]

/-- What an operation is to do. -/
def OpOk (P : Program) (X : Cx) (ρ : Nat → Rb) (st : St) (a : Act) (w : World) (o : Oper) (r : OpR) : Prop :=
  (∀ t ∈ r.rq, t.tr X.E = true) → ∃ v w' ρ', ((execOp a.eval o).run P w = .ok (.value v) w' ∨ ((execOp a.eval o).run P w = .ok .skip w' ∧ v = undef)) ∧
    Lr X.E ρ' r.m.length r.l v ∧ MemR X ρ' r.m w' ∧ (∀ i, i < st.m.length → ρ' i = ρ i) ∧ st.m.length ≤ r.m.length

/-- The same of an operation that only reckons: whatever the world. -/
def OpQ (P : Program) (X : Cx) (ρ : Nat → Rb) (st : St) (a : Act) (o : Oper) (r : OpR) : Prop :=
  r.m = st.m ∧ ((∀ t ∈ r.rq, t.tr X.E = true) → ∃ v, (∀ w, (execOp a.eval o).run P w = .ok (.value v) w) ∧ Lr X.E ρ st.m.length r.l v)

section ops
variable {P : Program} {X : Cx} {ρ : Nat → Rb} {st : St} {a : Act} {w : World} {o : Oper}
/-- An operation that leaves the memory alone. -/
theorem OpOk.pure [Fs] (h : Rel X ρ st a w) {l : L} {rq : List T} {v : Value} (hr : (∀ t ∈ rq, t.tr X.E = true) → (execOp a.eval o).run P w = .ok (.value v) w ∧ Lr X.E ρ st.m.length l v) : OpOk P X ρ st a w o ⟨l, st.m, rq⟩ :=
  fun hq => ⟨v, w, ρ, .inl (hr hq).1, (hr hq).2, h.mr, fun _ _ => rfl, Nat.le_refl _⟩

theorem OpQ.pure [Fs] {l : L} {rq : List T} {v : Value} (hr : ∀ w, (∀ t ∈ rq, t.tr X.E = true) → (execOp a.eval o).run P w = .ok (.value v) w ∧ Lr X.E ρ st.m.length l v) : OpQ P X ρ st a o ⟨l, st.m, rq⟩ :=
  ⟨rfl, fun hq => ⟨v, fun w => (hr w hq).1, (hr default hq).2⟩⟩
theorem OpQ.ok [Fs] (h : Rel X ρ st a w) {r : OpR} (hq : OpQ P X ρ st a o r) : OpOk P X ρ st a w o r := fun hrq =>
  let ⟨v, h1, h2⟩ := hq.2 hrq
  ⟨v, w, ρ, .inl (h1 w), by rw [hq.1]; exact h2, by rw [hq.1]; exact h.mr, fun _ _ => rfl, by rw [hq.1]; exact Nat.le_refl _⟩

def evMove (st : St) (x : Operand) : OpR := ⟨opd st x, st.m, []⟩
theorem evMove_ok [Fs] (h : SRel X ρ st a) {x : Operand} (ho : o.op = .move x ∨ o.op = .assign x) : OpQ P X ρ st a o (evMove st x) :=
  OpQ.pure fun w _ => ⟨by rcases ho with ho | ho <;> simp [execOp, ho], opd_ok h x⟩

/-- What a truth says beside what is known. -/
def cut (pc : Pc) : T → T
  | .bin .and p q => match dec pc p with
    | some true => cut pc q
    | some false => .lit 0
    | none => match dec pc q with
      | some true => cut pc p
      | some false => .lit 0
      | none => .bin .and p q
  | .bin .or p q => match dec pc p with
    | some false => cut pc q
    | some true => .lit 1
    | none => match dec pc q with
      | some false => cut pc p
      | some true => .lit 1
      | none => .bin .or p q
  | t => t
theorem tr_cut [Fs] {E : Env} {pc : Pc} (hp : pcOk E pc) (t : T) : (cut pc t).tr E = t.tr E := by
  induction t with
  | bin o p q ihp ihq =>
    cases o with
    | and =>
      have e : (T.bin .and p q).tr E = (p.tr E && q.tr E) := by simp only [T.tr, T.den, O2.den, tb_ne]
      rw [e]
      simp only [cut]
      split
      · rename_i h; rw [dec_ok hp h, ihq]; rfl
      · rename_i h; rw [dec_ok hp h]; rfl
      · split
        · rename_i h; rw [dec_ok hp h, ihp, Bool.and_true]
        · rename_i h; rw [dec_ok hp h, Bool.and_false]; rfl
        · exact e
    | or =>
      have e : (T.bin .or p q).tr E = (p.tr E || q.tr E) := by simp only [T.tr, T.den, O2.den, tb_ne]
      rw [e]
      simp only [cut]
      split
      · rename_i h; rw [dec_ok hp h, ihq]; rfl
      · rename_i h; rw [dec_ok hp h]; rfl
      · split
        · rename_i h; rw [dec_ok hp h, ihp, Bool.or_false]
        · rename_i h; rw [dec_ok hp h, Bool.or_true]; rfl
        · exact e
    | _ => rfl
  | _ => rfl
/-- 'and', 'or', where one follows from the other: shorter. -/
def tidyA (a b : T) : T := match dec (addF a true []) b with
  | some true => a
  | some false => .lit 0
  | none => match dec (addF (cut (addF a true []) b) true []) a with
    | some true => cut (addF a true []) b
    | _ => mkAndS a (cut (addF a true []) b)
def tidyO (a b : T) : T := match dec (addF a false []) b with
  | some false => a
  | some true => .lit 1
  | none => match dec (addF (cut (addF a false []) b) false []) a with
    | some false => cut (addF a false []) b
    | _ => mkOrS a (cut (addF a false []) b)
def T.tidy : T → T
  | .bin .and a b => tidyA a.tidy b.tidy
  | .bin .or a b => tidyO a.tidy b.tidy
  | .un .not a => mkNot a.tidy
  | t => t
theorem pcOk_one [Fs] {E : Env} {x : T} {r : Bool} (h : x.tr E = r) : pcOk E (addF x r []) := pcOk_addF.2 ⟨h, by intro p hp; cases hp⟩
theorem tr_tidyA [Fs] (E : Env) (a b : T) : (tidyA a b).tr E = (a.tr E && b.tr E) := by
  have one : ∀ {x y : T} {r : Bool}, dec (addF x true []) y = some r → x.tr E = true → y.tr E = r := fun hd hx => dec_ok (E := E) (pcOk_one hx) hd
  have hc : a.tr E = true → (cut (addF a true []) b).tr E = b.tr E := fun h => tr_cut (pcOk_one h) b
  unfold tidyA
  split
  · rename_i h
    cases ha : a.tr E
    · rfl
    · rw [one h ha]; rfl
  · rename_i h
    cases ha : a.tr E
    · rfl
    · rw [one h ha]; rfl
  · split
    · rename_i h
      cases hb : (cut (addF a true []) b).tr E
      · cases ha : a.tr E
        · rfl
        · rw [← hc ha, hb]; rfl
      · have ha := one h hb
        rw [ha, ← hc ha, hb]; rfl
    · have e : (mkAndS a (cut (addF a true []) b)).tr E = (a.tr E && (cut (addF a true []) b).tr E) := by simp only [T.tr, mkAndS_den, tb_ne]
      rw [e]
      cases ha : a.tr E
      · rfl
      · rw [hc ha]
theorem tr_tidyO [Fs] (E : Env) (a b : T) : (tidyO a b).tr E = (a.tr E || b.tr E) := by
  have one : ∀ {x y : T} {r : Bool}, dec (addF x false []) y = some r → x.tr E = false → y.tr E = r := fun hd hx => dec_ok (E := E) (pcOk_one hx) hd
  have hc : a.tr E = false → (cut (addF a false []) b).tr E = b.tr E := fun h => tr_cut (pcOk_one h) b
  unfold tidyO
  split
  · rename_i h
    cases ha : a.tr E
    · rw [one h ha]; rfl
    · rfl
  · rename_i h
    cases ha : a.tr E
    · rw [one h ha]; rfl
    · rfl
  · split
    · rename_i h
      cases hb : (cut (addF a false []) b).tr E
      · have ha := one h hb
        rw [ha, ← hc ha, hb]; rfl
      · cases ha : a.tr E
        · rw [← hc ha, hb]; rfl
        · rfl
    · have e : (mkOrS a (cut (addF a false []) b)).tr E = (a.tr E || (cut (addF a false []) b).tr E) := by simp only [T.tr, mkOrS_den, tb_ne]
      rw [e]
      cases ha : a.tr E
      · rw [hc ha]
      · rfl
theorem tr_tidy [Fs] (E : Env) (t : T) : t.tidy.tr E = t.tr E := by
  induction t with
  | bin o a b iha ihb =>
    cases o with
    | and => simp only [T.tidy, tr_tidyA, iha, ihb]; simp only [T.tr, T.den, O2.den, tb_ne]
    | or => simp only [T.tidy, tr_tidyO, iha, ihb]; simp only [T.tr, T.den, O2.den, tb_ne]
    | _ => rfl
  | un o a ih =>
    cases o with
    | not =>
      simp only [T.tidy, T.tr, mkNot_den, T.den, O1.den, tb_ne]
      have := ih
      simp only [T.tr, bne] at this
      exact Bool.not_inj this
    | _ => rfl
  | _ => rfl
/-- One truth or another, by a third: where the second is false whenever the third holds, as an 'or'. -/
def mkIteX0 (c a b : T) : T := bif a.beq c then mkIte c a b else match dec (addF c true []) b with
  | some false => bif a.isL 0 then b else mkOrS (mkAndS c a) b
  | _ => mkIte c a b
theorem tr_iteX0 [Fs] (E : Env) (c a b : T) : (mkIteX0 c a b).tr E = if c.tr E = true then a.tr E else b.tr E := by
  have base : (mkIte c a b).tr E = if c.tr E = true then a.tr E else b.tr E := by
    unfold T.tr
    rw [mkIte_den]
    by_cases h : c.den E = 0 <;> simp [h]
  unfold mkIteX0
  cases a.beq c <;> simp only [cond_true, cond_false]
  case true => exact base
  split
  · rename_i hd
    have hb : c.tr E = true → b.tr E = false := fun hc => dec_ok (E := E) (pc := addF c true []) (pcOk_addF.2 ⟨hc, by intro p hp; cases hp⟩) hd
    cases ha : a.isL 0 <;> simp only [cond_true, cond_false]
    · have : (mkOrS (mkAndS c a) b).tr E = ((c.tr E && a.tr E) || b.tr E) := by
        simp only [T.tr, mkOrS_den, mkAndS_den, tb_ne]
      rw [this]
      cases hc : c.tr E
      · simp
      · simp [hb hc]
    · have h0 : a.tr E = false := by rw [T.isL_eq ha]; rfl
      cases hc : c.tr E
      · simp
      · simp [hb hc, h0]
  · exact base
def mkIteX (c a b : T) : T := (mkIteX0 c a b).tidy
theorem tr_iteX [Fs] (E : Env) (c a b : T) : (mkIteX c a b).tr E = if c.tr E = true then a.tr E else b.tr E := by
  rw [mkIteX, tr_tidy, tr_iteX0]
/-- Which of two rows. -/
def mkIteR (c a b : T) : T := match c with
  | .lit n => bif n == 0 then b else a
  | c => bif a.beq b then a else .ite c a b
theorem mkIteR_row [Fs] (E : Env) (c a b : T) : (mkIteR c a b).row E = if c.tr E = true then a.row E else b.row E := by
  have key : ∀ c : T, (bif a.beq b then a else T.ite c a b).row E = if c.tr E = true then a.row E else b.row E := by
    intro c
    cases h : a.beq b
    · funext j
      simp only [cond_false, T.row, T.tr, bne_iff_ne, ne_eq]
      by_cases hc : c.den E = 0 <;> simp [hc]
    · simp only [cond_true, T.beq_eq h]; split <;> rfl
  cases c with
  | lit n =>
    have e : (T.lit n).tr E = !(n == 0) := rfl
    have e2 : mkIteR (.lit n) a b = bif n == 0 then b else a := rfl
    rw [e, e2]
    cases h : n == 0 <;> rfl
  | _ => exact key _
/-- Which of two values: of one kind. -/
def pickC (t : T) : C → C → Option C
  | .int k x, .int k' y => if k = k' then some (.int k (mkIte t x y)) else none
  | .bool x, .bool y => some (.bool (mkIteX t x y))
  | .nilp, .nilp => some .nilp
  | .nils, .nils => some .nils
  | .ptr b o, .ptr b' o' => bif b == b' && o == o' then some (.ptr b o) else none
  | .slc b o n, .slc b' o' n' => bif b == b' && o == o' && n == n' then some (.slc b o n) else none
  | .fn f, .fn g => bif f == g then some (.fn f) else none
  | .str n s, .str n' s' => some (.str (mkIte t n n') (mkIteR t s s'))
  | .slr b z o n, .slr b' z' o' n' => bif b == b' && z == z' then some (.slr b z (mkIte t o o') (mkIte t n n')) else none
  | .sln b z n, .sln b' z' n' => bif b == b' && z == z' then some (.sln b z (mkIte t n n')) else none
  | .pta b z i o r, .pta b' z' i' o' r' => bif b == b' && z == z' && o == o' then some (.pta b z (mkIte t i i') o (mkIte t r r')) else none
  | _, _ => none
theorem tr_ite [Fs] (E : Env) (c a b : T) : (mkIte c a b).tr E = if c.tr E = true then a.tr E else b.tr E := by
  unfold T.tr
  rw [mkIte_den]
  by_cases h : c.den E = 0 <;> simp [h]
theorem den_ite [Fs] (E : Env) (c a b : T) : (mkIte c a b).den E = if c.tr E = true then a.den E else b.den E := by
  rw [mkIte_den]
  unfold T.tr
  by_cases h : c.den E = 0 <;> simp [h]
theorem pickC_ok [Fs] {E : Env} {n : Nat} {t : T} {x y z : C} {u v : Value} (hz : pickC t x y = some z) (hx : t.tr E = true → Cr E ρ n x u) (hy : t.tr E = false → Cr E ρ n y v) :
    Cr E ρ n z (if t.tr E = true then u else v) := by
  unfold pickC at hz
  split at hz
  · split at hz
    · rename_i hk
      subst hk; cases hz
      simp only [Cr, den_ite]
      cases ht : t.tr E
      · simp; exact hy ht
      · simp; exact hx ht
    · cases hz
  · cases hz
    simp only [Cr, tr_iteX]
    cases ht : t.tr E
    · simp; exact hy ht
    · simp; exact hx ht
  · cases hz
    cases ht : t.tr E
    · simp; exact hy ht
    · simp; exact hx ht
  · cases hz
    cases ht : t.tr E
    · simp; exact hy ht
    · simp; exact hx ht
  · rename_i b o b' o'
    cases hb : b == b' && o == o' <;> simp only [hb, cond_true, cond_false] at hz
    · cases hz
    · cases hz
      simp only [Bool.and_eq_true, beq_iff_eq] at hb
      obtain ⟨rfl, rfl⟩ := hb
      cases ht : t.tr E
      · simp; exact hy ht
      · simp; exact hx ht
  · rename_i b o n b' o' n'
    cases hb : b == b' && o == o' && n == n' <;> simp only [hb, cond_true, cond_false] at hz
    · cases hz
    · cases hz
      simp only [Bool.and_eq_true, beq_iff_eq] at hb
      obtain ⟨⟨rfl, rfl⟩, rfl⟩ := hb
      cases ht : t.tr E
      · simp; exact hy ht
      · simp; exact hx ht
  · rename_i f g
    cases hb : f == g <;> simp only [hb, cond_true, cond_false] at hz
    · cases hz
    · cases hz
      simp only [beq_iff_eq] at hb
      subst hb
      cases ht : t.tr E
      · simp; exact hy ht
      · simp; exact hx ht
  · cases hz
    simp only [Cr, den_ite, mkIteR_row]
    cases ht : t.tr E
    · simp; exact hy ht
    · simp; exact hx ht
  · rename_i b z o k b' z' o' k'
    cases hb : b == b' && z == z' <;> simp only [hb, cond_true, cond_false] at hz
    · cases hz
    · cases hz
      simp only [Bool.and_eq_true, beq_iff_eq] at hb
      obtain ⟨rfl, rfl⟩ := hb
      simp only [Cr, den_ite]
      cases ht : t.tr E
      · simp only [Bool.false_eq_true, if_false]; exact hy ht
      · simp only [if_true]; exact hx ht
  · rename_i b z k b' z' k'
    cases hb : b == b' && z == z' <;> simp only [hb, cond_true, cond_false] at hz
    · cases hz
    · cases hz
      simp only [Bool.and_eq_true, beq_iff_eq] at hb
      obtain ⟨rfl, rfl⟩ := hb
      simp only [Cr, den_ite]
      cases ht : t.tr E
      · simp only [Bool.false_eq_true, if_false]; exact hy ht
      · simp only [if_true]; exact hx ht
  · rename_i b z i o r b' z' i' o' r'
    cases hb : b == b' && z == z' && o == o' <;> simp only [hb, cond_true, cond_false] at hz
    · cases hz
    · cases hz
      simp only [Bool.and_eq_true, beq_iff_eq] at hb
      obtain ⟨⟨rfl, rfl⟩, rfl⟩ := hb
      simp only [Cr, den_ite]
      cases ht : t.tr E
      · simp only [Bool.false_eq_true, if_false]; exact hy ht
      · simp only [if_true]; exact hx ht
  · cases hz

/-! what follows from what is known: 'a and c' is false, a is true: c is false -/
/-- At most so deep in 'and', 'or', 'not'. -/
def T.few : T → Nat → Bool
  | .bin .and a b, n | .bin .or a b, n => match n with | 0 => false | n + 1 => a.few n && b.few n
  | .un .not a, n => a.few n
  | .ite _ _ _, _ => false
  | .bin .eq a b, _ => !(a.is01 && b.is01)
  | _, _ => true
def T.small (t : T) : Bool := t.few 3
/-- .. of a small one alone. -/
def decA (pc : Pc) (t : T) : Option Bool := bif t.small then dec pc t else findF t pc
theorem decA_ok [Fs] {E : Env} {pc : Pc} (hp : pcOk E pc) {t : T} {r : Bool} (h : decA pc t = some r) : t.tr E = r := by
  unfold decA at h
  cases hs : t.small <;> simp only [hs, cond_true, cond_false] at h
  · exact findF_ok hp h
  · exact dec_ok hp h
/-- A fact, where it isn't there already. -/
def addN (t : T) (b : Bool) (pc : Pc) : Pc := match findF t pc with
  | some r => bif (bif r then b else !b) then pc else addF t b pc
  | none => addF t b pc
theorem pcOk_addN [Fs] {E : Env} {t : T} {b : Bool} {pc : Pc} : pcOk E (addN t b pc) ↔ t.tr E = b ∧ pcOk E pc := by
  unfold addN
  split
  · rename_i r hr
    cases hrb : (bif r then b else !b) <;> simp only [cond_true, cond_false]
    · exact pcOk_addF
    · have hb : r = b := by cases r <;> cases b <;> simp at hrb <;> rfl
      subst hb
      exact ⟨fun h => ⟨findF_ok h hr, h⟩, fun h => h.2⟩
  · exact pcOk_addF
def propS (acc : Pc) : T × Bool → Pc
  | (.bin .and a c, false) => match decA acc a with
    | some true => addN c false acc
    | _ => match decA acc c with
      | some true => addN a false acc
      | _ => acc
  | (.bin .or a c, true) => match decA acc a with
    | some false => addN c true acc
    | _ => match decA acc c with
      | some false => addN a true acc
      | _ => acc
  | _ => acc
theorem propS_ok [Fs] {E : Env} {acc : Pc} {p : T × Bool} (hp : p.1.tr E = p.2) : pcOk E (propS acc p) ↔ pcOk E acc := by
  have sub : pcOk E (propS acc p) → pcOk E acc := by
    unfold propS
    repeat' split
    all_goals first | exact fun h => h | exact fun h => (pcOk_addN.1 h).2
  refine ⟨sub, fun h => ?_⟩
  unfold propS
  repeat' split
  all_goals first
    | exact h
    | (rename_i hd; refine pcOk_addN.2 ⟨?_, h⟩; have := decA_ok h hd; simp only [tr_and, tr_or] at hp; simp_all)
def propL (acc : Pc) : Pc → Pc
  | [] => acc
  | p :: l => propL (propS acc p) l
theorem propL_ok [Fs] {E : Env} : ∀ {l acc : Pc}, pcOk E l → (pcOk E (propL acc l) ↔ pcOk E acc) := by
  intro l
  induction l with
  | nil => intro acc _; exact Iff.rfl
  | cons p l ih =>
    intro acc h
    simp only [propL]
    rw [ih (fun q hq => h q (List.mem_cons_of_mem _ hq)), propS_ok (h p List.mem_cons_self)]
theorem propL_sub [Fs] {E : Env} : ∀ {l acc : Pc}, pcOk E (propL acc l) → pcOk E acc := by
  intro l
  induction l with
  | nil => intro acc h; exact h
  | cons p l ih =>
    intro acc h
    have := ih h
    revert this
    unfold propS
    repeat' split
    all_goals first | exact fun h => h | exact fun h => (pcOk_addN.1 h).2
def addP (t : T) (b : Bool) (pc : Pc) : Pc := propL (addF t b pc) (addF t b pc)
theorem pcOk_addP [Fs] {E : Env} {t : T} {b : Bool} {pc : Pc} : pcOk E (addP t b pc) ↔ t.tr E = b ∧ pcOk E pc := by
  unfold addP
  refine ⟨fun h => pcOk_addF.1 (propL_sub h), fun h => ?_⟩
  have := pcOk_addF.2 h
  exact (propL_ok this).2 this

def withPc (st : St) (t : T) (b : Bool) : St := { st with pc := addP t b st.pc }
theorem withPc_k [Fs] (st : St) (t : T) (b : Bool) : (withPc st t b).k = st.k := rfl
theorem SRel.withPc [Fs] (h : SRel X ρ st a) {t : T} {b : Bool} (ht : t.tr X.E = b) : SRel X ρ (withPc st t b) a := ⟨h.slots, pcOk_addP.2 ⟨ht, h.pc⟩, h.ds, h.F⟩
theorem Rel.withPc [Fs] (h : Rel X ρ st a w) {t : T} {b : Bool} (ht : t.tr X.E = b) : Rel X ρ (Go.Sy.withPc st t b) a w := ⟨h.toSRel.withPc ht, h.dfr, h.mr⟩

def evPick (st : St) (c x y : Operand) : Option OpR :=
  match opC st c with
  | some (.bool t) => match dec st.pc t with
    | some true => some ⟨opd st x, st.m, []⟩
    | some false => some ⟨opd st y, st.m, []⟩
    | none => match opC (withPc st t true) x with
      | some u => match opC (withPc st t false) y with
        | some v => match pickC t u v with
          | some (.bool z) => some ⟨.a (.c (.bool (norm st.pc z))), st.m, []⟩
          | some z => some ⟨.a (.c z), st.m, []⟩
          | none => none
        | none => none
      | none => none
  | _ => none
theorem evPick_ok [Fs] (h : SRel X ρ st a) {c x y : Operand} (ho : o.op = .pick c x y) {r : OpR} (hr : evPick st c x y = some r) : OpQ P X ρ st a o r := by
  unfold evPick at hr
  split at hr
  · rename_i t hc
    have hv : a.eval c = .bool (t.tr X.E) := opC_ok h hc
    have hrun : ∀ w, (execOp a.eval o).run P w = .ok (.value (if t.tr X.E = true then a.eval x else a.eval y)) w := by
      intro w; simp [execOp, ho, hv, asBool]
    split at hr
    · rename_i hd
      cases hr
      refine OpQ.pure fun w _ => ⟨hrun w, ?_⟩
      rw [dec_ok h.pc hd]; exact opd_ok h x
    · rename_i hd
      cases hr
      refine OpQ.pure fun w _ => ⟨hrun w, ?_⟩
      rw [dec_ok h.pc hd]; exact opd_ok h y
    · split at hr
      · rename_i u hu
        split at hr
        · rename_i v hv'
          have key : ∀ z, pickC t u v = some z → Cr X.E ρ st.m.length z (if t.tr X.E = true then a.eval x else a.eval y) := fun z hz =>
            pickC_ok hz (fun ht => opC_ok (h.withPc ht) hu) (fun ht => opC_ok (h.withPc ht) hv')
          split at hr
          · rename_i z hz
            cases hr
            refine OpQ.pure fun w _ => ⟨hrun w, ?_⟩
            have := key _ hz
            simp only [Cr] at this
            simp only [Lr, Ar, Cr, norm_tr h.pc]; exact this
          · rename_i z _ hz
            cases hr
            exact OpQ.pure fun w _ => ⟨hrun w, key _ hz⟩
          · cases hr
        · cases hr
      · cases hr
  · cases hr

/-! new blocks -/
def evNew (st : St) (ty : TypeId) (xs : List C) : OpR := ⟨.a (.c (.ptr st.m.length 0)), st.m ++ [.cells (Nat.mul 2 ty) xs], []⟩
theorem evNew_ok [Fs] (h : Rel X ρ st a w) {ty : TypeId} {xs : List C} {cs : Array Value} (hx : F2 (Cr X.E ρ st.m.length) xs cs)
    (hrun : (execOp a.eval o).run P w = .ok (.value (.pointer (some ⟨w.heap.size, 0, none⟩))) (w.alloc (.cells cs ty))) : OpOk P X ρ st a w o (evNew st ty xs) := fun _ =>
  ⟨_, _, upd ρ st.m.length ⟨w.heap.size, cs.size, 0⟩, .inl hrun, by simp only [evNew, Lr, Ar, Cr, upd_same]; exact ⟨by simp, trivial⟩, h.mr.alloc hx, fun i hi => upd_ne _ _ (Nat.ne_of_lt hi), by simp [evNew]⟩

def zeroOf (P : Program) (e : TypeId) : Option (List C) := match P.info? e with
  | some i => match i.zero with
    | some z => bif z.cells.toList.all (·.oneCell') then some (z.cells.toList.map constC) else none
    | none => none
  | none => none
def evAlloc (P : Program) (st : St) (e : TypeId) : Option OpR := (zeroOf P e).map fun xs => evNew st e xs
theorem zeroOf_ok [Fs] {e : TypeId} {xs : List C} (h : zeroOf P e = some xs) : ∃ z, (∀ w, (zeroValue e).run P w = .ok z w) ∧ ∀ (E : Env) (ρ : Nat → Rb) (n : Nat), F2 (Cr E ρ n) xs z.cells := by
  unfold zeroOf at h
  split at h
  · rename_i i hi
    split at h
    · rename_i z hz
      cases hc : z.cells.toList.all (·.oneCell') <;> simp only [hc, cond_true, cond_false] at h
      · cases h
      · cases h
        exact ⟨z, fun w => by simp [zeroValue, typeInfo, hi, hz], fun E ρ n => constCs_ok hc⟩
    · cases h
  · cases h
theorem evAlloc_ok [Fs] (h : Rel X ρ st a w) {e : TypeId} (ho : o.op = .alloc e) {r : OpR} (hr : evAlloc P st e = some r) : OpOk P X ρ st a w o r := by
  unfold evAlloc at hr
  cases hz : zeroOf P e with
  | none => simp [hz] at hr
  | some xs =>
    simp [hz] at hr
    subst hr
    obtain ⟨z, h1, h2⟩ := zeroOf_ok hz
    refine evNew_ok h (h2 X.E ρ _) ?_
    simp [execOp, ho, Instr.alloc, h1, newVar, newRow]
/-- A value as cells. -/
def cellsOf : A → Option (List C)
  | .c x => some [x]
  | .agg xs => some xs
  | .rows _ => none
  | .dead => none
theorem cellsOf_ok [Fs] {E : Env} {n : Nat} {x : A} {xs : List C} {v : Value} (hx : cellsOf x = some xs) (h : Ar E ρ n x v) : F2 (Cr E ρ n) xs v.cells := by
  cases x with
  | c y =>
    cases hx
    have h1 := Cr_one h
    have : v.cells = #[v] := by cases v <;> first | rfl | simp [Value.oneCell'] at h1
    rw [this]
    refine ⟨rfl, fun i x hx => ?_⟩
    cases i with
    | zero => simp at hx; exact ⟨v, rfl, hx ▸ h⟩
    | succ i => simp at hx
  | agg ys => cases hx; obtain ⟨cs, rfl, h2⟩ := h; exact h2
  | rows cols => cases hx
  | dead => cases hx
/-- A new block of one element of columns. -/
def evNewR (st : St) (ty : TypeId) (cols : List Col) : OpR := ⟨.a (.c (.pta st.m.length (wid cols) (.lit 0) 0 (.lit 0))), st.m ++ [.arr (Nat.mul 2 ty) (.lit 1) cols], []⟩
theorem evNewR_ok [Fs] (h : Rel X ρ st a w) {ty : TypeId} {cols : List Col} {cs : Array Value} (hs : cs.size = wid cols) (hc : Cells X.E 1 cols cs)
    (hrun : (execOp a.eval o).run P w = .ok (.value (.pointer (some ⟨w.heap.size, 0, none⟩))) (w.alloc (.cells cs ty))) : OpOk P X ρ st a w o (evNewR st ty cols) := fun _ => by
  refine ⟨_, _, upd ρ st.m.length ⟨w.heap.size, cs.size, 0⟩, .inl hrun, ?_, h.mr.allocB (ty := ty) (cs := cs) (fun ρ' n o _ _ ho => ?_), fun i hi => upd_ne _ _ (Nat.ne_of_lt hi), by simp [evNewR]⟩
  · simp only [evNewR, Lr, Ar, Cr, upd_same]
    exact ⟨by simp, Int.le_refl _, Int.le_refl _, by simp [T.den]⟩
  · have h1 : (T.lit 1).den X.E = 1 := rfl
    refine ⟨by rw [h1]; decide, fun _ => ⟨cs, ty, (0, 0), ho, fun _ => ⟨?_, rfl, rfl⟩, rfl, ?_, ?_⟩⟩
    · exact (Nat.mul_div_cancel_left ty (by decide : 0 < 2)).symm
    · rw [h1, hs]; show 0 + 1 * wid cols ≤ wid cols; omega
    · have : cs.extract 0 cs.size = cs := by simp
      show Cells X.E 1 cols (cs.extract 0 cs.size)
      rw [this]; exact hc
/-- A new block of which nothing is known. -/
def evNewD (st : St) : OpR := ⟨.a (.c (.ptr st.m.length 0)), st.m ++ [.dead], []⟩
theorem evNewD_ok [Fs] (h : Rel X ρ st a w) {ty : TypeId} {cs : Array Value}
    (hrun : (execOp a.eval o).run P w = .ok (.value (.pointer (some ⟨w.heap.size, 0, none⟩))) (w.alloc (.cells cs ty))) : OpOk P X ρ st a w o (evNewD st) := fun _ =>
  ⟨_, _, upd ρ st.m.length ⟨w.heap.size, cs.size, 0⟩, .inl hrun, by simp only [evNewD, Lr, Ar, Cr, upd_same]; exact ⟨by simp, trivial⟩, h.mr.allocB (fun _ _ _ _ _ _ => trivial), fun i hi => upd_ne _ _ (Nat.ne_of_lt hi), by simp [evNewD]⟩
def A.isDead : A → Bool
  | .dead => true
  | _ => false
def A.colsOf : A → Option (List Col)
  | .rows cols => some cols
  | _ => none
def evBox (st : St) (e : TypeId) (x : Operand) : Option OpR := match cellsOf (opA st x) with
  | some xs => some (evNew st e xs)
  | none => match (opA st x).colsOf with
    | some cols => some (evNewR st e cols)
    | none => bif (opA st x).isDead then some (evNewD st) else none
theorem evBox_ok [Fs] (h : Rel X ρ st a w) {e : TypeId} {x : Operand} (ho : o.op = .box e x) {r : OpR} (hr : evBox st e x = some r) : OpOk P X ρ st a w o r := by
  unfold evBox at hr
  cases hz : cellsOf (opA st x) with
  | none =>
    simp only [hz] at hr
    split at hr
    · rename_i cols hcols
      cases hr
      have hA := opA_ok h.toSRel x
      have e1 : opA st x = .rows cols := by
        cases hq : opA st x with
        | rows c => rw [hq] at hcols; cases hcols; rfl
        | c y => rw [hq] at hcols; cases hcols
        | agg ys => rw [hq] at hcols; cases hcols
        | dead => rw [hq] at hcols; cases hcols
      rw [e1] at hA
      obtain ⟨cs, h1, h2, h3⟩ := hA
      refine evNewR_ok h (ty := e) h2 h3 ?_
      simp [execOp, ho, Instr.box, newVar, newRow, h1, Value.cells]
    cases hd : (opA st x).isDead <;> simp only [hd, cond_true, cond_false] at hr
    · cases hr
    · cases hr
      refine evNewD_ok h (ty := e) (cs := (a.eval x).cells) ?_
      simp [execOp, ho, Instr.box, newVar, newRow]
  | some xs =>
    simp [hz] at hr
    subst hr
    refine evNew_ok h (cellsOf_ok hz (opA_ok h.toSRel x)) ?_
    simp [execOp, ho, Instr.box, newVar, newRow]

/-! reading -/
/-- The one of a list that a number tells. -/
def selC (ix : T) : Nat → List C → Option C
  | _, [] => none
  | _, [x] => match x with
    | .int k t => some (.int k t)
    | .bool t => some (.bool t)
    | _ => none
  | j, x :: y :: rest => match x, selC ix (j + 1) (y :: rest) with
    | .int k t, some (.int k' u) => if k = k' then some (.int k (mkIte (mk2 .eq ix (.lit j)) t u)) else none
    | .bool t, some (.bool u) => some (.bool (mkIte (mk2 .eq ix (.lit j)) t u))
    | _, _ => none
theorem selC_ok [Fs] {E : Env} {n : Nat} {ix : T} : ∀ {xs : List C} {j : Nat} {z : C}, selC ix j xs = some z → ∀ (i : Nat) (x : C) (v : Value), xs[i]? = some x → ix.den E = (j + i : Nat) → Cr E ρ n x v → Cr E ρ n z v := by
  intro xs
  induction xs with
  | nil => intro j z hz; simp [selC] at hz
  | cons x rest ih =>
    intro j z hz i y v hy hix hv
    cases rest with
    | nil =>
      have : y = x := by
        cases i with
        | zero => simpa using hy.symm
        | succ i => simp at hy
      subst this
      cases y <;> simp only [selC] at hz <;> first | (cases hz; done) | (cases hz; exact hv)
    | cons y' rest =>
      have hq : (mk2 .eq ix (.lit j)).tr E = (ix.den E == (j : Int)) := by
        simp only [T.tr, mk2_den, O2.den, tb_ne, T.den]
      simp only [selC] at hz
      split at hz
      · rename_i k t k' u hs
        split at hz
        · rename_i hk
          subst hk; cases hz
          simp only [Cr, den_ite, hq]
          cases i with
          | zero => simp at hy; subst hy; simp [hix]; exact hv
          | succ i =>
            have : (ix.den E == (j : Int)) = false := by rw [beq_eq_false_iff_ne, hix]; omega
            rw [this]; simp
            exact ih hs i y v (by simpa using hy) (by rw [hix]; congr 1; omega) hv
        · cases hz
      · rename_i t u hs
        cases hz
        simp only [Cr, tr_ite, hq]
        cases i with
        | zero => simp at hy; subst hy; simp [hix]; exact hv
        | succ i =>
          have : (ix.den E == (j : Int)) = false := by rw [beq_eq_false_iff_ne, hix]; omega
          rw [this]; simp
          exact ih hs i y v (by simpa using hy) (by rw [hix]; congr 1; omega) hv
      · cases hz
def getAll (xs : List C) : List Nat → Option (List C)
  | [] => some []
  | i :: is => match xs[i]? with
    | some x => (getAll xs is).map (x :: ·)
    | none => none
theorem getAll_ok [Fs] {xs : List C} : ∀ {is : List Nat} {ys : List C}, getAll xs is = some ys → ys.length = is.length ∧ ∀ (j i : Nat), is[j]? = some i → ∃ y, xs[i]? = some y ∧ ys[j]? = some y := by
  intro is
  induction is with
  | nil => intro ys h; cases h; exact ⟨rfl, fun j i hj => by simp at hj⟩
  | cons i0 is ih =>
    intro ys h
    simp only [getAll] at h
    split at h
    · rename_i x hx
      cases hg : getAll xs is with
      | none => simp [hg] at h
      | some ys' =>
        simp [hg] at h
        subst h
        obtain ⟨h1, h2⟩ := ih hg
        refine ⟨by simp [h1], fun j i hj => ?_⟩
        cases j with
        | zero => simp at hj; subst hj; exact ⟨x, hx, rfl⟩
        | succ j => simp at hj; obtain ⟨y, h3, h4⟩ := h2 j i hj; exact ⟨y, h3, by simpa using h4⟩
    · cases h
/-- Cell 'p + ix * sz' of a block, ix below cnt. -/
def rdI (xs : List C) (p : Nat) (ix : T) (sz cnt : Nat) : Option C := match getAll xs ((List.range cnt).map fun i => p + i * sz) with
  | some ys => selC ix 0 ys
  | none => none
theorem rdI_ok [Fs] {E : Env} {n : Nat} {xs : List C} {cs : Array Value} {p : Nat} {ix : T} {sz cnt : Nat} {z : C} (hz : rdI xs p ix sz cnt = some z) (hx : F2p (Cr E ρ n) xs cs) (h0 : 0 ≤ ix.den E) (h1 : ix.den E < cnt) :
    ∃ v, cs[p + (ix.den E).toNat * sz]? = some v ∧ Cr E ρ n z v := by
  unfold rdI at hz
  split at hz
  · rename_i ys hys
    obtain ⟨h2, h3⟩ := getAll_ok hys
    obtain ⟨y, h4, h5⟩ := h3 (ix.den E).toNat (p + (ix.den E).toNat * sz) (by
      rw [List.getElem?_map, List.getElem?_range (by omega)]; rfl)
    obtain ⟨v, h6, h7⟩ := hx.2 _ _ h4
    exact ⟨v, h6, selC_ok hz _ _ _ h5 (by omega) h7⟩
  · cases hz

end ops
end Go.Sy
