/- Part 8 of a checked reader of Go texts in their model form: it runs a function at terms in the place of numbers, and each part proves that its answers hold of the model. -/
import Derived.Test.YtddfbikeaipepaaHy7
import Derived.ChangeKeysEq
namespace Go.Sy
section ops
variable {P : Program} {X : Cx} {ρ : Nat → Rb} {st : St} {a : Act} {w : World} {o : Oper}

def evUn (st : St) (op : UnOp) (x : Operand) : Option OpR :=
  match op, opC st x with
  | .not, some (.bool t) => some ⟨.a (.c (.bool (norm st.pc (mkNot t)))), st.m, []⟩
  | .neg, some (.int k t) => some ⟨.a (.c (.int k (mkW st.pc k (mk2 .sub (.lit 0) t)))), st.m, []⟩
  | .xor, some (.int k t) => some ⟨.a (.c (.int k (mk2 (.bxor k) (.lit (bif ksig k then -1 else kmax k)) t))), st.m, []⟩
  | _, _ => none
theorem tr_mkNot [Fs] (E : Env) (t : T) : (mkNot t).tr E = !(t.tr E) := by
  simp only [T.tr, mkNot_den, tb_ne]; cases h : t.den E == 0 <;> simp [bne, h]
theorem evUn_ok [Fs] (h : SRel X ρ st a) {op : UnOp} {t : TypeId} {x : Operand} (ho : o.op = .unOp op t x) {r : OpR} (hr : evUn st op x = some r) : OpQ P X ρ st a o r := by
  unfold evUn at hr
  split at hr
  · rename_i t' hx
    cases hr
    have hv := opC_ok h hx
    simp only [Cr] at hv
    exact OpQ.pure (v := .bool !(t'.tr X.E)) fun w _ => ⟨by simp [execOp, ho, hv, Op.unary], by simp only [Lr, Ar, Cr, norm_tr h.pc, tr_mkNot]⟩
  · rename_i k t' hx
    cases hr
    have hv := opC_ok h hx
    simp only [Cr] at hv
    refine OpQ.pure (v := .int k (k.wrap (0 - t'.den X.E))) fun w _ => ⟨?_, by simp only [Lr, Ar, Cr, mkW_den h.pc, mk2_den, O2.den, T.den]⟩
    have hu : ∀ w, (Op.unary .neg (.int k (t'.den X.E))).run P w = .ok (.int k (k.wrap (0 - t'.den X.E))) w := fun _ => rfl
    simp only [execOp, ho, hv, Sem.run_bind, hu]; rfl
  · rename_i k t' hx
    cases hr
    have hv := opC_ok h hx
    simp only [Cr] at hv
    have e : (bif ksig k then -1 else kmax k) = (if k.signed then -1 else k.max) := by rw [kmax_eq]; cases k <;> rfl
    refine OpQ.pure (v := .int k ((O2.bxor k).den (if k.signed then -1 else k.max) (t'.den X.E))) fun w _ => ⟨?_, by simp only [Lr, Ar, Cr, mk2_den, T.den, e]⟩
    have hu : ∀ w, (Op.unary .xor (.int k (t'.den X.E))).run P w = .ok (.int k ((O2.bxor k).den (if k.signed then -1 else k.max) (t'.den X.E))) w := fun _ => rfl
    simp only [execOp, ho, hv, Sem.run_bind, hu]; rfl
  · cases hr

def evConv (P : Program) (st : St) (src dst : TypeId) (x : Operand) : Option OpR :=
  match P.underlying src, P.underlying dst, opC st x with
  | some _, some (.int k), some (.int _ t) => some ⟨.a (.c (.int k (mkW st.pc k t))), st.m, []⟩
  | _, _, _ => none
theorem evConv_ok [Fs] (h : SRel X ρ st a) {src dst : TypeId} {x : Operand} (ho : o.op = .convert src dst x) {r : OpR} (hr : evConv P st src dst x = some r) : OpQ P X ρ st a o r := by
  unfold evConv at hr
  split at hr
  · rename_i d k k' t h1 h2 hx
    cases hr
    have hv := opC_ok h hx
    simp only [Cr] at hv
    exact OpQ.pure fun w _ => ⟨by simp [execOp, ho, hv, convert, run_underlying h1, run_underlying h2, Conv.intToInt]; rfl, by simp only [Lr, Ar, Cr, mkW_den h.pc]⟩
  · cases hr

def evExtract (st : St) (x : Operand) (i : Nat) : Option OpR :=
  match opd st x with
  | .tup xs => match xs[i]? with
    | some y => some ⟨.a y, st.m, []⟩
    | none => none
  | _ => none
theorem evExtract_ok [Fs] (h : SRel X ρ st a) {x : Operand} {i : Nat} (ho : o.op = .extract x i) {r : OpR} (hr : evExtract st x i = some r) : OpQ P X ρ st a o r := by
  unfold evExtract at hr
  split at hr
  · rename_i xs hx
    have := opd_ok h x
    rw [hx] at this
    obtain ⟨cs, hv, hcs⟩ := this
    split at hr
    · rename_i y hy
      cases hr
      obtain ⟨v, h1, h2⟩ := hcs.2 _ _ hy
      exact OpQ.pure (v := v) fun w _ => ⟨by simp [execOp, ho, hv, Instr.extract, h1], h2⟩
    · cases hr
  · cases hr

/-! parts of aggregates -/
def partA (P : Program) (t : TypeId) (xs : List C) (off : Nat) : Option A :=
  match isAggT P t with
  | some true => match sizeT P t with
    | some n => some (.agg ((xs.drop off).take n))
    | none => none
  | some false => match xs[off]? with
    | some x => some (.c x)
    | none => none
  | none => none
theorem partA_ok [Fs] {E : Env} {n : Nat} {t : TypeId} {xs : List C} {cs : Array Value} {off : Nat} {x : A} (hx : partA P t xs off = some x) (h : F2 (Cr E ρ n) xs cs) :
    ∃ v, (∀ w, (part t cs off).run P w = .ok v w) ∧ Ar E ρ n x v := by
  unfold partA at hx
  split at hx
  · rename_i ha
    split at hx
    · rename_i k hs
      cases hx
      exact ⟨.agg (cs.extract off (off + k)), fun w => by simp [part, run_isAggT ha, run_sizeT hs], _, rfl, h.extract off k⟩
    · cases hx
  · rename_i ha
    split at hx
    · rename_i y hy
      cases hx
      obtain ⟨v, h1, h2⟩ := h.2 _ _ hy
      exact ⟨v, fun w => by simp [part, run_isAggT ha, h1], h2⟩
    · cases hx
  · cases hx

def evFieldV (P : Program) (st : St) (t : TypeId) (x : Operand) (f : Nat) : Option OpR :=
  match P.underlying t with
  | some (.struct fs) => match fs[f]? with
    | some fd => match opA st x with
      | .agg xs => (partA P fd.type xs fd.offset).map fun y => ⟨.a y, st.m, []⟩
      | _ => none
    | none => none
  | _ => none
theorem evFieldV_ok [Fs] (h : SRel X ρ st a) {t : TypeId} {x : Operand} {f : Nat} (ho : o.op = .field t x f) {r : OpR} (hr : evFieldV P st t x f = some r) : OpQ P X ρ st a o r := by
  unfold evFieldV at hr
  split at hr
  · rename_i fs hu
    split at hr
    · rename_i fd hf
      split at hr
      · rename_i xs hx
        have := opA_ok h x
        rw [hx] at this
        obtain ⟨cs, hv, hcs⟩ := this
        rw [Option.map_eq_some_iff] at hr
        obtain ⟨y, hy, rfl⟩ := hr
        obtain ⟨v, h1, h2⟩ := partA_ok hy hcs
        exact OpQ.pure (v := v) fun w _ => ⟨by simp [execOp, ho, hv, Instr.field, run_underlying hu, hf, asAgg, h1], h2⟩
      · cases hr
    · cases hr
  · cases hr

/-! aggregates made -/
def ovl : List C → Nat → List C → List C
  | xs, _, [] => xs
  | xs, off, y :: ys => ovl (xs.set off y) (off + 1) ys
theorem ovl_ok [Fs] {E : Env} {n : Nat} {off : Nat} : ∀ {ys : List C} {vs : List Value} {k : Nat} {xs : List C} {cs : Array Value}, vs.length = ys.length → (∀ (i : Nat) (y : C), ys[i]? = some y → ∃ v, vs[i]? = some v ∧ Cr E ρ n y v) → F2 (Cr E ρ n) xs cs →
    F2 (Cr E ρ n) (ovl xs (off + k) ys) ((vs.zipIdx k).foldl (fun cs (c, j) => cs.setIfInBounds (off + j) c) cs) := by
  intro ys
  induction ys with
  | nil => intro vs k xs cs hl _ hx; cases vs with
    | nil => exact hx
    | cons v vs => simp at hl
  | cons y ys ih =>
    intro vs k xs cs hl hy hx
    cases vs with
    | nil => simp at hl
    | cons v vs =>
      obtain ⟨v', h1, h2⟩ := hy 0 y rfl
      simp at h1; subst h1
      simp only [ovl, List.zipIdx_cons, List.foldl_cons]
      exact ih (k := k + 1) (by simpa using hl) (fun i z hz => by simpa using hy (i + 1) z (by simpa using hz)) (hx.set (off + k) h2)
def fillC (place : Nat → Option (Nat × Nat)) (xs : List C) : List (Nat × List C) → Option (List C)
  | [] => some xs
  | (i, ys) :: rest => match place i with
    | none => none
    | some (off, size) => bif ys.length == size && Nat.ble (off + size) xs.length then fillC place (ovl xs off ys) rest else none
theorem ovl_length [Fs] (ys : List C) : ∀ (xs : List C) (off : Nat), (ovl xs off ys).length = xs.length := by
  induction ys with
  | nil => intro xs off; rfl
  | cons y ys ih => intro xs off; simp only [ovl]; rw [ih]; simp
/-- Parts as they are meant. -/
def partsR (E : Env) (ρ : Nat → Rb) (n : Nat) : List (Nat × List C) → List (Nat × Value) → Prop
  | [], [] => True
  | (i, ys) :: ps, (j, v) :: qs => i = j ∧ F2 (Cr E ρ n) ys v.cells ∧ partsR E ρ n ps qs
  | _, _ => False
theorem fillC_ok [Fs] {E : Env} {n : Nat} {place : Nat → Option (Nat × Nat)} : ∀ {ps : List (Nat × List C)} {qs : List (Nat × Value)} {xs : List C} {cs : Array Value} {zs : List C}, fillC place xs ps = some zs → partsR E ρ n ps qs → F2 (Cr E ρ n) xs cs →
    ∃ ds, Instr.fill place cs qs = some ds ∧ F2 (Cr E ρ n) zs ds := by
  intro ps
  induction ps with
  | nil => intro qs xs cs zs h hp hx; cases qs with
    | nil => cases h; exact ⟨cs, rfl, hx⟩
    | cons q qs => exact hp.elim
  | cons p ps ih =>
    intro qs xs cs zs h hp hx
    cases qs with
    | nil => exact hp.elim
    | cons q qs =>
      obtain ⟨i, ys⟩ := p
      obtain ⟨j, v⟩ := q
      obtain ⟨rfl, hy, hp'⟩ := hp
      simp only [fillC] at h
      simp only [Instr.fill]
      split at h
      · cases h
      · rename_i off size hpl
        rw [hpl]
        cases hc : ys.length == size && Nat.ble (off + size) xs.length <;> simp only [hc, cond_true, cond_false] at h
        · cases h
        · rw [Bool.and_eq_true, beq_iff_eq, Nat.ble_eq] at hc
          have hs : v.cells.size = size := by rw [hy.1]; exact hc.1
          have : (v.cells.size ≠ size || off + v.cells.size > cs.size) = false := by
            simp [hs, hx.1]; omega
          simp only [this, Bool.false_eq_true, if_false]
          refine ih h hp' ?_
          have := ovl_ok (off := off) (k := 0) (ys := ys) (vs := v.cells.toList) (by simpa using hy.1) (fun i y hy' => by simpa using hy.2 i y hy') hx
          rw [Nat.add_zero] at this
          rw [← Array.foldl_toList, Array.toList_zipIdx]
          exact this
def cellsAll (st : St) : List (Nat × Operand) → Option (List (Nat × List C))
  | [] => some []
  | (i, x) :: rest => match cellsOf (opA st x), cellsAll st rest with
    | some ys, some r => some ((i, ys) :: r)
    | _, _ => none
theorem cellsAll_ok [Fs] (h : SRel X ρ st a) : ∀ {ps : List (Nat × Operand)} {qs : List (Nat × List C)}, cellsAll st ps = some qs → partsR X.E ρ st.m.length qs (ps.map fun (i, x) => (i, a.eval x)) := by
  intro ps
  induction ps with
  | nil => intro qs hq; cases hq; trivial
  | cons p ps ih =>
    intro qs hq
    obtain ⟨i, x⟩ := p
    simp only [cellsAll] at hq
    split at hq
    · rename_i ys r h1 h2
      cases hq
      exact ⟨rfl, cellsOf_ok h1 (opA_ok h x), ih h2⟩
    · cases hq
def placesOf (P : Program) (t : TypeId) : Option (Nat → Option (Nat × Nat)) :=
  match P.underlying t with
  | some (.array _ e) => match P.info? e with
    | some ie => some fun i => some (i * ie.size, ie.size)
    | none => none
  | some (.struct fs) => match fs.toList.mapM (fun f => (P.info? f.type).map fun i => (f.offset, i.size)) with
    | some places => some fun i => places.toArray[i]?
    | none => none
  | _ => none
def zeroOf' (P : Program) (e : TypeId) : Option (List C) := zeroOf P e
theorem zeroOf_info [Fs] {e : TypeId} {xs : List C} (h : zeroOf P e = some xs) : ∃ i z, P.info? e = some i ∧ i.zero = some z ∧ ∀ (E : Env) (ρ : Nat → Rb) (n : Nat), F2 (Cr E ρ n) xs z.cells := by
  unfold zeroOf at h
  split at h
  · rename_i i hi
    split at h
    · rename_i z hz
      cases hc : z.cells.toList.all (·.oneCell') <;> simp only [hc, cond_true, cond_false] at h
      · cases h
      · cases h
        exact ⟨i, z, hi, hz, fun E ρ n => constCs_ok hc⟩
    · cases h
  · cases h
/-- Too many cells to be told. -/
def isBig (P : Program) (t : TypeId) : Bool := match P.info? t with
  | some i => Nat.blt 1000 i.size && i.zero.isSome
  | none => false
def evBuild (P : Program) (st : St) (t : TypeId) (ps : Array (Nat × Operand)) : Option OpR :=
  bif ps.toList.isEmpty && isBig P t then (placesOf P t).map fun _ => ⟨.a .dead, st.m, []⟩ else
  match zeroOf P t, placesOf P t, cellsAll st ps.toList with
  | some z, some pl, some qs => (fillC pl z qs).map fun xs => ⟨.a (.agg xs), st.m, []⟩
  | _, _, _ => none
theorem evBuild_ok [Fs] (h : SRel X ρ st a) {t : TypeId} {ps : Array (Nat × Operand)} (ho : o.op = .build t ps) {r : OpR} (hr : evBuild P st t ps = some r) : OpQ P X ρ st a o r := by
  unfold evBuild at hr
  cases hbig : ps.toList.isEmpty && isBig P t <;> simp only [hbig, cond_true, cond_false] at hr
  case true =>
    rw [Bool.and_eq_true] at hbig
    obtain ⟨hb1, hb2⟩ := hbig
    obtain rfl : ps = #[] := by
      have := List.isEmpty_iff.1 hb1
      exact Array.toList_inj.1 this
    rw [Option.map_eq_some_iff] at hr
    obtain ⟨pl, hpl, rfl⟩ := hr
    unfold isBig at hb2
    split at hb2
    · rename_i i hi
      rw [Bool.and_eq_true] at hb2
      obtain ⟨zv, hzv⟩ := Option.isSome_iff_exists.1 hb2.2
      have hb : ∃ ds, P.built t ((#[] : Array (Nat × Operand)).map fun (i, x) => (i, a.eval x)).toList = some ds := by
        unfold placesOf at hpl
        unfold Program.built
        rw [hi]
        split at hpl
        · rename_i n e hu
          split at hpl
          · rename_i ie hie
            simp only [hu, hzv, hie]
            exact ⟨zv.cells, by simp [Instr.fill]⟩
          · cases hpl
        · rename_i fs hu
          split at hpl
          · rename_i places hpm
            simp only [hu, hzv, hpm]
            exact ⟨zv.cells, by simp [Instr.fill]⟩
          · cases hpl
        · cases hpl
      obtain ⟨ds, hb⟩ := hb
      have hrun := fun w => run_build (P := P) w t ((#[] : Array (Nat × Operand)).map fun (i, x) => (i, a.eval x)) ds hb
      exact OpQ.pure (v := .agg ds) fun w _ => ⟨by simp only [execOp, ho, Sem.run_bind, hrun]; rfl, trivial⟩
    · cases hb2
  split at hr
  · rename_i z pl qs hz hpl hq
    rw [Option.map_eq_some_iff] at hr
    obtain ⟨xs, hf, rfl⟩ := hr
    obtain ⟨i, zv, hi, hzv, hz2⟩ := zeroOf_info hz
    obtain ⟨ds, h1, h2⟩ := fillC_ok hf (cellsAll_ok h hq) (hz2 X.E ρ st.m.length)
    have hb : P.built t (ps.map fun (i, x) => (i, a.eval x)).toList = some ds := by
      rw [Array.toList_map]
      unfold placesOf at hpl
      unfold Program.built
      rw [hi]
      split at hpl
      · rename_i n e hu
        split at hpl
        · rename_i ie hie
          cases hpl
          simp only [hu, hzv, hie]; exact h1
        · cases hpl
      · rename_i fs hu
        split at hpl
        · rename_i places hpm
          cases hpl
          simp only [hu, hzv, hpm]; exact h1
        · cases hpl
      · cases hpl
    have hrun := fun w => run_build (P := P) w t (ps.map fun (i, x) => (i, a.eval x)) ds hb
    exact OpQ.pure (v := .agg ds) fun w _ => ⟨by simp only [execOp, ho, Sem.run_bind, hrun]; rfl, ds, rfl, h2⟩
  · cases hr

/-! aggregates held against each other -/
def eqFs (P : Program) (r : TypeId → A → A → Option T) (xs ys : List C) : List Field → Option T
  | [] => some (.lit 1)
  | f :: fs => bif f.name == "_" then eqFs P r xs ys fs else
    match partA P f.type xs f.offset, partA P f.type ys f.offset with
    | some x, some y => match r f.type x y, eqFs P r xs ys fs with
      | some t, some u => some (mk2 .and (tbT t) (tbT u))
      | _, _ => none
    | _, _ => none
def eqIs (P : Program) (r : TypeId → A → A → Option T) (e : TypeId) (c : Nat) (xs ys : List C) : List Nat → Option T
  | [] => some (.lit 1)
  | i :: is =>
    match partA P e xs (i * c), partA P e ys (i * c) with
    | some x, some y => match r e x y, eqIs P r e c xs ys is with
      | some t, some u => some (mk2 .and (tbT t) (tbT u))
      | _, _ => none
    | _, _ => none
def eqA (P : Program) : Nat → TypeId → A → A → Option T
  | 0, _, _, _ => none
  | d + 1, t, x, y => match P.underlying t, x, y with
    | some (.int _), .c (.int k s), .c (.int k' u) => if k = k' then some (mk2 .eq s u) else none
    | some .bool, .c (.bool s), .c (.bool u) => some (mk2 .eq (tbT s) (tbT u))
    | some (.struct fs), .agg xs, .agg ys => bif P.stoodInHeld t then none else eqFs P (eqA P d) xs ys fs.toList
    | some (.array n e), .agg xs, .agg ys => match P.info? e with
      | some _ => eqIs P (eqA P d) e (P.cellsOf e) xs ys (List.range n)
      | none => none
    | some (.pointer _), .c .nilp, .c .nilp => some (.lit 1)
    | _, _, _ => none
theorem tr_and2 [Fs] (E : Env) (s t : T) : (mk2 .and (tbT s) (tbT t)).tr E = (s.tr E && t.tr E) := by
  simp only [T.tr, mk2_den, O2.den, tb_ne, tbT_den]
theorem eqA_ok [Fs] {E : Env} {n : Nat} : ∀ {d : Nat} {t : TypeId} {x y : A} {τ : T}, eqA P d t x y = some τ → ∀ (D : Nat), d ≤ D → ∀ (u v : Value) (w : World), Ar E ρ n x u → Ar E ρ n y v → (Op.equalIn D t u v).run P w = .ok (τ.tr E) w := by
  intro d
  induction d with
  | zero => intro t x y τ h; simp [eqA] at h
  | succ d ih =>
    intro t x y τ h D hD u v w hu hv
    cases D with
    | zero => omega
    | succ D =>
      have hD' : d ≤ D := by omega
      simp only [eqA] at h
      split at h
      · rename_i k0 k s k' u' ht
        split at h
        · rename_i hk
          subst hk; cases h
          simp only [Ar, Cr] at hu hv
          rw [hu, hv, run_equalIn_int w D t k k0 _ _ ht, tr_eq2]
        · cases h
      · rename_i s u' ht
        cases h
        simp only [Ar, Cr] at hu hv
        rw [hu, hv, run_equalIn_bool' w D t _ _ ht]
        congr 1
        simp only [T.tr, mk2_den, O2.den, tb_ne, tbT_den]
        cases (s.den E != 0) <;> cases (u'.den E != 0) <;> rfl
      · rename_i fs xs ys ht
        cases hst : P.stoodInHeld t <;> simp only [hst, cond_true, cond_false] at h
        · obtain ⟨cs, rfl, hcs⟩ := hu
          obtain ⟨ds, rfl, hds⟩ := hv
          have hfo : P.fieldsOf t = fs := by simp [Program.fieldsOf, ht]
          rw [run_equalIn_struct w D t cs ds (by rw [hfo]; exact ht) hst, hfo]
          generalize fs.toList = l at h
          clear ht hfo
          induction l generalizing τ w with
          | nil => cases h; simp [Op.eqFields, T.tr, T.den]
          | cons f l ihl =>
            simp only [eqFs] at h
            simp only [Op.eqFields]
            cases hn : f.name == "_" <;> simp only [hn, cond_true, cond_false] at h
            · rw [beq_eq_false_iff_ne] at hn
              rw [if_pos hn]
              split at h
              · rename_i x' y' hx' hy'
                split at h
                · rename_i t' u' h1 h2
                  cases h
                  obtain ⟨v1, p1, p2⟩ := partA_ok hx' hcs
                  obtain ⟨v2, q1, q2⟩ := partA_ok hy' hds
                  have he := ih h1 D hD' v1 v2 w p2 q2
                  simp only [Sem.run_bind, p1, q1, he, Result.andThen_ok, tr_and2]
                  cases t'.tr E
                  · simp
                  · simp; exact ihl w h2
                · cases h
              · cases h
            · rw [beq_iff_eq] at hn
              rw [if_neg (by simp [hn])]
              exact ihl w h
        · cases h
      · rename_i m e xs ys ht
        obtain ⟨cs, rfl, hcs⟩ := hu
        obtain ⟨ds, rfl, hds⟩ := hv
        split at h
        · rename_i i hi
          rw [run_equalIn_array w D cs ds ht hi]
          generalize List.range m = l at h
          induction l generalizing τ w with
          | nil => simp [eqIs] at h; subst h; simp [Op.eqItems, T.tr, T.den]
          | cons j l ihl =>
            simp only [eqIs] at h
            simp only [Op.eqItems]
            split at h
            · rename_i x' y' hx' hy'
              split at h
              · rename_i t' u' h1 h2
                cases h
                obtain ⟨v1, p1, p2⟩ := partA_ok hx' hcs
                obtain ⟨v2, q1, q2⟩ := partA_ok hy' hds
                have he := ih h1 D hD' v1 v2 w p2 q2
                simp only [Sem.run_bind, p1, q1, he, Result.andThen_ok, tr_and2]
                cases t'.tr E
                · simp
                · simp; exact ihl w h2
              · cases h
            · cases h
        · cases h
      · rename_i e ht
        cases h
        simp only [Ar, Cr] at hu hv
        rw [hu, hv, run_eqP1 ht]; rfl
      · cases h

end ops
end Go.Sy
