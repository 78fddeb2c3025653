/- Part 8 of a checked reader of Go texts in their model form: it runs a function at terms in the place of numbers, and each part proves that its answers hold of the model. -/
import Derived.Test.YtpjmhngcdbpmpaaLy7
import Derived.ChangeKeysEq
namespace Go.Sy
section ops
variable {P : Program} {X : Cx} {ρ : Nat → Rb} {st : St} {a : Act} {w : World} {o : Oper}

def evUn (st : St) (op : UnOp) (x : Operand) : Option OpR :=
  match op, opC st x with
  | .not, some (.bool t) => some ⟨.a (.c (.bool (norm st.pc (mkNot t)))), st.m, []⟩
  | .neg, some (.int k t) => some ⟨.a (.c (.int k (mkW st.pc k (mk2 .sub (.lit 0) t)))), st.m, []⟩
  | .xor, some (.int k t) => some ⟨.a (.c (.int k (mk2 (.bxor k) (.lit (bif ksig k then -1 else kmax k)) t))), st.m, []⟩
  | _, _ => none
theorem tr_mkNot [Fs] (E : Env) (t : T) : (mkNot t).tr E = !(t.tr E) := by
  simp only [T.tr, mkNot_den, tb_ne]; cases h : t.den E == 0 <;> simp [bne, h]
theorem evUn_ok [Fs] (h : SRel X ρ st a) {op : UnOp} {t : TypeId} {x : Operand} (ho : o.op = .unOp op t x) {r : OpR} (hr : evUn st op x = some r) : OpQ P X ρ st a o r := by
  unfold evUn at hr
  split at hr
  · rename_i t' hx
    cases hr
    have hv := opC_ok h hx
    simp only [Cr] at hv
    exact OpQ.pure (v := .bool !(t'.tr X.E)) fun w _ => ⟨by simp [execOp, ho, hv, Op.unary], by simp only [Lr, Ar, Cr, norm_tr h.pc, tr_mkNot]⟩
  · rename_i k t' hx
    cases hr
    have hv := opC_ok h hx
    simp only [Cr] at hv
    refine OpQ.pure (v := .int k (k.wrap (0 - t'.den X.E))) fun w _ => ⟨?_, by simp only [Lr, Ar, Cr, mkW_den h.pc, mk2_den, O2.den, T.den]⟩
    have hu : ∀ w, (Op.unary .neg (.int k (t'.den X.E))).run P w = .ok (.int k (k.wrap (0 - t'.den X.E))) w := fun _ => rfl
    simp only [execOp, ho, hv, Sem.run_bind, hu]; rfl
  · rename_i k t' hx
    cases hr
    have hv := opC_ok h hx
    simp only [Cr] at hv
    have e : (bif ksig k then -1 else kmax k) = (if k.signed then -1 else k.max) := by rw [kmax_eq]; cases k <;> rfl
    refine OpQ.pure (v := .int k ((O2.bxor k).den (if k.signed then -1 else k.max) (t'.den X.E))) fun w _ => ⟨?_, by simp only [Lr, Ar, Cr, mk2_den, T.den, e]⟩
    have hu : ∀ w, (Op.unary .xor (.int k (t'.den X.E))).run P w = .ok (.int k ((O2.bxor k).den (if k.signed then -1 else k.max) (t'.den X.E))) w := fun _ => rfl
    simp only [execOp, ho, hv, Sem.run_bind, hu]; rfl
  · cases hr

def evConv (P : Program) (st : St) (src dst : TypeId) (x : Operand) : Option OpR :=
  match P.underlying src, P.underlying dst, opC st x with
  | some _, some (.int k), some (.int _ t) => some ⟨.a (.c (.int k (cvT st.pc k t))), st.m, []⟩
  | _, _, _ => none
theorem evConv_ok [Fs] (h : SRel X ρ st a) {src dst : TypeId} {x : Operand} (ho : o.op = .convert src dst x) {r : OpR} (hr : evConv P st src dst x = some r) : OpQ P X ρ st a o r := by
  unfold evConv at hr
  split at hr
  · rename_i d k k' t h1 h2 hx
    cases hr
    have hv := opC_ok h hx
    simp only [Cr] at hv
    exact OpQ.pure fun w _ => ⟨by simp [execOp, ho, hv, convert, run_underlying h1, run_underlying h2, Conv.intToInt]; rfl, by simp only [Lr, Ar, Cr, cvT_den h.pc]⟩
  · cases hr

def evExtract (st : St) (x : Operand) (i : Nat) : Option OpR :=
  match opd st x with
  | .tup xs => match xs[i]? with
    | some y => some ⟨.a y, st.m, []⟩
    | none => none
  | _ => none
theorem evExtract_ok [Fs] (h : SRel X ρ st a) {x : Operand} {i : Nat} (ho : o.op = .extract x i) {r : OpR} (hr : evExtract st x i = some r) : OpQ P X ρ st a o r := by
  unfold evExtract at hr
  split at hr
  · rename_i xs hx
    have := opd_ok h x
    rw [hx] at this
    obtain ⟨cs, hv, hcs⟩ := this
    split at hr
    · rename_i y hy
      cases hr
      obtain ⟨v, h1, h2⟩ := hcs.2 _ _ hy
      exact OpQ.pure (v := v) fun w _ => ⟨by simp [execOp, ho, hv, Instr.extract, h1], h2⟩
    · cases hr
  · cases hr

/-! parts of aggregates -/
def partA (P : Program) (t : TypeId) (xs : List C) (off : Nat) : Option A :=
  match isAggT P t with
  | some true => match sizeT P t with
    | some n => some (.agg ((xs.drop off).take n))
    | none => none
  | some false => match xs[off]? with
    | some x => some (.c x)
    | none => none
  | none => none
theorem partA_ok [Fs] {E : Env} {n : Nat} {t : TypeId} {xs : List C} {cs : Array Value} {off : Nat} {x : A} (hx : partA P t xs off = some x) (h : F2 (Cr E ρ n) xs cs) :
    ∃ v, (∀ w, (part t cs off).run P w = .ok v w) ∧ Ar E ρ n x v := by
  unfold partA at hx
  split at hx
  · rename_i ha
    split at hx
    · rename_i k hs
      cases hx
      exact ⟨.agg (cs.extract off (off + k)), fun w => by simp [part, run_isAggT ha, run_sizeT hs], _, rfl, h.extract off k⟩
    · cases hx
  · rename_i ha
    split at hx
    · rename_i y hy
      cases hx
      obtain ⟨v, h1, h2⟩ := h.2 _ _ hy
      exact ⟨v, fun w => by simp [part, run_isAggT ha, h1], h2⟩
    · cases hx
  · cases hx

def evFieldV (P : Program) (st : St) (t : TypeId) (x : Operand) (f : Nat) : Option OpR :=
  match P.underlying t with
  | some (.struct fs) => match fs[f]? with
    | some fd => match opA st x with
      | .agg xs => (partA P fd.type xs fd.offset).map fun y => ⟨.a y, st.m, []⟩
      | _ => none
    | none => none
  | _ => none
theorem evFieldV_ok [Fs] (h : SRel X ρ st a) {t : TypeId} {x : Operand} {f : Nat} (ho : o.op = .field t x f) {r : OpR} (hr : evFieldV P st t x f = some r) : OpQ P X ρ st a o r := by
  unfold evFieldV at hr
  split at hr
  · rename_i fs hu
    split at hr
    · rename_i fd hf
      split at hr
      · rename_i xs hx
        have := opA_ok h x
        rw [hx] at this
        obtain ⟨cs, hv, hcs⟩ := this
        rw [Option.map_eq_some_iff] at hr
        obtain ⟨y, hy, rfl⟩ := hr
        obtain ⟨v, h1, h2⟩ := partA_ok hy hcs
        exact OpQ.pure (v := v) fun w _ => ⟨by simp [execOp, ho, hv, Instr.field, run_underlying hu, hf, asAgg, h1], h2⟩
      · cases hr
    · cases hr
  · cases hr

/-- An array's element, at a place that is a number. -/
def evIndexV (P : Program) (st : St) (t : TypeId) (x ix : Operand) : Option OpR :=
  match P.underlying t with
  | some (.array len e) => match sizeT P e with
    | some sz => match opC st ix with
      | some (.int _ (.lit n)) => match opA st x with
        | .agg xs => bif leb 0 n && ltb n len then (partA P e xs (n.toNat * sz)).map fun y => ⟨.a y, st.m, []⟩ else none
        | _ => none
      | _ => none
    | none => none
  | _ => none
theorem evIndexV_ok [Fs] (h : SRel X ρ st a) {t : TypeId} {x ix : Operand} (ho : o.op = .index t x ix) {r : OpR} (hr : evIndexV P st t x ix = some r) : OpQ P X ρ st a o r := by
  unfold evIndexV at hr
  split at hr
  · rename_i len e hu
    split at hr
    · rename_i sz hs
      split at hr
      · rename_i k n hi
        have hiv := opC_ok h hi
        simp only [Cr, T.den] at hiv
        split at hr
        · rename_i xs hx
          have := opA_ok h x
          rw [hx] at this
          obtain ⟨cs, hv, hcs⟩ := this
          cases hc : leb 0 n && ltb n len <;> simp only [hc, cond_true, cond_false] at hr
          · cases hr
          · rw [Bool.and_eq_true, leb_t, ltb_t] at hc
            rw [Option.map_eq_some_iff] at hr
            obtain ⟨y, hy, rfl⟩ := hr
            obtain ⟨v, h1, h2⟩ := partA_ok hy hcs
            exact OpQ.pure (v := v) fun w _ => ⟨by simp [execOp, ho, hv, hiv, Instr.index, asIntOf, run_underlying hu, run_sizeT hs, hc.1, hc.2, h1], h2⟩
        · cases hr
      · cases hr
    · cases hr
  · cases hr

/-! aggregates made -/
def ovl : List C → Nat → List C → List C
  | xs, _, [] => xs
  | xs, off, y :: ys => ovl (xs.set off y) (off + 1) ys
theorem ovl_ok [Fs] {E : Env} {n : Nat} {off : Nat} : ∀ {ys : List C} {vs : List Value} {k : Nat} {xs : List C} {cs : Array Value}, vs.length = ys.length → (∀ (i : Nat) (y : C), ys[i]? = some y → ∃ v, vs[i]? = some v ∧ Cr E ρ n y v) → F2 (Cr E ρ n) xs cs →
    F2 (Cr E ρ n) (ovl xs (off + k) ys) ((vs.zipIdx k).foldl (fun cs (c, j) => cs.setIfInBounds (off + j) c) cs) := by
  intro ys
  induction ys with
  | nil => intro vs k xs cs hl _ hx; cases vs with
    | nil => exact hx
    | cons v vs => simp at hl
  | cons y ys ih =>
    intro vs k xs cs hl hy hx
    cases vs with
    | nil => simp at hl
    | cons v vs =>
      obtain ⟨v', h1, h2⟩ := hy 0 y rfl
      simp at h1; subst h1
      simp only [ovl, List.zipIdx_cons, List.foldl_cons]
      exact ih (k := k + 1) (by simpa using hl) (fun i z hz => by simpa using hy (i + 1) z (by simpa using hz)) (hx.set (off + k) h2)
def fillC (place : Nat → Option (Nat × Nat)) (xs : List C) : List (Nat × List C) → Option (List C)
  | [] => some xs
  | (i, ys) :: rest => match place i with
    | none => none
    | some (off, size) => bif ys.length == size && Nat.ble (off + size) xs.length then fillC place (ovl xs off ys) rest else none
theorem ovl_length [Fs] (ys : List C) : ∀ (xs : List C) (off : Nat), (ovl xs off ys).length = xs.length := by
  induction ys with
  | nil => intro xs off; rfl
  | cons y ys ih => intro xs off; simp only [ovl]; rw [ih]; simp
/-- Parts as they are meant. -/
def partsR (E : Env) (ρ : Nat → Rb) (n : Nat) : List (Nat × List C) → List (Nat × Value) → Prop
  | [], [] => True
  | (i, ys) :: ps, (j, v) :: qs => i = j ∧ F2 (Cr E ρ n) ys v.cells ∧ partsR E ρ n ps qs
  | _, _ => False
theorem fillC_ok [Fs] {E : Env} {n : Nat} {place : Nat → Option (Nat × Nat)} : ∀ {ps : List (Nat × List C)} {qs : List (Nat × Value)} {xs : List C} {cs : Array Value} {zs : List C}, fillC place xs ps = some zs → partsR E ρ n ps qs → F2 (Cr E ρ n) xs cs →
    ∃ ds, Instr.fill place cs qs = some ds ∧ F2 (Cr E ρ n) zs ds := by
  intro ps
  induction ps with
  | nil => intro qs xs cs zs h hp hx; cases qs with
    | nil => cases h; exact ⟨cs, rfl, hx⟩
    | cons q qs => exact hp.elim
  | cons p ps ih =>
    intro qs xs cs zs h hp hx
    cases qs with
    | nil => exact hp.elim
    | cons q qs =>
      obtain ⟨i, ys⟩ := p
      obtain ⟨j, v⟩ := q
      obtain ⟨rfl, hy, hp'⟩ := hp
      simp only [fillC] at h
      simp only [Instr.fill]
      split at h
      · cases h
      · rename_i off size hpl
        rw [hpl]
        cases hc : ys.length == size && Nat.ble (off + size) xs.length <;> simp only [hc, cond_true, cond_false] at h
        · cases h
        · rw [Bool.and_eq_true, beq_iff_eq, Nat.ble_eq] at hc
          have hs : v.cells.size = size := by rw [hy.1]; exact hc.1
          have : (v.cells.size ≠ size || off + v.cells.size > cs.size) = false := by
            simp [hs, hx.1]; omega
          simp only [this, Bool.false_eq_true, if_false]
          refine ih h hp' ?_
          have := ovl_ok (off := off) (k := 0) (ys := ys) (vs := v.cells.toList) (by simpa using hy.1) (fun i y hy' => by simpa using hy.2 i y hy') hx
          rw [Nat.add_zero] at this
          rw [← Array.foldl_toList, Array.toList_zipIdx]
          exact this
def cellsAll (st : St) : List (Nat × Operand) → Option (List (Nat × List C))
  | [] => some []
  | (i, x) :: rest => match cellsOf (opA st x), cellsAll st rest with
    | some ys, some r => some ((i, ys) :: r)
    | _, _ => none
theorem cellsAll_ok [Fs] (h : SRel X ρ st a) : ∀ {ps : List (Nat × Operand)} {qs : List (Nat × List C)}, cellsAll st ps = some qs → partsR X.E ρ st.m.length qs (ps.map fun (i, x) => (i, a.eval x)) := by
  intro ps
  induction ps with
  | nil => intro qs hq; cases hq; trivial
  | cons p ps ih =>
    intro qs hq
    obtain ⟨i, x⟩ := p
    simp only [cellsAll] at hq
    split at hq
    · rename_i ys r h1 h2
      cases hq
      exact ⟨rfl, cellsOf_ok h1 (opA_ok h x), ih h2⟩
    · cases hq
def placesOf (P : Program) (t : TypeId) : Option (Nat → Option (Nat × Nat)) :=
  match P.underlying t with
  | some (.array _ e) => match P.info? e with
    | some ie => some fun i => some (i * ie.size, ie.size)
    | none => none
  | some (.struct fs) => match fs.toList.mapM (fun f => (P.info? f.type).map fun i => (f.offset, i.size)) with
    | some places => some fun i => places.toArray[i]?
    | none => none
  | _ => none
def zeroOf' (P : Program) (e : TypeId) : Option (List C) := zeroOf P e
theorem zeroOf_info [Fs] {e : TypeId} {xs : List C} (h : zeroOf P e = some xs) : ∃ i z, P.info? e = some i ∧ i.zero = some z ∧ ∀ (E : Env) (ρ : Nat → Rb) (n : Nat), F2 (Cr E ρ n) xs z.cells := by
  unfold zeroOf at h
  split at h
  · rename_i i hi
    split at h
    · rename_i z hz
      cases hc : z.cells.toList.all (·.oneCell') <;> simp only [hc, cond_true, cond_false] at h
      · cases h
      · cases h
        exact ⟨i, z, hi, hz, fun E ρ n => constCs_ok hc⟩
    · cases h
  · cases h
/-- Too many cells to be told. -/
def isBig (P : Program) (t : TypeId) : Bool := match P.info? t with
  | some i => Nat.blt 1000 i.size && i.zero.isSome
  | none => false
/-! the zero value of a type that is too big to list -/
def isZv : K → Value → Bool
  | .i k, .int k' n => decide (k = k') && n == 0
  | .b, .bool b => !b
  | _, _ => false
theorem isZv_ok [Fs] {k : K} {v : Value} (h : isZv k v = true) : v = k.val 0 := by
  cases k <;> cases v <;> simp [isZv] at h
  · rw [h.1, h.2]; rfl
  · rw [h]; rfl
def zeroN (k : K) : Nat → List Value → Option (List Value)
  | 0, l => some l
  | n + 1, v :: l => bif isZv k v then zeroN k n l else none
  | _ + 1, [] => none
theorem zeroN_ok [Fs] {k : K} : ∀ {n : Nat} {l r : List Value}, zeroN k n l = some r → l = List.replicate n (k.val 0) ++ r := by
  intro n
  induction n with
  | zero => intro l r h; cases h; rfl
  | succ n ih =>
    intro l r h
    cases l with
    | nil => cases h
    | cons v l =>
      simp only [zeroN] at h
      cases hz : isZv k v <;> simp only [hz, cond_true, cond_false] at h
      · cases h
      · rw [ih h, isZv_ok hz]; rfl
def zeroIs : List Col → List Value → Bool
  | [], [] => true
  | c :: r, l => c.s.isL 0 && match zeroN c.k c.m l with
    | some l' => zeroIs r l'
    | none => false
  | [], _ :: _ => false
theorem zeroIs_ok [Fs] {E : Env} : ∀ {cols : List Col} {l : List Value}, zeroIs cols l = true → l.length = wid cols ∧ ∀ p r c, colAt cols p = some (c, r) → l[p]? = some (c.k.val (c.s.row E (r : Int))) := by
  intro cols
  induction cols with
  | nil => intro l h; cases l with
    | nil => exact ⟨rfl, fun p r c h => by cases h⟩
    | cons v l => cases h
  | cons c cs ih =>
    intro l h
    simp only [zeroIs, Bool.and_eq_true] at h
    obtain ⟨hs, h⟩ := h
    split at h
    · rename_i l' hl
      obtain ⟨h1, h2⟩ := ih h
      have e := zeroN_ok hl
      refine ⟨by rw [e, List.length_append, List.length_replicate, h1]; rfl, fun p r d hd => ?_⟩
      simp only [colAt] at hd
      cases hb : Nat.blt p c.m <;> simp only [hb, cond_true, cond_false] at hd
      · have hp : c.m ≤ p := by
          rcases Nat.lt_or_ge p c.m with h3 | h3
          · rw [← Nat.blt_eq, hb] at h3; cases h3
          · exact h3
        rw [e, List.getElem?_append_right (by rw [List.length_replicate]; exact hp), List.length_replicate]
        exact h2 _ _ _ hd
      · cases hd
        rw [Nat.blt_eq] at hb
        rw [e, List.getElem?_append_left (by rw [List.length_replicate]; exact hb), List.getElem?_replicate, if_pos hb, T.isL_eq hs]
        rfl
    · cases h
def kOf (P : Program) (t : TypeId) : Option K := match P.underlying t with
  | some (.int k) => some (.i k)
  | some .bool => some .b
  | _ => none
def bigCol (P : Program) (t : TypeId) : Option Col := match P.underlying t with
  | some (.array n e) => (kOf P e).map fun k => ⟨k, n, .lit 0⟩
  | _ => (kOf P t).map fun k => ⟨k, 1, .lit 0⟩
def bigCols (P : Program) (t : TypeId) : Option (List Col) := match P.underlying t with
  | some (.struct fs) => fs.toList.mapM fun f => bigCol P f.type
  | _ => none
/-- Its columns, if its cells are none indeed. -/
def bigZero (P : Program) (t : TypeId) : Option (List Col) := match P.info? t with
  | some i => match i.zero, bigCols P t with
    | some z, some cols => bif zeroIs cols z.cells.toList then some cols else none
    | _, _ => none
  | none => none
def bigA (P : Program) (t : TypeId) : A := match bigZero P t with
  | some cols => .rows cols
  | none => .dead
theorem bigA_ok [Fs] {E : Env} {ρ : Nat → Rb} {n : Nat} {t : TypeId} {i : TypeInfo} {z : Value} (hi : P.info? t = some i) (hz : i.zero = some z) : Ar E ρ n (bigA P t) (.agg z.cells) := by
  unfold bigA bigZero
  rw [hi]
  simp only [hz]
  split
  · rename_i cols h
    split at h
    · rename_i z' cols' e1 e2
      cases e1
      cases hc : zeroIs cols' z.cells.toList <;> simp only [hc, cond_true, cond_false] at h
      · cases h
      · cases h
        obtain ⟨h1, h2⟩ := zeroIs_ok (E := E) hc
        refine ⟨z.cells, rfl, by simpa using h1, fun j p r c hj hcol => ?_⟩
        obtain rfl : j = 0 := by omega
        rw [Nat.zero_mul, Nat.zero_mul, Nat.zero_add, Nat.zero_add]
        have := h2 p r c hcol
        simpa using this
    · cases h
  · trivial
def evBuild (P : Program) (st : St) (t : TypeId) (ps : Array (Nat × Operand)) : Option OpR :=
  bif ps.toList.isEmpty && isBig P t then (placesOf P t).map fun _ => ⟨.a (bigA P t), st.m, []⟩ else
  match zeroOf P t, placesOf P t, cellsAll st ps.toList with
  | some z, some pl, some qs => (fillC pl z qs).map fun xs => ⟨.a (.agg xs), st.m, []⟩
  | _, _, _ => none
theorem evBuild_ok [Fs] (h : SRel X ρ st a) {t : TypeId} {ps : Array (Nat × Operand)} (ho : o.op = .build t ps) {r : OpR} (hr : evBuild P st t ps = some r) : OpQ P X ρ st a o r := by
  unfold evBuild at hr
  cases hbig : ps.toList.isEmpty && isBig P t <;> simp only [hbig, cond_true, cond_false] at hr
  case true =>
    rw [Bool.and_eq_true] at hbig
    obtain ⟨hb1, hb2⟩ := hbig
    obtain rfl : ps = #[] := by
      have := List.isEmpty_iff.1 hb1
      exact Array.toList_inj.1 this
    rw [Option.map_eq_some_iff] at hr
    obtain ⟨pl, hpl, rfl⟩ := hr
    unfold isBig at hb2
    split at hb2
    · rename_i i hi
      rw [Bool.and_eq_true] at hb2
      obtain ⟨zv, hzv⟩ := Option.isSome_iff_exists.1 hb2.2
      have hb : P.built t ((#[] : Array (Nat × Operand)).map fun (i, x) => (i, a.eval x)).toList = some zv.cells := by
        unfold placesOf at hpl
        unfold Program.built
        rw [hi]
        split at hpl
        · rename_i n e hu
          split at hpl
          · rename_i ie hie
            simp only [hu, hzv, hie]
            simp [Instr.fill]
          · cases hpl
        · rename_i fs hu
          split at hpl
          · rename_i places hpm
            simp only [hu, hzv, hpm]
            simp [Instr.fill]
          · cases hpl
        · cases hpl
      have hrun := fun w => run_build (P := P) w t ((#[] : Array (Nat × Operand)).map fun (i, x) => (i, a.eval x)) zv.cells hb
      exact OpQ.pure (v := .agg zv.cells) fun w _ => ⟨by simp only [execOp, ho, Sem.run_bind, hrun]; rfl, bigA_ok hi hzv⟩
    · cases hb2
  split at hr
  · rename_i z pl qs hz hpl hq
    rw [Option.map_eq_some_iff] at hr
    obtain ⟨xs, hf, rfl⟩ := hr
    obtain ⟨i, zv, hi, hzv, hz2⟩ := zeroOf_info hz
    obtain ⟨ds, h1, h2⟩ := fillC_ok hf (cellsAll_ok h hq) (hz2 X.E ρ st.m.length)
    have hb : P.built t (ps.map fun (i, x) => (i, a.eval x)).toList = some ds := by
      rw [Array.toList_map]
      unfold placesOf at hpl
      unfold Program.built
      rw [hi]
      split at hpl
      · rename_i n e hu
        split at hpl
        · rename_i ie hie
          cases hpl
          simp only [hu, hzv, hie]; exact h1
        · cases hpl
      · rename_i fs hu
        split at hpl
        · rename_i places hpm
          cases hpl
          simp only [hu, hzv, hpm]; exact h1
        · cases hpl
      · cases hpl
    have hrun := fun w => run_build (P := P) w t (ps.map fun (i, x) => (i, a.eval x)) ds hb
    exact OpQ.pure (v := .agg ds) fun w _ => ⟨by simp only [execOp, ho, Sem.run_bind, hrun]; rfl, ds, rfl, h2⟩
  · cases hr

/-! aggregates held against each other -/
def eqFs (P : Program) (r : TypeId → A → A → Option T) (xs ys : List C) : List Field → Option T
  | [] => some (.lit 1)
  | f :: fs => bif f.name == "_" then eqFs P r xs ys fs else
    match partA P f.type xs f.offset, partA P f.type ys f.offset with
    | some x, some y => match r f.type x y, eqFs P r xs ys fs with
      | some t, some u => some (mk2 .and (tbT t) (tbT u))
      | _, _ => none
    | _, _ => none
def eqIs (P : Program) (r : TypeId → A → A → Option T) (e : TypeId) (c : Nat) (xs ys : List C) : List Nat → Option T
  | [] => some (.lit 1)
  | i :: is =>
    match partA P e xs (i * c), partA P e ys (i * c) with
    | some x, some y => match r e x y, eqIs P r e c xs ys is with
      | some t, some u => some (mk2 .and (tbT t) (tbT u))
      | _, _ => none
    | _, _ => none
def eqA (P : Program) : Nat → TypeId → A → A → Option T
  | 0, _, _, _ => none
  | d + 1, t, x, y => match P.underlying t, x, y with
    | some (.int _), .c (.int k s), .c (.int k' u) => if k = k' then some (mk2 .eq s u) else none
    | some .bool, .c (.bool s), .c (.bool u) => some (mk2 .eq (tbT s) (tbT u))
    | some (.struct fs), .agg xs, .agg ys => bif P.stoodInHeld t then none else eqFs P (eqA P d) xs ys fs.toList
    | some (.array n e), .agg xs, .agg ys => match P.info? e with
      | some _ => eqIs P (eqA P d) e (P.cellsOf e) xs ys (List.range n)
      | none => none
    | some (.pointer _), .c .nilp, .c .nilp => some (.lit 1)
    | _, _, _ => none
theorem tr_and2 [Fs] (E : Env) (s t : T) : (mk2 .and (tbT s) (tbT t)).tr E = (s.tr E && t.tr E) := by
  simp only [T.tr, mk2_den, O2.den, tb_ne, tbT_den]
theorem eqA_ok [Fs] {E : Env} {n : Nat} : ∀ {d : Nat} {t : TypeId} {x y : A} {τ : T}, eqA P d t x y = some τ → ∀ (D : Nat), d ≤ D → ∀ (u v : Value) (w : World), Ar E ρ n x u → Ar E ρ n y v → (Op.equalIn D t u v).run P w = .ok (τ.tr E) w := by
  intro d
  induction d with
  | zero => intro t x y τ h; simp [eqA] at h
  | succ d ih =>
    intro t x y τ h D hD u v w hu hv
    cases D with
    | zero => omega
    | succ D =>
      have hD' : d ≤ D := by omega
      simp only [eqA] at h
      split at h
      · rename_i k0 k s k' u' ht
        split at h
        · rename_i hk
          subst hk; cases h
          simp only [Ar, Cr] at hu hv
          rw [hu, hv, run_equalIn_int w D t k k0 _ _ ht, tr_eq2]
        · cases h
      · rename_i s u' ht
        cases h
        simp only [Ar, Cr] at hu hv
        rw [hu, hv, run_equalIn_bool' w D t _ _ ht]
        congr 1
        simp only [T.tr, mk2_den, O2.den, tb_ne, tbT_den]
        cases (s.den E != 0) <;> cases (u'.den E != 0) <;> rfl
      · rename_i fs xs ys ht
        cases hst : P.stoodInHeld t <;> simp only [hst, cond_true, cond_false] at h
        · obtain ⟨cs, rfl, hcs⟩ := hu
          obtain ⟨ds, rfl, hds⟩ := hv
          have hfo : P.fieldsOf t = fs := by simp [Program.fieldsOf, ht]
          rw [run_equalIn_struct w D t cs ds (by rw [hfo]; exact ht) hst, hfo]
          generalize fs.toList = l at h
          clear ht hfo
          induction l generalizing τ w with
          | nil => cases h; simp [Op.eqFields, T.tr, T.den]
          | cons f l ihl =>
            simp only [eqFs] at h
            simp only [Op.eqFields]
            cases hn : f.name == "_" <;> simp only [hn, cond_true, cond_false] at h
            · rw [beq_eq_false_iff_ne] at hn
              rw [if_pos hn]
              split at h
              · rename_i x' y' hx' hy'
                split at h
                · rename_i t' u' h1 h2
                  cases h
                  obtain ⟨v1, p1, p2⟩ := partA_ok hx' hcs
                  obtain ⟨v2, q1, q2⟩ := partA_ok hy' hds
                  have he := ih h1 D hD' v1 v2 w p2 q2
                  simp only [Sem.run_bind, p1, q1, he, Result.andThen_ok, tr_and2]
                  cases t'.tr E
                  · simp
                  · simp; exact ihl w h2
                · cases h
              · cases h
            · rw [beq_iff_eq] at hn
              rw [if_neg (by simp [hn])]
              exact ihl w h
        · cases h
      · rename_i m e xs ys ht
        obtain ⟨cs, rfl, hcs⟩ := hu
        obtain ⟨ds, rfl, hds⟩ := hv
        split at h
        · rename_i i hi
          rw [run_equalIn_array w D cs ds ht hi]
          generalize List.range m = l at h
          induction l generalizing τ w with
          | nil => simp [eqIs] at h; subst h; simp [Op.eqItems, T.tr, T.den]
          | cons j l ihl =>
            simp only [eqIs] at h
            simp only [Op.eqItems]
            split at h
            · rename_i x' y' hx' hy'
              split at h
              · rename_i t' u' h1 h2
                cases h
                obtain ⟨v1, p1, p2⟩ := partA_ok hx' hcs
                obtain ⟨v2, q1, q2⟩ := partA_ok hy' hds
                have he := ih h1 D hD' v1 v2 w p2 q2
                simp only [Sem.run_bind, p1, q1, he, Result.andThen_ok, tr_and2]
                cases t'.tr E
                · simp
                · simp; exact ihl w h2
              · cases h
            · cases h
        · cases h
      · rename_i e ht
        cases h
        simp only [Ar, Cr] at hu hv
        rw [hu, hv, run_eqP1 ht]; rfl
      · cases h

end ops
end Go.Sy
namespace Go.Sy

/-! rows of elements: cells, columns -/
theorem colAt_lt [Fs] : ∀ {cols : List Col} {p r : Nat} {c : Col}, colAt cols p = some (c, r) → r < c.m ∧ r ≤ p ∧ p < wid cols ∧ c ∈ cols := by
  intro cols
  induction cols with
  | nil => intro p r c h; simp [colAt] at h
  | cons d l ih =>
    intro p r c h
    simp only [colAt] at h
    cases hp : Nat.blt p d.m <;> simp only [hp, cond_true, cond_false] at h
    · obtain ⟨h1, h2, h3, h4⟩ := ih h
      have : ¬ p < d.m := by rw [← Nat.blt_eq, hp]; exact Bool.false_ne_true
      exact ⟨h1, by omega, by simp only [wid]; omega, List.mem_cons_of_mem _ h4⟩
    · cases h
      rw [Nat.blt_eq] at hp
      exact ⟨hp, Nat.le_refl _, by simp only [wid]; omega, List.mem_cons_self⟩
/-- Further on in the same column. -/
theorem colAt_add [Fs] : ∀ {cols : List Col} {p r k : Nat} {c : Col}, colAt cols p = some (c, r) → r + k < c.m → colAt cols (p + k) = some (c, r + k) := by
  intro cols
  induction cols with
  | nil => intro p r k c h; simp [colAt] at h
  | cons d l ih =>
    intro p r k c h hk
    simp only [colAt] at h ⊢
    cases hp : Nat.blt p d.m <;> simp only [hp, cond_true, cond_false] at h
    · have h0 : ¬ p < d.m := by rw [← Nat.blt_eq, hp]; exact Bool.false_ne_true
      have : Nat.blt (p + k) d.m = false := by rw [← Bool.not_eq_true, Nat.blt_eq]; omega
      rw [this, cond_false]
      have := ih h hk
      rw [show p + k - d.m = p - d.m + k by omega]; exact this
    · cases h
      have : Nat.blt (p + k) d.m = true := by rw [Nat.blt_eq]; exact hk
      rw [this, cond_true]
/-- The first number of a column is where it begins; its cells follow. -/
theorem colAt_some [Fs] : ∀ {cols : List Col} {p : Nat}, p < wid cols → ∃ c r, colAt cols p = some (c, r) := by
  intro cols
  induction cols with
  | nil => intro p h; simp [wid] at h
  | cons d l ih =>
    intro p h
    simp only [colAt, wid] at h ⊢
    cases hp : Nat.blt p d.m <;> simp only [cond_true, cond_false]
    · have h0 : ¬ p < d.m := by rw [← Nat.blt_eq, hp]; exact Bool.false_ne_true
      exact ih (by omega)
    · exact ⟨_, _, rfl⟩

def K.cell : K → T → C
  | .i k, t => .int k t
  | .b, t => .bool t
theorem K.cell_ok [Fs] {E : Env} {ρ : Nat → Rb} {n : Nat} (k : K) {t : T} {x : Int} (h : t.den E = x) : Cr E ρ n (k.cell t) (k.val x) := by
  cases k <;> simp only [K.cell, K.val, Cr, T.tr, h]
/-- Number i * m + r, said short. -/
def ixT (i : T) (m r0 : Nat) (r : T) : T := mk2 .add (bif Nat.beq m 1 then i else mk2 .mul i (.lit m)) (mk2 .add (.lit r0) r)
theorem ixT_den [Fs] (E : Env) (i : T) (m r0 : Nat) (r : T) : (ixT i m r0 r).den E = i.den E * m + (r0 + r.den E) := by
  unfold ixT
  cases h : Nat.beq m 1 <;> simp only [cond_true, cond_false, mk2_den, O2.den, T.den]
  rw [Nat.eq_of_beq_eq_true h]; omega
def isZ : T → Bool
  | .lit n => n == 0
  | _ => false
theorem isZ_den [Fs] {E : Env} {t : T} (h : isZ t = true) : t.den E = 0 := by
  cases t <;> simp [isZ] at h
  subst h; rfl
/-- Is it sure to be below? -/
def below (pc : Pc) (t : T) (n : T) : Bool := match dec pc (mk2 .lt t n) with
  | some true => true
  | _ => false
theorem below_ok [Fs] {E : Env} {pc : Pc} (hp : pcOk E pc) {t n : T} (h : below pc t n = true) : t.den E < n.den E := by
  unfold below at h
  split at h
  · rename_i hd
    have := dec_ok hp hd
    simpa only [T.tr, mk2_den, O2.den, tb_ne, ltb_t] using this
  · cases h
/-- The cell at i * wid + o + r. -/
def rdA (pc : Pc) (cols : List Col) (i : T) (o : Nat) (r : T) : Option C := match colAt cols o with
  | some (c, r0) => bif isZ r || below pc r (.lit ((c.m - r0 : Nat))) then some (c.k.cell (selP pc (ixT i c.m r0 r) c.s)) else none
  | none => none
section
variable {E : Env} {ρ : Nat → Rb} {N : Nat}
theorem ix_nat [Fs] {i r : Int} {m r0 : Nat} (hi : 0 ≤ i) (hr : 0 ≤ r) : ((i.toNat * m + (r0 + r.toNat) : Nat) : Int) = i * m + (r0 + r) := by
  obtain ⟨a, rfl⟩ := Int.eq_ofNat_of_zero_le hi
  obtain ⟨b, rfl⟩ := Int.eq_ofNat_of_zero_le hr
  simp
theorem rdA_ok [Fs] {pc : Pc} (hp : pcOk E pc) {cols : List Col} {n : Int} {cs : Array Value} (hc : Cells E n cols cs) {i r : T} {o : Nat} {x : C} (h : rdA pc cols i o r = some x) (h0 : 0 ≤ i.den E) (h1 : i.den E < n) (h2 : 0 ≤ r.den E) :
    ∃ v, cs[(i.den E).toNat * wid cols + (o + (r.den E).toNat)]? = some v ∧ Cr E ρ N x v := by
  unfold rdA at h
  split at h
  · rename_i c r0 hcol
    cases hb : isZ r || below pc r (.lit ((c.m - r0 : Nat))) <;> simp only [hb, cond_true, cond_false] at h
    · cases h
    · cases h
      have hlt := colAt_lt hcol
      have hr : r0 + (r.den E).toNat < c.m := by
        rw [Bool.or_eq_true] at hb
        rcases hb with hb | hb
        · rw [isZ_den hb]; simpa using hlt.1
        · have := below_ok hp hb
          simp only [T.den] at this
          omega
      have := hc (i.den E).toNat (o + (r.den E).toNat) (r0 + (r.den E).toNat) c (by omega) (colAt_add hcol hr)
      refine ⟨_, this, c.k.cell_ok ?_⟩
      rw [selP_den hp, ixT_den, ix_nat h0 h2]
  · cases h
/-- Cells one behind the other. -/
def rdAs (pc : Pc) (cols : List Col) (i : T) : Nat → Nat → Option (List C)
  | _, 0 => some []
  | o, n + 1 => match rdA pc cols i o (.lit 0), rdAs pc cols i (o + 1) n with
    | some x, some r => some (x :: r)
    | _, _ => none
theorem rdAs_ok [Fs] {pc : Pc} (hp : pcOk E pc) {cols : List Col} {n : Int} {cs : Array Value} (hc : Cells E n cols cs) {i : T} (h0 : 0 ≤ i.den E) (h1 : i.den E < n) : ∀ {k o : Nat} {xs : List C}, rdAs pc cols i o k = some xs →
    xs.length = k ∧ ∀ (j : Nat) (x : C), xs[j]? = some x → ∃ v, cs[(i.den E).toNat * wid cols + (o + j)]? = some v ∧ Cr E ρ N x v := by
  intro k
  induction k with
  | zero => intro o xs h; cases h; exact ⟨rfl, fun j x hj => by simp at hj⟩
  | succ k ih =>
    intro o xs h
    simp only [rdAs] at h
    split at h
    · rename_i x r hx hr
      cases h
      obtain ⟨h3, h4⟩ := ih hr
      refine ⟨by simp [h3], fun j y hj => ?_⟩
      cases j with
      | zero =>
        simp at hj; subst hj
        have := rdA_ok (ρ := ρ) (N := N) hp hc hx h0 h1 (by simp [T.den])
        simpa [T.den] using this
      | succ j =>
        simp at hj
        obtain ⟨v, h5, h6⟩ := h4 j y hj
        exact ⟨v, by rw [← h5]; congr 1; omega, h6⟩
    · cases h
theorem rdAs_F2 [Fs] {pc : Pc} (hp : pcOk E pc) {cols : List Col} {n : Int} {cs : Array Value} (hc : Cells E n cols cs) {i : T} (h0 : 0 ≤ i.den E) (h1 : i.den E < n) {k o : Nat} {xs : List C} (hk : 0 < k) (h : rdAs pc cols i o k = some xs) :
    (i.den E).toNat * wid cols + o + k ≤ cs.size ∧ F2 (Cr E ρ N) xs (cs.extract ((i.den E).toNat * wid cols + o) ((i.den E).toNat * wid cols + o + k)) := by
  obtain ⟨h2, h3⟩ := rdAs_ok (ρ := ρ) (N := N) hp hc h0 h1 h
  have hle : (i.den E).toNat * wid cols + o + k ≤ cs.size := by
    obtain ⟨k, rfl⟩ : ∃ k', k = k' + 1 := ⟨k - 1, by omega⟩
    obtain ⟨v, h4, _⟩ := h3 k xs[k] (List.getElem?_eq_getElem (by omega))
    have := (Array.getElem?_eq_some_iff.1 h4).1
    omega
  refine ⟨hle, by rw [Array.size_extract, h2]; omega, fun j z hj => ?_⟩
  obtain ⟨v, h4, h5⟩ := h3 j z hj
  refine ⟨v, ?_, h5⟩
  have hi := (List.getElem?_eq_some_iff.1 hj).1
  rw [Array.getElem?_extract, if_pos (by omega), ← h4]
  congr 1; omega
end

theorem ext_ext [Fs] {cs : Array Value} {o a n : Nat} (h : o + a + n ≤ cs.size) : cs.extract (o + a) (o + a + n) = (cs.extract o cs.size).extract a (a + n) := by
  rw [Array.extract_extract, show min (o + (a + n)) cs.size = o + a + n by omega]
theorem ext_all [Fs] {cs : Array Value} : cs.extract 0 cs.size = cs := by simp
/-! the operations -/
/-- Where an address lies in a row: element, place in it, how much further. -/
def posA (z : Nat) (ev : Bool) : C → Option (Nat × T × Nat × T)
  | .ptr b o => bif ev then some (b, .lit 0, o, .lit 0) else none
  | .pti b o ix sz _ => bif Nat.beq sz 1 && ev then some (b, .lit 0, o, ix) else none
  | .pta b z' i o r => bif Nat.beq z z' then some (b, i, o, r) else none
  | _ => none
theorem posA_ok [Fs] {E : Env} {ρ : Nat → Rb} {N z : Nat} {x : C} {v : Value} {b o : Nat} {i r : T} {ev : Bool} (h : posA z ev x = some (b, i, o, r)) (he : ev = true → (ρ b).o = 0) (hv : Cr E ρ N x v) :
    b < N ∧ 0 ≤ i.den E ∧ 0 ≤ r.den E ∧ v = .pointer (some ⟨(ρ b).g, (ρ b).o + (i.den E).toNat * z + o + (r.den E).toNat, none⟩) := by
  unfold posA at h
  split at h
  · cases ev <;> simp only [cond_true, cond_false] at h <;> cases h
    exact ⟨hv.1, by simp [T.den], by simp [T.den], by rw [hv.2, he rfl]; simp [T.den]⟩
  · rename_i sz _
    cases hs : Nat.beq sz 1 && ev <;> simp only [hs, cond_true, cond_false] at h
    · cases h
    · cases h
      rw [Bool.and_eq_true] at hs
      obtain ⟨h1, h2, h3, h4⟩ := hv
      rw [Nat.eq_of_beq_eq_true hs.1] at h4
      exact ⟨h1, by simp [T.den], h2, by rw [h4, he hs.2]; simp [T.den]⟩
  · rename_i b' z' i' o' r'
    cases hs : Nat.beq z z' <;> simp only [hs, cond_true, cond_false] at h
    · cases h
    · cases h
      rw [Nat.eq_of_beq_eq_true hs]
      exact hv
  · cases h
theorem posA_nn [Fs] {E : Env} {ρ : Nat → Rb} {N z : Nat} {x : C} {v : Value} {b o : Nat} {i r : T} {ev : Bool} (h : posA z ev x = some (b, i, o, r)) (hv : Cr E ρ N x v) : 0 ≤ i.den E := by
  unfold posA at h
  split at h
  · cases ev <;> simp only [cond_true, cond_false] at h <;> cases h
    simp [T.den]
  · rename_i sz _
    cases hs : Nat.beq sz 1 && ev <;> simp only [hs, cond_true, cond_false] at h <;> cases h
    simp [T.den]
  · rename_i b' z' i' o' r'
    cases hs : Nat.beq z z' <;> simp only [hs, cond_true, cond_false] at h <;> cases h
    exact hv.2.1
  · cases h
def blockOf : C → Option Nat
  | .ptr b _ => some b
  | .pti b _ _ _ _ => some b
  | .pta b _ _ _ _ => some b
  | _ => none
/-- What an operation on a row finds: the block's type, length, columns, where. -/
def findA (st : St) (x : C) : Option (Nat × TypeId × T × List Col × T × Nat × T) := match blockOf x with
  | some b => match st.m[b]? with
    | some (.arr ty n cols) => match posA (wid cols) (Nat.beq (Nat.mod ty 2) 0) x with
      | some (b', i, o, r) => bif Nat.beq b b' && below st.pc i n then some (b, ty, n, cols, i, o, r) else none
      | none => none
    | _ => none
  | none => none
def evLoadA (P : Program) (st : St) (t : TypeId) (x : Operand) : Option OpR :=
  match opC st x with
  | some y => match findA st y with
    | some (_, _, _, cols, i, o, r) => match isAggT P t with
      | some true => match sizeT P t with
        | some (n + 1) => bif isZ r then match rdAs st.pc cols i o (n + 1) with
          | some zs => some ⟨.a (.agg zs), st.m, []⟩
          | none => none
          else none
        | _ => none
      | some false => match rdA st.pc cols i o r with
        | some z => some ⟨.a (.c z), st.m, []⟩
        | none => none
      | none => none
    | none => none
  | none => none
/-- Worlds where the old blocks are as they were. -/
def Keeps (w w' : World) : Prop := ∀ k, k < w.heap.size → w'.heap[k]? = w.heap[k]?
theorem Keeps.refl [Fs] (w : World) : Keeps w w := fun _ _ => rfl
/-- An operation that leaves the world alone: one value, in every world where the old blocks are as they were. -/
def OpL (P : Program) (X : Cx) (ρ : Nat → Rb) (st : St) (a : Act) (w : World) (o : Oper) (r : OpR) : Prop :=
  r.m = st.m ∧ ((∀ t ∈ r.rq, t.tr X.E = true) → ∃ v, (∀ w', Keeps w w' → (execOp a.eval o).run P w' = .ok (.value v) w') ∧ Lr X.E ρ st.m.length r.l v)
section ops
variable {P : Program} {X : Cx} {ρ : Nat → Rb} {st : St} {a : Act} {w : World} {o : Oper}
theorem OpQ.opL [Fs] {r : OpR} (h : OpQ P X ρ st a o r) : OpL P X ρ st a w o r := ⟨h.1, fun hq => let ⟨v, h1, h2⟩ := h.2 hq; ⟨v, fun w' _ => h1 w', h2⟩⟩
theorem OpL.ok [Fs] (h : Rel X ρ st a w) {r : OpR} (hl : OpL P X ρ st a w o r) : OpOk P X ρ st a w o r := fun hrq =>
  let ⟨v, h1, h2⟩ := hl.2 hrq
  ⟨v, w, ρ, .inl (h1 w (Keeps.refl w)), by rw [hl.1]; exact h2, by rw [hl.1]; exact h.mr, fun _ _ => rfl, by rw [hl.1]; exact Nat.le_refl _⟩
theorem findA_ok [Fs] (h : Rel X ρ st a w) {x : Operand} {y : C} (hy : opC st x = some y) {b : Nat} {ty : TypeId} {n : T} {cols : List Col} {i r : T} {o' : Nat} (hf : findA st y = some (b, ty, n, cols, i, o', r)) :
    st.m[b]? = some (.arr ty n cols) ∧ (∃ cs t fr, w.heap[(ρ b).g]? = some (.cells cs t fr) ∧ (Nat.beq (Nat.mod ty 2) 1 = false → t = Nat.div ty 2 ∧ fr = (0, 0) ∧ (ρ b).o = 0) ∧ cs.size = (ρ b).z ∧ (ρ b).o + (n.den X.E).toNat * wid cols ≤ cs.size ∧ Cells X.E (n.den X.E) cols (cs.extract (ρ b).o cs.size)) ∧
    b < st.m.length ∧ 0 ≤ i.den X.E ∧ i.den X.E < n.den X.E ∧ 0 ≤ r.den X.E ∧ a.eval x = .pointer (some ⟨(ρ b).g, (ρ b).o + (i.den X.E).toNat * wid cols + o' + (r.den X.E).toNat, none⟩) := by
  unfold findA at hf
  split at hf
  · rename_i b1 hb1
    split at hf
    · rename_i ty' n' cols' hm
      split at hf
      · rename_i b2 i' o2 r' hp
        cases hc : Nat.beq b1 b2 && below st.pc i' n' <;> simp only [hc, cond_true, cond_false] at hf
        · cases hf
        · cases hf
          rw [Bool.and_eq_true] at hc
          have he := Nat.eq_of_beq_eq_true hc.1
          subst he
          have hlt := below_ok h.pc hc.2
          obtain ⟨h5, h6⟩ := h.mr.mem _ _ hm
          have h0 := posA_nn hp (opC_ok h.toSRel hy)
          have h7 := h6 (by omega)
          obtain ⟨h1, h2, h3, h4⟩ := posA_ok hp (fun he => let ⟨_, _, _, _, q, _⟩ := h7; (q (ro_of he)).2.2) (opC_ok h.toSRel hy)
          exact ⟨hm, h7, h1, h2, hlt, h3, h4⟩
      · cases hf
    · cases hf
  · cases hf
theorem evLoadA_ok [Fs] (h : Rel X ρ st a w) {t : TypeId} {x : Operand} (ho : o.op = .load t x) {r : OpR} (hr : evLoadA P st t x = some r) : OpL P X ρ st a w o r := by
  unfold evLoadA at hr
  split at hr
  · rename_i y hy
    split at hr
    · rename_i b ty n cols i o' r' hf
      obtain ⟨hm, ⟨cs, tt, fr, hg, hro, hsz, hle, hcs⟩, hb, h0, h1, h2, hv⟩ := findA_ok h hy hf
      have hlt := (Array.getElem?_eq_some_iff.1 hg).1
      split at hr
      · rename_i hagg
        split at hr
        · rename_i k hs
          cases hz : isZ r' <;> simp only [hz, cond_true, cond_false] at hr
          · cases hr
          · split at hr
            · rename_i zs hzs
              cases hr
              have hz0 := isZ_den (E := X.E) hz
              obtain ⟨h3, h4⟩ := rdAs_F2 (ρ := ρ) (N := st.m.length) h.pc hcs h0 h1 (Nat.succ_pos k) hzs
              refine ⟨rfl, fun _ => ⟨.agg _, fun w' hk => ?_, _, rfl, h4⟩⟩
              have h3' : (ρ b).o + ((i.den X.E).toNat * wid cols + o') + (k + 1) ≤ cs.size := by
                rw [Array.size_extract] at h3; omega
              have hld := run_loadVar_agg (P := P) (w := w') ((hk _ hlt).trans hg) hagg hs h3'
              rw [ext_ext h3'] at hld
              rw [hz0, show (ρ b).o + (i.den X.E).toNat * wid cols + o' + (0 : Int).toNat = (ρ b).o + ((i.den X.E).toNat * wid cols + o') by simp; omega] at hv
              simp only [execOp, ho, hv, Instr.loadAt, Instr.sureAddr, Sem.run_bind, Sem.run_pure, Result.andThen_ok, hld]
            · cases hr
        · cases hr
      · rename_i hagg
        split at hr
        · rename_i z hz
          cases hr
          obtain ⟨v, h3, h4⟩ := rdA_ok (ρ := ρ) (N := st.m.length) h.pc hcs hz h0 h1 h2
          refine ⟨rfl, fun _ => ⟨v, fun w' hk => ?_, h4⟩⟩
          have hld := run_loadVar_cell (P := P) (w := w') ((hk _ hlt).trans hg) hagg (v := v) (o := (ρ b).o + (i.den X.E).toNat * wid cols + o' + (r'.den X.E).toNat) (by
            rw [← h3]
            have hq := (Array.getElem?_eq_some_iff.1 h3).1
            rw [Array.size_extract] at hq
            rw [Array.getElem?_extract, if_pos (by omega)]
            congr 1; omega)
          simp [execOp, ho, hv, Instr.loadAt, Instr.sureAddr, hld]
        · cases hr
      · cases hr
    · cases hr
  · cases hr
end ops
end Go.Sy
