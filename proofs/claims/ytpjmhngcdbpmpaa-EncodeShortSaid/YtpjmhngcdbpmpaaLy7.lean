/- Part 7 of a checked reader of Go texts in their model form: it runs a function at terms in the place of numbers, and each part proves that its answers hold of the model. -/
import Derived.Test.YtpjmhngcdbpmpaaLy6
namespace Go.Sy
section ops
variable {P : Program} {X : Cx} {ρ : Nat → Rb} {st : St} {a : Act} {w : World} {o : Oper}

def evField (P : Program) (st : St) (s : TypeId) (x : Operand) (f : Nat) : Option OpR :=
  match P.underlying s with
  | some (.struct fs) => match fs[f]? with
    | some fd => match sizeT P fd.type with
      | some (_ + 1) => match opC st x with
        | some (.ptr b o) => some ⟨.a (.c (.ptr b (o + fd.offset))), st.m, []⟩
        | some (.pti b o ix sz cnt) => some ⟨.a (.c (.pti b (o + fd.offset) ix sz cnt)), st.m, []⟩
        | _ => none
      | _ => none
    | none => none
  | _ => none
theorem evField_ok [Fs] (h : SRel X ρ st a) {s : TypeId} {x : Operand} {f : Nat} (ho : o.op = .fieldAddr s x f) {r : OpR} (hr : evField P st s x f = some r) : OpQ P X ρ st a o r := by
  unfold evField at hr
  split at hr
  · rename_i fs hu
    split at hr
    · rename_i fd hf
      split at hr
      · rename_i n hs
        split at hr
        · rename_i b o' hx
          cases hr
          obtain ⟨hb, hv⟩ := opC_ok h hx
          refine OpQ.pure (v := .pointer (some ⟨(ρ b).g, o' + fd.offset, none⟩)) fun w _ => ⟨?_, hb, rfl⟩
          simp [execOp, ho, hv, Instr.fieldAt, Instr.sureAddr, fieldPlace, run_underlying hu, hf, run_sizeT hs, addr_add]
        · rename_i b o' ix sz cnt hx
          cases hr
          obtain ⟨hb, h0, h1, hv⟩ := opC_ok h hx
          refine OpQ.pure (v := .pointer (some ⟨(ρ b).g, o' + fd.offset + (ix.den X.E).toNat * sz, none⟩)) fun w _ => ⟨?_, hb, h0, h1, rfl⟩
          have e : o' + (ix.den X.E).toNat * sz + fd.offset = o' + fd.offset + (ix.den X.E).toNat * sz := by omega
          simp [execOp, ho, hv, Instr.fieldAt, Instr.sureAddr, fieldPlace, run_underlying hu, hf, run_sizeT hs, addr_add, e]
        · cases hr
      · cases hr
    · cases hr
  · cases hr

/-- An element's address: of 'len' elements of 'sz' cells from (b, o) on. -/
def elemAt (m : List Bk) (b o len sz : Nat) (i : T) : OpR :=
  match i with
  | .lit n => bif leb 0 n && ltb n len then ⟨.a (.c (.ptr b (o + n.toNat * sz))), m, []⟩ else ⟨.a (.c (.pti b o i sz len)), m, [mk2 .le (.lit 0) i, mk2 .lt i (.lit len)]⟩
  | i => ⟨.a (.c (.pti b o i sz len)), m, [mk2 .le (.lit 0) i, mk2 .lt i (.lit len)]⟩
theorem elemAt_ok [Fs] {b o' len sz : Nat} (hb : b < st.m.length) {i : T}
    (hrun : 0 ≤ i.den X.E → i.den X.E < len → ∀ w, (execOp a.eval o).run P w = .ok (.value (.pointer (some ⟨(ρ b).g, o' + (i.den X.E).toNat * sz, none⟩))) w) : OpQ P X ρ st a o (elemAt st.m b o' len sz i) := by
  have gen : OpQ P X ρ st a o ⟨.a (.c (.pti b o' i sz len)), st.m, [mk2 .le (.lit 0) i, mk2 .lt i (.lit len)]⟩ := by
    refine OpQ.pure (v := .pointer (some ⟨(ρ b).g, o' + (i.den X.E).toNat * sz, none⟩)) fun w hq => ?_
    have h1 := hq _ (List.mem_cons_self)
    have h2 := hq _ (List.mem_cons_of_mem _ List.mem_cons_self)
    simp only [T.tr, mk2_den, O2.den, tb_ne, leb_t, ltb_t, T.den] at h1 h2
    exact ⟨hrun h1 h2 w, hb, h1, h2, rfl⟩
  unfold elemAt
  split
  · rename_i n
    cases hc : leb 0 n && ltb n len <;> simp only [cond_true, cond_false]
    · exact gen
    · rw [Bool.and_eq_true, leb_t, ltb_t] at hc
      exact OpQ.pure fun w _ => ⟨hrun hc.1 hc.2 w, hb, rfl⟩
  · exact gen

def evIndexAddr (P : Program) (st : St) (t : TypeId) (x ix : Operand) : Option OpR :=
  match opC st ix with
  | some (.int _ i) => match P.underlying t with
    | some (.array len e) => match sizeT P e with
      | some sz => match opC st x with
        | some (.ptr b o) => some (elemAt st.m b o len sz i)
        | some (.pti b o jx sz' cnt) => match i with
          | .lit n => bif leb 0 n && ltb n len then some ⟨.a (.c (.pti b (o + n.toNat * sz) jx sz' cnt)), st.m, []⟩ else none
          | _ => none
        | _ => none
      | none => none
    | some (.slice e) => match sizeT P e with
      | some sz => match opN st x with
        | some (.slc b o len) => some (elemAt st.m b o len sz i)
        | _ => none
      | none => none
    | _ => none
  | _ => none
theorem evIndexAddr_ok [Fs] (h : SRel X ρ st a) {t : TypeId} {x ix : Operand} (ho : o.op = .indexAddr t x ix) {r : OpR} (hr : evIndexAddr P st t x ix = some r) : OpQ P X ρ st a o r := by
  unfold evIndexAddr at hr
  split at hr
  · rename_i k i hi
    have hiv := opC_ok h hi
    simp only [Cr] at hiv
    split at hr
    · rename_i len e hu
      split at hr
      · rename_i sz hs
        split at hr
        · rename_i b o' hx
          cases hr
          obtain ⟨hb, hv⟩ := opC_ok h hx
          refine elemAt_ok hb fun h0 h1 w => ?_
          simp [execOp, ho, hv, hiv, Instr.indexAt, asIntOf, Instr.sureAddr, run_underlying hu, run_sizeT hs, h0, h1, addr_add]
        · rename_i b o' jx sz' cnt hx
          obtain ⟨hb, h0, h1, hv⟩ := opC_ok h hx
          split at hr
          · rename_i n
            cases hc : leb 0 n && ltb n len <;> simp only [hc, cond_true, cond_false] at hr
            · cases hr
            · cases hr
              rw [Bool.and_eq_true, leb_t, ltb_t] at hc
              refine OpQ.pure (v := .pointer (some ⟨(ρ b).g, o' + n.toNat * sz + (jx.den X.E).toNat * sz', none⟩)) fun w _ => ⟨?_, hb, h0, h1, rfl⟩
              have e : o' + (jx.den X.E).toNat * sz' + n.toNat * sz = o' + n.toNat * sz + (jx.den X.E).toNat * sz' := by omega
              simp only [T.den] at hiv
              simp [execOp, ho, hv, hiv, Instr.indexAt, asIntOf, Instr.sureAddr, run_underlying hu, run_sizeT hs, hc.1, hc.2, addr_add, e]
          · cases hr
        · cases hr
      · cases hr
    · rename_i e hu
      split at hr
      · rename_i sz hs
        split at hr
        · rename_i b o' len hx
          cases hr
          obtain ⟨hb, cap, hv, hcap⟩ := opN_ok h hx
          refine elemAt_ok hb fun h0 h1 w => ?_
          simp [execOp, ho, hv, hiv, Instr.indexAt, asIntOf, run_underlying hu, run_sizeT hs, h0, h1, addr_add]
        · cases hr
      · cases hr
    · cases hr
  · cases hr

/-! numbers -/
def intOp (pc : Pc) (op : BinOp) (k : IntKind) (s t : T) : Option (C × List T) :=
  match op with
  | .add => some (.int k (mkW pc k (mk2 .add s t)), [])
  | .sub => some (.int k (mkW pc k (mk2 .sub s t)), [])
  | .mul => some (.int k (mkW pc k (mk2 .mul s t)), [])
  | .quo => some (.int k (mkW pc k (mk2 .tdiv s t)), [mkNot (mk2 .eq t (.lit 0))])
  | .rem => some (.int k (one pc (mk2 .tmod s t)), [mkNot (mk2 .eq t (.lit 0))])
  | .and => some (.int k (bitN pc (mk2 (.band k) s t)), [])
  | .or => some (.int k (bitN pc (mk2 (.bor k) s t)), [])
  | .xor => some (.int k (mk2 (.bxor k) s t), [])
  | .andNot => some (.int k (mk2 (.bandn k) s t), [])
  | .eql => some (.bool (norm pc (mk2 .eq s t)), [])
  | .neq => some (.bool (norm pc (mkNot (mk2 .eq s t))), [])
  | .lss => some (.bool (norm pc (mk2 .lt s t)), [])
  | .leq => some (.bool (norm pc (mk2 .le s t)), [])
  | .gtr => some (.bool (norm pc (mk2 .lt t s)), [])
  | .geq => some (.bool (norm pc (mk2 .le t s)), [])
  | .shl => some (.int k (bitN pc (mk2 (.shl k) s t)), [mk2 .le (.lit 0) t])
  | .shr => some (.int k (bitN pc (mk2 (.shr k) s t)), [mk2 .le (.lit 0) t])
def tbT (t : T) : T := bif t.is01 then t else mkIte t (.lit 1) (.lit 0)
theorem tbT_den [Fs] (E : Env) (t : T) : (tbT t).den E = tb (t.tr E) := by
  unfold tbT
  cases h : t.is01
  · simp only [cond_false, den_ite, T.den]; cases t.tr E <;> rfl
  · simp only [cond_true]; exact (T.is01_tb E h).symm
def strEq (x y : ByteArray) : Bool := x.toList == y.toList
/-- Two values of one cell, held against each other. -/
def eqC (x y : C) : Option T :=
  match x, y with
  | .int k s, .int k' t => if k = k' then some (mk2 .eq s t) else none
  | .bool s, .bool t => some (mk2 .eq (tbT s) (tbT t))
  | _, _ => none
def evBin (P : Program) (st : St) (op : BinOp) (t : TypeId) (x y : Operand) : Option OpR :=
  match opC st x with
  | some (.int k u) => match opC st y with
    | some (.int k' v) => match op with
      | .shl | .shr => (intOp st.pc op k u v).map fun (c, rq) => ⟨.a (.c c), st.m, rq⟩
      | _ => if k = k' then (intOp st.pc op k u v).map fun (c, rq) => ⟨.a (.c c), st.m, rq⟩ else none
    | _ => none
  | some (.bool u) => match opC st y with
    | some (.bool v) => match P.underlying t with
      | some .bool => match op with
        | .eql => some ⟨.a (.c (.bool (norm st.pc (mk2 .eq (tbT u) (tbT v))))), st.m, []⟩
        | .neq => some ⟨.a (.c (.bool (norm st.pc (mkNot (mk2 .eq (tbT u) (tbT v)))))), st.m, []⟩
        | _ => none
      | _ => none
    | _ => none
  | some .nilp => match opC st y with
    | some .nilp => match P.underlying t with
      | some (.pointer _) => match op with
        | .eql => some ⟨.a (.c (.bool (.lit 1))), st.m, []⟩
        | .neq => some ⟨.a (.c (.bool (.lit 0))), st.m, []⟩
        | _ => none
      | _ => none
    | some (.ptr _ _) => match P.underlying t with
      | some (.pointer _) => match op with
        | .eql => some ⟨.a (.c (.bool (.lit 0))), st.m, []⟩
        | .neq => some ⟨.a (.c (.bool (.lit 1))), st.m, []⟩
        | _ => none
      | _ => none
    | _ => none
  | some (.ptr _ _) => match opC st y with
    | some .nilp => match P.underlying t with
      | some (.pointer _) => match op with
        | .eql => some ⟨.a (.c (.bool (.lit 0))), st.m, []⟩
        | .neq => some ⟨.a (.c (.bool (.lit 1))), st.m, []⟩
        | _ => none
      | _ => none
    | _ => none
  | _ => none
theorem tr_eq2 [Fs] (E : Env) (s t : T) : (mk2 .eq s t).tr E = (s.den E == t.den E) := by simp only [T.tr, mk2_den, O2.den, tb_ne]
theorem tr_ne2 [Fs] (E : Env) (s t : T) : (mkNot (mk2 .eq s t)).tr E = (s.den E != t.den E) := by simp only [T.tr, mkNot_den, mk2_den, O2.den, tb_ne, tb_eq0]; rfl
theorem tr_lt2 [Fs] (E : Env) (s t : T) : (mk2 .lt s t).tr E = decide (s.den E < t.den E) := by simp only [T.tr, mk2_den, O2.den, tb_ne]; rfl
theorem tr_le2 [Fs] (E : Env) (s t : T) : (mk2 .le s t).tr E = decide (s.den E ≤ t.den E) := by simp only [T.tr, mk2_den, O2.den, tb_ne]; rfl
theorem intOp_ok [Fs] (h : pcOk X.E st.pc) {op : BinOp} {k k' : IntKind} {s t : T} {c : C} {rq : List T} (hr : intOp st.pc op k s t = some (c, rq)) (hk : op = .shl ∨ op = .shr ∨ k = k') (hq : ∀ t ∈ rq, t.tr X.E = true) (ty : TypeId) (n : Nat) :
    ∃ v, (∀ w, (binOp op ty (.int k (s.den X.E)) (.int k' (t.den X.E))).run P w = .ok v w) ∧ Cr X.E ρ n c v := by
  cases op <;> simp only [intOp, Option.some.injEq, Prod.mk.injEq] at hr <;> obtain ⟨rfl, rfl⟩ := hr
  case shl =>
    have h1 := hq _ List.mem_cons_self
    simp only [T.tr, mk2_den, O2.den, tb_ne, leb_t, T.den] at h1
    exact ⟨_, fun w => by simp [binOp, Op.shift, Int.not_lt.2 h1]; rfl, by simp only [Cr, bitN_den h, mk2_den, O2.den]⟩
  case shr =>
    have h1 := hq _ List.mem_cons_self
    simp only [T.tr, mk2_den, O2.den, tb_ne, leb_t, T.den] at h1
    exact ⟨_, fun w => by simp [binOp, Op.shift, Int.not_lt.2 h1]; rfl, by simp only [Cr, bitN_den h, mk2_den, O2.den]⟩
  all_goals (have hk' : k = k' := by simpa using hk)
  all_goals subst hk'
  case quo =>
    have h1 := hq _ List.mem_cons_self
    simp only [T.tr, mkNot_den, mk2_den, O2.den, tb_ne, T.den, tb_eq0, Bool.not_eq_true', beq_eq_false_iff_ne] at h1
    exact ⟨_, fun w => by simp [binOp, Op.intDiv, h1]; rfl, by simp only [Cr, mkW_den h, mk2_den, O2.den]⟩
  case rem =>
    have h1 := hq _ List.mem_cons_self
    simp only [T.tr, mkNot_den, mk2_den, O2.den, tb_ne, T.den, tb_eq0, Bool.not_eq_true', beq_eq_false_iff_ne] at h1
    exact ⟨_, fun w => by simp [binOp, Op.intDiv, h1]; rfl, by simp only [Cr, one_den h, mk2_den, O2.den]⟩
  case add => exact ⟨_, fun w => by simp [binOp, Op.intArith]; rfl, by simp only [Cr, mkW_den h, mk2_den, O2.den]⟩
  case sub => exact ⟨_, fun w => by simp [binOp, Op.intArith]; rfl, by simp only [Cr, mkW_den h, mk2_den, O2.den]⟩
  case mul => exact ⟨_, fun w => by simp [binOp, Op.intArith]; rfl, by simp only [Cr, mkW_den h, mk2_den, O2.den]⟩
  case and => exact ⟨_, fun w => by simp [binOp, Op.intBits]; rfl, by simp only [Cr, bitN_den h, mk2_den, O2.den, BitVec.toNat_and]; rfl⟩
  case or => exact ⟨_, fun w => by simp [binOp, Op.intBits]; rfl, by simp only [Cr, bitN_den h, mk2_den, O2.den, BitVec.toNat_or]; rfl⟩
  case xor => exact ⟨_, fun w => by simp [binOp, Op.intBits]; rfl, by simp only [Cr, mk2_den, O2.den, BitVec.toNat_xor]; rfl⟩
  case andNot => exact ⟨_, fun w => by simp only [binOp, ne_eq, not_true_eq_false, if_false, Op.intBits]; rfl, by simp only [Cr, mk2_den, O2.den]⟩
  case eql => exact ⟨_, fun w => by simp [binOp, Op.intCmp]; rfl, by simp only [Cr, norm_tr h, tr_eq2]⟩
  case neq => exact ⟨_, fun w => by simp [binOp, Op.intCmp]; rfl, by simp only [Cr, norm_tr h, tr_ne2]⟩
  case lss => exact ⟨_, fun w => by simp [binOp, Op.intCmp]; rfl, by simp only [Cr, norm_tr h, tr_lt2]⟩
  case leq => exact ⟨_, fun w => by simp [binOp, Op.intCmp]; rfl, by simp only [Cr, norm_tr h, tr_le2]⟩
  case gtr => exact ⟨_, fun w => by simp [binOp, Op.intCmp]; rfl, by simp only [Cr, norm_tr h, tr_lt2]⟩
  case geq => exact ⟨_, fun w => by simp [binOp, Op.intCmp]; rfl, by simp only [Cr, norm_tr h, tr_le2]⟩
theorem run_eqP1 [Fs] {w : World} {t e : TypeId} (hu : P.underlying t = some (.pointer e)) (d : Nat) (q : Option Addr) : (Op.equalIn (d + 1) t (.pointer none) (.pointer q)).run P w = .ok q.isNone w := by
  cases q <;> simp [Op.equalIn, run_underlying hu]
theorem run_eqP2 [Fs] {w : World} {t e : TypeId} (hu : P.underlying t = some (.pointer e)) (d : Nat) (p : Addr) : (Op.equalIn (d + 1) t (.pointer (some p)) (.pointer none)).run P w = .ok false w := by
  simp [Op.equalIn, run_underlying hu]
theorem run_eqOp [Fs] {w : World} {t : TypeId} {p q : Option Addr} {b : Bool} (he : (Op.equalIn (9999 + 1) t (.pointer p) (.pointer q)).run P w = .ok b w) (x y : Operand) (yt : TypeId) (ha : a.eval x = .pointer p) (hb : a.eval y = .pointer q) :
    (o.op = .binOp .eql t x y yt → (execOp a.eval o).run P w = .ok (.value (.bool b)) w) ∧ (o.op = .binOp .neq t x y yt → (execOp a.eval o).run P w = .ok (.value (.bool (!b))) w) := by
  have e1 : (binOp .eql t (.pointer p) (.pointer q)).run P w = .ok (.bool b) w := by
    show Sem.run P (Op.equal t (.pointer p) (.pointer q) >>= fun r => pure (Value.bool r)) w = _
    rw [Sem.run_bind]; show (Sem.run P (Op.equalIn (9999 + 1) t (.pointer p) (.pointer q)) w).andThen _ = _
    rw [he]; rfl
  have e2 : (binOp .neq t (.pointer p) (.pointer q)).run P w = .ok (.bool (!b)) w := by
    show Sem.run P (Op.equal t (.pointer p) (.pointer q) >>= fun r => pure (Value.bool (!r))) w = _
    rw [Sem.run_bind]; show (Sem.run P (Op.equalIn (9999 + 1) t (.pointer p) (.pointer q)) w).andThen _ = _
    rw [he]; rfl
  refine ⟨fun ho => ?_, fun ho => ?_⟩
  · simp [execOp, ho, ha, hb, eqGuard, e1]
  · simp [execOp, ho, ha, hb, eqGuard, e2]
theorem evBin_ok [Fs] (h : SRel X ρ st a) {op : BinOp} {t yt : TypeId} {x y : Operand} (ho : o.op = .binOp op t x y yt) {r : OpR} (hr : evBin P st op t x y = some r) : OpQ P X ρ st a o r := by
  unfold evBin at hr
  split at hr
  · rename_i k u hx
    have hxv := opC_ok h hx
    simp only [Cr] at hxv
    split at hr
    · rename_i k' v hy
      have hyv := opC_ok h hy
      simp only [Cr] at hyv
      have key : ∀ c rq, intOp st.pc op k u v = some (c, rq) → (op = .shl ∨ op = .shr ∨ k = k') → OpQ P X ρ st a o ⟨.a (.c c), st.m, rq⟩ := by
        intro c rq hi hk
        refine ⟨rfl, fun hq => ?_⟩
        obtain ⟨v', h1, h2⟩ := intOp_ok (P := P) (ρ := ρ) h.pc hi hk hq t st.m.length
        refine ⟨v', fun w => ?_, h2⟩
        have hg : (eqGuard op t x y (.int k (u.den X.E)) (.int k' (v.den X.E))).run P w = .ok () w := by
          cases op <;> simp [eqGuard]
        simp [execOp, ho, hxv, hyv, hg, h1]
      split at hr
      · rw [Option.map_eq_some_iff] at hr
        obtain ⟨⟨c, rq⟩, hi, rfl⟩ := hr
        exact key c rq hi (.inl rfl)
      · rw [Option.map_eq_some_iff] at hr
        obtain ⟨⟨c, rq⟩, hi, rfl⟩ := hr
        exact key c rq hi (.inr (.inl rfl))
      · split at hr
        · rename_i hk
          rw [Option.map_eq_some_iff] at hr
          obtain ⟨⟨c, rq⟩, hi, rfl⟩ := hr
          exact key c rq hi (.inr (.inr hk))
        · cases hr
    · cases hr
  · rename_i u hx
    have hxv := opC_ok h hx
    simp only [Cr] at hxv
    split at hr
    · rename_i v hy
      have hyv := opC_ok h hy
      simp only [Cr] at hyv
      split at hr
      · rename_i hu
        have hE := fun w => run_equalIn_bool' (P := P) w 9999 t (u.tr X.E) (v.tr X.E) hu
        have hb : (mk2 O2.eq (tbT u) (tbT v)).tr X.E = (u.tr X.E == v.tr X.E) := by
          simp only [T.tr, mk2_den, O2.den, tb_ne, tbT_den]
          cases (u.den X.E != 0) <;> cases (v.den X.E != 0) <;> rfl
        split at hr
        · cases hr
          refine OpQ.pure (v := .bool (u.tr X.E == v.tr X.E)) fun w _ => ⟨?_, ?_⟩
          · simp [execOp, ho, hxv, hyv, eqGuard, binOp, Op.equal, Op.maxDepth, hE]
          · simp only [Lr, Ar, Cr, norm_tr h.pc, hb]
        · cases hr
          refine OpQ.pure (v := .bool (!(u.tr X.E == v.tr X.E))) fun w _ => ⟨?_, ?_⟩
          · simp [execOp, ho, hxv, hyv, eqGuard, binOp, Op.equal, Op.maxDepth, hE]
          · simp only [Lr, Ar, Cr, norm_tr h.pc]
            rw [← hb]
            simp only [T.tr, mkNot_den, tb_ne]
            cases hz : (mk2 O2.eq (tbT u) (tbT v)).den X.E == 0 <;> simp [bne, hz]
        · cases hr
      · cases hr
    · cases hr
  · rename_i hx
    have hxv := opC_ok h hx
    simp only [Cr] at hxv
    split at hr
    · rename_i hy
      have hyv := opC_ok h hy
      simp only [Cr] at hyv
      split at hr
      · rename_i e hu
        split at hr <;> cases hr
        · exact OpQ.pure (v := .bool true) fun w _ => ⟨(run_eqOp (run_eqP1 hu 9999 none) x y yt hxv hyv).1 ho, rfl⟩
        · exact OpQ.pure (v := .bool false) fun w _ => ⟨(run_eqOp (run_eqP1 hu 9999 none) x y yt hxv hyv).2 ho, rfl⟩
      · cases hr
    · rename_i hy
      obtain ⟨_, hyv⟩ := opC_ok h hy
      split at hr
      · rename_i e hu
        split at hr <;> cases hr
        · exact OpQ.pure (v := .bool false) fun w _ => ⟨(run_eqOp (run_eqP1 hu 9999 (some _)) x y yt hxv hyv).1 ho, rfl⟩
        · exact OpQ.pure (v := .bool true) fun w _ => ⟨(run_eqOp (run_eqP1 hu 9999 (some _)) x y yt hxv hyv).2 ho, rfl⟩
      · cases hr
    · cases hr
  · rename_i hx
    obtain ⟨_, hxv⟩ := opC_ok h hx
    split at hr
    · rename_i hy
      have hyv := opC_ok h hy
      simp only [Cr] at hyv
      split at hr
      · rename_i e hu
        split at hr <;> cases hr
        · exact OpQ.pure (v := .bool false) fun w _ => ⟨(run_eqOp (run_eqP2 hu 9999 _) x y yt hxv hyv).1 ho, rfl⟩
        · exact OpQ.pure (v := .bool true) fun w _ => ⟨(run_eqOp (run_eqP2 hu 9999 _) x y yt hxv hyv).2 ho, rfl⟩
      · cases hr
    · cases hr
  · cases hr

end ops
end Go.Sy
