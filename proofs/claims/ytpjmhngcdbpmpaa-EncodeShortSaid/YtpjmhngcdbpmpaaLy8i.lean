/- Part 8i of a checked reader of Go texts in their model form: it runs a function at terms in the place of numbers, and each part proves that its answers hold of the model. -/
import Derived.Test.YtpjmhngcdbpmpaaLy8g
import Derived.Laws.CopyRow
import Derived.Laws.IdiomCopy
namespace Go.Sy
section ops
variable {P : Program} {X : Cx} {ρ : Nat → Rb} {st : St} {a : Act} {w : World} {o : Oper}
/-- 'copy', of elements of one cell. -/
def evCopy (P : Program) (st : St) (c : Call) : Option OpR :=
  match c.callee, c.args.toList, c.argTypes.toList with
  | .builtin .copy, [d, x], [t, _] => match P.underlying t with
    | some (.slice e) => bif (sizeT P e).getD 0 == 1 then match opN st d, opN st x with
      | some (.slc b off len), some cx => match st.m[b]?, cellsSrc st 1 cx with
        | some (.cells ty xs), some (k, ys) => bif Nat.beq (Nat.mod ty 2) 0 && Nat.ble (off + Nat.min k len) xs.length then
            some ⟨.a (.c (.int .i64 (.lit (Nat.min k len : Nat)))), st.m.set b (.cells ty (xs.take off ++ ys.take (Nat.min k len) ++ xs.drop (off + Nat.min k len))), []⟩ else none
        | _, _ => none
      | _, _ => none
      else none
    | _ => none
  | _, _, _ => none
theorem evCopy_ok [Fs] (h : Rel X ρ st a w) {c : Call} (ho : o.op = .call c) {r : OpR} (hr : evCopy P st c = some r) : OpOk P X ρ st a w o r := by
  unfold evCopy at hr
  split at hr
  case h_2 => cases hr
  rename_i d x t t' hcal hargs hty
  split at hr
  case h_2 => cases hr
  rename_i e hu
  cases hsz : (sizeT P e).getD 0 == 1 <;> simp only [hsz, cond_true, cond_false] at hr
  · cases hr
  have hsz1 : (P.info? e).map (·.size) = some 1 := by
    rw [beq_iff_eq] at hsz
    unfold sizeT at hsz
    cases hq : (P.info? e).map (·.size) with
    | none => rw [hq] at hsz; cases hsz
    | some s => rw [hq] at hsz; exact congrArg some hsz
  split at hr
  case h_2 => cases hr
  rename_i b off len cx hd hx
  split at hr
  case h_2 => cases hr
  rename_i ty xs k ys hm hsrc
  cases hc : Nat.beq (Nat.mod ty 2) 0 && Nat.ble (off + Nat.min k len) xs.length <;> simp only [hc, cond_true, cond_false] at hr
  · cases hr
  rw [Bool.and_eq_true, Nat.ble_eq] at hc
  obtain ⟨hro, hle⟩ := hc
  cases hr
  obtain ⟨d1, dcap, d2, d3⟩ := opN_ok h.toSRel hd
  obtain ⟨ad, scap, news, s3, s4, s5, s6, s7, s8⟩ := cellsSrc_ok h (opN_ok h.toSRel hx) hsrc
  rw [Nat.mul_one] at s4 s6
  obtain ⟨cs, m1, m2, m3⟩ := h.mr.mem _ _ hm
  generalize hN : Nat.min k len = N at *
  have hNk : N ≤ k := by rw [← hN]; exact Nat.min_le_left _ _
  have hexec : ∀ v' w', (Builtin.copy_ #[t, t'] o.type #[.slice (some ⟨(ρ b).g, off, none⟩) len dcap, .slice ad k scap]).run P w = .ok v' w' → (execOp a.eval o).run P w = .ok (.value v') w' := by
    intro v' w' hrun
    have e1 : c.args = #[d, x] := by apply Array.ext'; simpa using hargs
    have e2 : c.argTypes = #[t, t'] := by apply Array.ext'; simpa using hty
    simp only [execOp, ho, resolve, invoke, builtin, hcal, e1, e2, Sem.run_bind, Sem.run_pure, Result.andThen_ok, List.map_toArray, List.map_cons, List.map_nil, d2, s3, hrun]
  have hys : (ys.take N).length = N := by rw [List.length_take]; omega
  have hnl : (news.take N).length = N := by rw [List.length_take]; omega
  have hcur : off + N ≤ cs.size := Nat.le_trans hle m3.1
  have hF : F2 (Cr X.E ρ st.m.length) (ys.take N) (news.take N).toArray := by
    refine ⟨by simp [hys, hnl], fun p y hy => ?_⟩
    rw [List.getElem?_take] at hy
    split at hy
    · rename_i hp
      obtain ⟨u, h1, h2⟩ := s7 p y hy
      exact ⟨u, by simp [hp, h1], h2⟩
    · cases hy
  have hspl := F2p.splice m3 hF (o := off) (by rw [hys]; exact hle)
  rw [hys] at hspl
  by_cases hz : N = 0
  · subst hz
    have hr0 := run_copy_none (P := P) w t t' o.type e (some ⟨(ρ b).g, off, none⟩) ad len dcap k scap hu hsz1 (by simpa using hN)
    refine fun _ => ⟨.int .i64 0, w, ρ, .inl (hexec _ _ hr0), rfl, ?_, fun _ _ => rfl, by simp⟩
    have : st.m.set b (.cells ty (xs.take off ++ ys.take 0 ++ xs.drop (off + 0))) = st.m := by
      simp only [List.take_zero, List.append_nil, Nat.add_zero, List.take_append_drop]
      obtain ⟨hb, he⟩ := List.getElem?_eq_some_iff.1 hm
      rw [← he]; exact List.set_getElem_self hb
    rw [this]; exact h.mr
  · obtain ⟨d0, rfl, hcell⟩ := s8 (by omega)
    have hr1 := run_copy_row (P := P) w t t' o.type e (ρ b).g off len dcap d0 k scap cs _ (news.take N) hu hsz1 m1 (by rw [hnl, hN]) (fun j v hj => by
      rw [List.getElem?_take] at hj
      split at hj
      · exact hcell j v hj
      · cases hj) (by rw [hnl]; exact hcur) (fun v hv => s5 v (List.mem_of_mem_take hv))
    rw [hnl] at hr1
    refine fun _ => ⟨goInt N, _, ρ, .inl (hexec _ _ hr1), rfl, ?_, fun _ _ => rfl, by simp⟩
    have e1 : (cs.toList.take off ++ news.take N ++ cs.toList.drop (off + N)).toArray = (cs.toList.take off).toArray ++ (news.take N).toArray ++ (cs.toList.drop (off + N)).toArray := by
      apply Array.ext'; simp
    rw [e1]
    exact h.mr.set hm (ro_of hro) hspl (by rw [← m2]; simp [hnl]; omega)
/-- A literal number among the operands. -/
def litOf (st : St) (x : Operand) : Option Nat := match opC st x with
  | some (.int _ (.lit n)) => bif leb 0 n then some n.toNat else none
  | _ => none
theorem litOf_ok [Fs] (h : SRel X ρ st a) {x : Operand} {n : Nat} (hx : litOf st x = some n) : ∃ k, a.eval x = .int k n := by
  unfold litOf at hx
  split at hx
  · rename_i k m hc
    cases hq : leb 0 m <;> simp only [hq, cond_true, cond_false] at hx
    · cases hx
    · cases hx
      rw [leb_t] at hq
      have := opC_ok h hc
      simp only [Cr, T.den] at this
      exact ⟨k, by rw [this, Int.toNat_of_nonneg hq]⟩
  · cases hx
def loOf (st : St) : Option Operand → Option Nat
  | none => some 0
  | some x => litOf st x
def hiOf (st : St) (n : Nat) : Option Operand → Option Nat
  | none => some n
  | some x => litOf st x
theorem bounds_run [Fs] (h : SRel X ρ st a) {lo hi : Option Operand} {l hh n cap : Nat} {isS : Bool} (hl : loOf st lo = some l) (hhi : hiOf st n hi = some hh) (h1 : l ≤ hh) (h2 : hh ≤ cap) (w : World) :
    (Instr.sliceBounds isS n cap (lo.map a.eval) (hi.map a.eval) none).run P w = .ok (l, hh, cap) w := by
  have s1 : ∀ k, (Instr.sliceBound (.int k (l : Int)) hh .sliceB).run P w = .ok l w := fun k => by
    simpa using sliceBound_run (P := P) (k := k) (i := (l : Int)) (y := hh) (code := .sliceB) (w := w) (by omega) (by omega)
  have s2 : ∀ k code, (Instr.sliceBound (.int k (hh : Int)) cap code).run P w = .ok hh w := fun k code => by
    simpa using sliceBound_run (P := P) (k := k) (i := (hh : Int)) (y := cap) (code := code) (w := w) (by omega) (by omega)
  cases lo with
  | none =>
    cases hl
    cases hi with
    | none => cases hhi; simp [Instr.sliceBounds]
    | some y =>
      obtain ⟨k, hk⟩ := litOf_ok h hhi
      cases isS <;> simp [Instr.sliceBounds, hk, s2]
  | some x =>
    obtain ⟨k, hk⟩ := litOf_ok h hl
    cases hi with
    | none => cases hhi; simp [Instr.sliceBounds, hk, s1]
    | some y =>
      obtain ⟨k', hk'⟩ := litOf_ok h hhi
      cases isS <;> simp [Instr.sliceBounds, hk, hk', s1, s2]
/-- A part of a slice whose cells are known; of an array. -/
def evSliceC (P : Program) (st : St) (t : TypeId) (x : Operand) (lo hi : Option Operand) : Option OpR :=
  match P.underlying t with
  | some (.slice e) => match sizeT P e, opC st x with
    | some sz, some (.sle b z k) => match loOf st lo, hiOf st k hi with
      | some l, some h => bif Nat.beq z sz && Nat.ble l h && Nat.ble h k then
          bif Nat.beq l 0 then some ⟨.a (.c (.sle b z h)), st.m, []⟩
          else bif Nat.blt l h then some ⟨.a (.c (.slc b (l * sz) (h - l))), st.m, []⟩
          else some ⟨.a (.c (.slr b sz (.lit 0) (.lit 0))), st.m, []⟩
        else none
      | _, _ => none
    | some sz, some (.slc b o k) => match loOf st lo, hiOf st k hi with
      | some l, some h => bif Nat.ble l h && Nat.ble h k then
          bif Nat.blt l h then some ⟨.a (.c (.slc b (o + l * sz) (h - l))), st.m, []⟩
          else some ⟨.a (.c (.slr b sz (.lit 0) (.lit 0))), st.m, []⟩
        else none
      | _, _ => none
    | some _, some .nils => match loOf st lo, hiOf st 0 hi with
      | some 0, some 0 => some ⟨.a (.c .nils), st.m, []⟩
      | _, _ => none
    | _, _ => none
  | some (.array n e) => match opC st x with
    | some (.ptr b o) => match sizeT P e, loOf st lo, hiOf st n hi with
      | some sz, some l, some h => bif Nat.blt l h && Nat.ble h n then some ⟨.a (.c (.slc b (o + l * sz) (h - l))), st.m, []⟩ else none
      | _, _, _ => none
    | _ => none
  | _ => none
theorem evSliceC_ok [Fs] (h : SRel X ρ st a) {t : TypeId} {x : Operand} {lo hi : Option Operand} (ho : o.op = .slice t x lo hi none) {r : OpR} (hr : evSliceC P st t x lo hi = some r) : OpQ P X ρ st a o r := by
  unfold evSliceC at hr
  split at hr
  · rename_i e hu
    have hrun : ∀ (ad : Option Addr) (n cap l hh sz : Nat) (w : World), a.eval x = .slice ad n cap → sizeT P e = some sz → loOf st lo = some l → hiOf st n hi = some hh → l ≤ hh → hh ≤ cap →
        (execOp a.eval o).run P w = .ok (.value (.slice (if cap = l then ad else ad.map (·.add (l * sz))) (hh - l) (cap - l))) w := by
      intro ad n cap l hh sz w hv hs hl hhi h1 h2
      have hb := bounds_run (P := P) (isS := true) (n := n) (cap := cap) h hl hhi h1 h2 w
      simp [execOp, ho, Instr.sliceAt, Instr.slice, run_underlying hu, hv, hb, run_sizeT hs]
    split at hr
    · rename_i sz b z k hs hx
      obtain ⟨d1, cap, d2, d3, d4, d5⟩ := opC_ok h hx
      split at hr
      · rename_i l hh hl hhi
        cases hc : Nat.beq z sz && Nat.ble l hh && Nat.ble hh k <;> simp only [hc, cond_true, cond_false] at hr
        · cases hr
        simp only [Bool.and_eq_true, Nat.ble_eq] at hc
        obtain ⟨⟨c1, c2⟩, c3⟩ := hc
        have c1 := Nat.eq_of_beq_eq_true c1
        subst c1
        have hr0 := fun w => hrun _ k cap l hh z w d2 hs hl hhi c2 (by omega)
        cases hl0 : Nat.beq l 0 <;> simp only [hl0, cond_true, cond_false] at hr
        · cases hlt : Nat.blt l hh <;> simp only [hlt, cond_true, cond_false] at hr
          · cases hr
            have hlt : ¬ l < hh := fun e => by rw [← Nat.blt_eq] at e; rw [e] at hlt; cases hlt
            refine OpQ.pure fun w _ => ⟨hr0 w, ?_⟩
            exact ⟨d1, by simp [T.den], by simp [T.den], _, _, by simp only [T.den, Int.toNat_zero]; rw [show hh - l = 0 by omega], by simp [T.den], fun hk => by simp [T.den] at hk⟩
          · cases hr
            rw [Nat.blt_eq] at hlt
            refine OpQ.pure fun w _ => ⟨hr0 w, ?_⟩
            exact ⟨d1, cap - l, by rw [if_neg (by omega)]; simp only [Option.map_some, addr_add, Nat.zero_add], by omega⟩
        · cases hr
          have hl0 := Nat.eq_of_beq_eq_true hl0
          subst hl0
          refine OpQ.pure fun w _ => ⟨hr0 w, ?_⟩
          refine ⟨d1, cap, ?_, by omega, d4, d5⟩
          simp only [Nat.zero_mul, Nat.sub_zero, Option.map_some, addr_add, Nat.zero_add]
          split <;> rfl
      · cases hr
    · rename_i sz b off k hs hx
      obtain ⟨d1, cap, d2, d3⟩ := opC_ok h hx
      split at hr
      · rename_i l hh hl hhi
        cases hc : Nat.ble l hh && Nat.ble hh k <;> simp only [hc, cond_true, cond_false] at hr
        · cases hr
        simp only [Bool.and_eq_true, Nat.ble_eq] at hc
        obtain ⟨c2, c3⟩ := hc
        have hr0 := fun w => hrun _ k cap l hh sz w d2 hs hl hhi c2 (by omega)
        cases hlt : Nat.blt l hh <;> simp only [hlt, cond_true, cond_false] at hr
        · cases hr
          have hlt : ¬ l < hh := fun e => by rw [← Nat.blt_eq] at e; rw [e] at hlt; cases hlt
          refine OpQ.pure fun w _ => ⟨hr0 w, ?_⟩
          exact ⟨d1, by simp [T.den], by simp [T.den], _, _, by simp only [T.den, Int.toNat_zero]; rw [show hh - l = 0 by omega], by simp [T.den], fun hk => by simp [T.den] at hk⟩
        · cases hr
          rw [Nat.blt_eq] at hlt
          refine OpQ.pure fun w _ => ⟨hr0 w, ?_⟩
          exact ⟨d1, cap - l, by rw [if_neg (by omega)]; simp only [Option.map_some, addr_add], by omega⟩
      · cases hr
    · rename_i sz hs hx
      have d2 := opC_ok h hx
      simp only [Cr] at d2
      split at hr
      · rename_i hl hhi
        cases hr
        refine OpQ.pure fun w _ => ⟨hrun _ 0 0 0 0 sz w d2 hs hl hhi (Nat.le_refl _) (Nat.le_refl _), by simp [Lr, Ar, Cr]⟩
      · cases hr
    · cases hr
  · rename_i n e hu
    split at hr
    · rename_i b off hx
      obtain ⟨d1, d2⟩ := opC_ok h hx
      split at hr
      · rename_i sz l hh hs hl hhi
        cases hc : Nat.blt l hh && Nat.ble hh n <;> simp only [hc, cond_true, cond_false] at hr
        · cases hr
        simp only [Bool.and_eq_true, Nat.ble_eq, Nat.blt_eq] at hc
        obtain ⟨c2, c3⟩ := hc
        cases hr
        refine OpQ.pure (v := .slice (some ⟨(ρ b).g, off + l * sz, none⟩) (hh - l) (n - l)) fun w _ => ⟨?_, d1, n - l, rfl, by omega⟩
        have hb := bounds_run (P := P) (isS := false) (n := n) (cap := n) h hl hhi (by omega) c3 w
        have hne : ¬ n = l := by omega
        simp [execOp, ho, Instr.sliceAt, Instr.slice, run_underlying hu, d2, hb, run_sizeT hs, asAddr, Instr.sureAddr, hne, addr_add]
      · cases hr
    · cases hr
  · cases hr
end ops
end Go.Sy
namespace Go.Sy
section ops
variable {P : Program} {X : Cx} {ρ : Nat → Rb} {st : St} {a : Act} {w : World} {o : Oper}
/-- 'cap' of nothing; the lesser, the greater of two numbers. -/
def evBi2 (P : Program) (st : St) (c : Call) : Option OpR :=
  match c.callee, c.args.toList with
  | .builtin .cap, [x] => match (c.argTypes[0]?).bind P.underlying, opC st x with
    | some (.slice _), some .nils => some ⟨.a (.c (.int .i64 (.lit 0))), st.m, []⟩
    | _, _ => none
  | .builtin .min, [x, y] => match opC st x, opC st y with
    | some (.int k s), some (.int _ t) => some ⟨.a (.c (.int k (mkIte (mk2 .lt t s) t s))), st.m, []⟩
    | _, _ => none
  | .builtin .max, [x, y] => match opC st x, opC st y with
    | some (.int k s), some (.int _ t) => some ⟨.a (.c (.int k (mkIte (mk2 .lt s t) t s))), st.m, []⟩
    | _, _ => none
  | _, _ => none
theorem evBi2_ok [Fs] (h : SRel X ρ st a) {c : Call} (ho : o.op = .call c) {r : OpR} (hr : evBi2 P st c = some r) : OpQ P X ρ st a o r := by
  have args1 : ∀ {x}, c.args.toList = [x] → c.args = #[x] := fun hx => by apply Array.ext'; simpa using hx
  have args2 : ∀ {x y}, c.args.toList = [x, y] → c.args = #[x, y] := fun hx => by apply Array.ext'; simpa using hx
  have lt_tr : ∀ s t : T, (mk2 .lt s t).tr X.E = decide (s.den X.E < t.den X.E) := fun s t => by simp only [T.tr, mk2_den, O2.den, tb_ne]; rfl
  unfold evBi2 at hr
  split at hr
  · rename_i x hc hx
    split at hr
    · rename_i e ht hxx
      cases hr
      have hv := opC_ok h hxx
      simp only [Cr] at hv
      cases hat : c.argTypes[0]? with
      | none => rw [hat] at ht; cases ht
      | some t =>
        rw [hat] at ht
        have ht : P.underlying t = some (.slice e) := ht
        refine OpQ.pure (v := .int .i64 0) fun w _ => ⟨?_, rfl⟩
        simp [execOp, ho, resolve, invoke, builtin, hc, args1 hx, Builtin.cap_, hat, hv, run_underlying ht, goInt]
    · cases hr
  · rename_i x y hc hx
    split at hr
    · rename_i k s k' t h1 h2
      cases hr
      have v1 := opC_ok h h1
      have v2 := opC_ok h h2
      simp only [Cr] at v1 v2
      refine OpQ.pure (v := .int k (if t.den X.E < s.den X.E then t.den X.E else s.den X.E)) fun w _ => ⟨?_, ?_⟩
      · simp [execOp, ho, resolve, invoke, builtin, hc, args2 hx, Builtin.min_, Builtin.min2, v1, v2]
      · simp only [Lr, Ar, Cr, den_ite, lt_tr, decide_eq_true_eq]
    · cases hr
  · rename_i x y hc hx
    split at hr
    · rename_i k s k' t h1 h2
      cases hr
      have v1 := opC_ok h h1
      have v2 := opC_ok h h2
      simp only [Cr] at v1 v2
      refine OpQ.pure (v := .int k (if s.den X.E < t.den X.E then t.den X.E else s.den X.E)) fun w _ => ⟨?_, ?_⟩
      · simp [execOp, ho, resolve, invoke, builtin, hc, args2 hx, Builtin.max_, Builtin.max2, v1, v2]
      · simp only [Lr, Ar, Cr, den_ite, lt_tr, decide_eq_true_eq]
    · cases hr
  · cases hr
/-- 'append(nil, make(..)...)'. -/
def evAppZ (P : Program) (st : St) (c : Call) : Option OpR :=
  match c.callee, c.args.toList, c.argTypes.toList with
  | .builtin .append, [s, x], [t, ti] => match P.underlying t, P.underlying ti with
    | some (.slice e), some (.int _) => match P.info? e, zeroOf P e with
      | some inf, some z => match opC st s, litOf st x with
        | some .nils, some n => bif Nat.blt 0 n && Nat.ble n 65536 && Nat.ble inf.bytes 65536 && Nat.blt 0 z.length && Nat.beq z.length inf.size then
            some ⟨.a (.c (.sle st.m.length inf.size n)), st.m.set st.m.length .dead ++ [.cells (Nat.mul 2 e) ((List.range (n * inf.size)).map fun i => z.getD (i % z.length) .any)], []⟩ else none
        | _, _ => none
      | _, _ => none
    | _, _ => none
  | _, _, _ => none
theorem evAppZ_ok [Fs] (h : Rel X ρ st a w) {c : Call} (ho : o.op = .call c) {r : OpR} (hr : evAppZ P st c = some r) : OpOk P X ρ st a w o r := by
  unfold evAppZ at hr
  split at hr
  case h_2 => cases hr
  rename_i s x t ti hcal hargs hty
  split at hr
  case h_2 => cases hr
  rename_i e ik hu hui
  split at hr
  case h_2 => cases hr
  rename_i inf z hinf hz
  split at hr
  case h_2 => cases hr
  rename_i n hs hx
  cases hq : Nat.blt 0 n && Nat.ble n 65536 && Nat.ble inf.bytes 65536 && Nat.blt 0 z.length && Nat.beq z.length inf.size <;> simp only [hq, cond_true, cond_false] at hr
  · cases hr
  simp only [Bool.and_eq_true, Nat.blt_eq, Nat.ble_eq] at hq
  obtain ⟨⟨⟨⟨h0, h1⟩, h2⟩, h3⟩, h4⟩ := hq
  have h4 := Nat.eq_of_beq_eq_true h4
  cases hr
  have hsv := opC_ok h.toSRel hs
  simp only [Cr] at hsv
  obtain ⟨kk, hxv⟩ := litOf_ok h.toSRel hx
  obtain ⟨inf', zv, i1, i2, i3⟩ := zeroOf_info hz
  rw [hinf] at i1
  cases i1
  have hzs : zv.cells.size = inf.size := by rw [(i3 X.E ρ st.m.length).1, h4]
  obtain ⟨N, hN⟩ : ∃ N, N = grownCap w n 0 e := ⟨_, rfl⟩
  have hge : n ≤ N := hN ▸ grownCap_ge w n 0 e
  have hcm' : N ≤ maxLen := hN ▸ grownCap_le_maxLen w n 0 e (by simp only [maxLen]; omega)
  obtain ⟨cur', hcur⟩ : ∃ cur', cur' = Builtin.zeroCells zv.cells n ++ Builtin.zeroCells zv.cells (N - n) := ⟨_, rfl⟩
  have hrun : (execOp a.eval o).run P w = .ok (.value (.slice (some ⟨w.heap.size, 0, none⟩) n N)) (w.drew.alloc (.cells cur' e)) := by
    have e1 : c.args = #[s, x] := by apply Array.ext'; simpa using hargs
    have e2 : c.argTypes = #[t, ti] := by apply Array.ext'; simpa using hty
    have w1 : IntKind.i64.wrap (n : Int) = n := IntWalk.i64_in n (by omega)
    have c1 : ¬ ((n : Int) < 0) := by omega
    have hnb : n * inf.bytes ≤ 65536 * 65536 := Nat.mul_le_mul h1 h2
    have c2 : ¬ ((281474976710656 : Int) < n * inf.bytes) := by
      have : ((n * inf.bytes : Nat) : Int) = (n : Int) * inf.bytes := by simp
      omega
    have c3 : ¬ n = 0 := by omega
    have c4 : ¬ inf.size = 0 := by omega
    have c5 : ¬ (9223372036854775807 < (n : Int)) := by omega
    have c6 : ¬ (281474976710656 < Builtin.nextslicecap n 0 * inf.bytes) := by rw [nextslicecap_zero h0]; omega
    simp [execOp, ho, resolve, invoke, builtin, hcal, e1, e2, Builtin.append_, run_underlying hu, run_underlying hui, sizeOf, typeInfo, zeroValue, hinf, i2, hsv, hxv, asInt, asIntOf, w1, c1, c2, c3, c5, c6, Question.forced, run_firstCells_none, newRow, hN, grownCap]
    have c7 : ¬ n * inf.size = 0 := Nat.ne_of_gt (Nat.mul_pos h0 (by omega))
    rw [hcur, hN, if_neg c7]; rfl
  have hsz1 : (Builtin.zeroCells zv.cells n).size = n * inf.size := by rw [size_zeroCells, hzs]
  have hF : F2 (Cr X.E ρ st.m.length) ((List.range (n * inf.size)).map fun i => z.getD (i % z.length) .any) (Builtin.zeroCells zv.cells n) := by
    refine ⟨by rw [hsz1]; simp, fun i x hx => ?_⟩
    rw [List.getElem?_map, Option.map_eq_some_iff] at hx
    obtain ⟨j, hj, rfl⟩ := hx
    have hlt := (List.getElem?_eq_some_iff.1 hj).1
    simp at hlt
    rw [List.getElem?_range hlt] at hj
    cases hj
    have hm : i % z.length < z.length := Nat.mod_lt _ h3
    obtain ⟨v, g3, g4⟩ := (i3 X.E ρ st.m.length).2 (i % z.length) z[i % z.length] (List.getElem?_eq_getElem hm)
    refine ⟨v, ?_, ?_⟩
    · rw [← (i3 X.E ρ st.m.length).1] at g3
      have hlt' : i < n * zv.cells.size := by rw [hzs]; exact hlt
      simp only [Builtin.zeroCells, Array.getElem?_map, Array.getElem?_range, hlt', if_true, Option.map_some, getElem!_def, g3]
    · have : z.getD (i % z.length) C.any = z[i % z.length] := by simp [List.getD, hm]
      rw [this]; exact g4
  have hcs : cur'.size = N * inf.size := by
    rw [hcur, Array.size_append, size_zeroCells, size_zeroCells, hzs, ← Nat.add_mul]
    congr 1; omega
  refine fun _ => ⟨_, _, upd ρ st.m.length ⟨w.heap.size, cur'.size, 0⟩, .inl hrun, ?_, ?_, fun i hi => upd_ne _ _ (Nat.ne_of_lt hi), by simp⟩
  · exact ⟨by simp, N, by simp only [upd_same], hge, hcm', by simp only [upd_same]; exact hcs.symm⟩
  · have hgr : w.grownBy (w.drew.alloc (.cells cur' e)) none := ⟨rfl, rfl, rfl, by simp, fun k hk _ => heap_alloc_old w.drew _ hk⟩
    refine h.mr.move (b := st.m.length) (fun i c hne hi hc => ?_) (Fr.grown h.mr hgr (fun g hg => by cases hg)) (.inl h.mr.fr.size) fun ρ' n' hn' hρ' => ⟨cur', by rw [tyw]; exact heap_alloc_new w.drew _, rfl, ?_⟩
    · have := h.mr.live_lt hi hc
      exact ⟨hgr.block _ this (by simp), by simp only; omega⟩
    · refine ⟨by rw [hcs]; simp; exact Nat.mul_le_mul_right _ hge, fun i x hx => ?_⟩
      obtain ⟨v, g1, g2⟩ := hF.2 i x hx
      refine ⟨v, ?_, g2.mono hρ' hn'⟩
      rw [hcur, Array.getElem?_append, if_pos (Array.getElem?_eq_some_iff.1 g1).1]
      exact g1
end ops
end Go.Sy
