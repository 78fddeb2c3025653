/- Part 8d of a checked reader of Go texts in their model form: it runs a function at terms in the place of numbers, and each part proves that its answers hold of the model. -/
import Derived.Test.YtddfbikeaipepaaHy8c
namespace Go.Sy

/-! rows: addresses, lengths, parts, new ones -/
/-- A slice of a row: block, stride, first element, length. -/
def rowOf : C → Option (Nat × Nat × T × T)
  | .slr b z o n => some (b, z, o, n)
  | .sln b z n => some (b, z, .lit 0, n)
  | _ => none
section
variable {E : Env} {ρ : Nat → Rb} {N : Nat}
theorem rowOf_ok [Fs] {x : C} {b z : Nat} {o n : T} {v : Value} (h : rowOf x = some (b, z, o, n)) (hv : Cr E ρ N x v) : Cr E ρ N (.slr b z o n) v := by
  unfold rowOf at h
  split at h
  · cases h; exact hv
  · cases h
    obtain ⟨h1, h2, a, cap, h3, h4, _, h5, h6⟩ := hv
    exact ⟨h1, by simp [T.den], h2, a, cap, h3, h4, fun hk => by rw [(h6 hk).1, (h6 hk).2.2]; simp [T.den]⟩
  · cases h
end
def ptaOf : C → Option (Nat × Nat × T × Nat × T)
  | .pta b z i o r => some (b, z, i, o, r)
  | _ => none
theorem ptaOf_eq [Fs] {x : C} {b z o : Nat} {i r : T} (h : ptaOf x = some (b, z, i, o, r)) : x = .pta b z i o r := by
  unfold ptaOf at h
  split at h
  · cases h; rfl
  · cases h
def evIndexAddrA (P : Program) (st : St) (t : TypeId) (x ix : Operand) : Option OpR :=
  match opC st ix, opC st x with
  | some (.int _ i), some y => match P.underlying t with
    | some (.slice e) => match sizeT P e, rowOf y with
      | some sz, some (b, z, o, n) => bif Nat.beq sz z then some ⟨.a (.c (.pta b z (mk2 .add o i) 0 (.lit 0))), st.m, [mk2 .le (.lit 0) i, mk2 .lt i n]⟩ else none
      | _, _ => none
    | some (.array len e) => match sizeT P e, ptaOf y with
      | some sz, some (b, z, j, o, r) => bif Nat.beq sz 1 && isZ r then some ⟨.a (.c (.pta b z j o i)), st.m, [mk2 .le (.lit 0) i, mk2 .lt i (.lit len)]⟩ else none
      | _, _ => none
    | _ => none
  | _, _ => none
def evFieldA (P : Program) (st : St) (s : TypeId) (x : Operand) (f : Nat) : Option OpR :=
  match P.underlying s with
  | some (.struct fs) => match fs[f]?, opC st x with
    | some fd, some (.pta b z i o r) => match sizeT P fd.type with
      | some (_ + 1) => some ⟨.a (.c (.pta b z i (o + fd.offset) r)), st.m, []⟩
      | _ => none
    | _, _ => none
  | _ => none
def evNilA (st : St) (x : Operand) : Option OpR :=
  match opC st x with
  | some (.pta b z i o r) => some ⟨.a (.c (.pta b z i o r)), st.m, []⟩
  | _ => none
def evLenA (P : Program) (st : St) (t : TypeId) (x : Operand) : Option OpR :=
  match P.underlying t, opC st x with
  | some (.slice _), some y => match rowOf y with
    | some (_, _, _, n) => some ⟨.a (.c (.int .i64 n)), st.m, []⟩
    | none => none
  | some .string, some (.str n _) => some ⟨.a (.c (.int .i64 n)), st.m, []⟩
  | _, _ => none
section ops
variable {P : Program} {X : Cx} {ρ : Nat → Rb} {st : St} {a : Act} {w : World} {o : Oper}
theorem le_of [Fs] {E : Env} {s t : T} (h : (mk2 .le s t).tr E = true) : s.den E ≤ t.den E := by
  simpa only [T.tr, mk2_den, O2.den, tb_ne, leb_t] using h
theorem lt_of [Fs] {E : Env} {s t : T} (h : (mk2 .lt s t).tr E = true) : s.den E < t.den E := by
  simpa only [T.tr, mk2_den, O2.den, tb_ne, ltb_t] using h
theorem evIndexAddrA_ok [Fs] (h : SRel X ρ st a) {t : TypeId} {x ix : Operand} (ho : o.op = .indexAddr t x ix) {r : OpR} (hr : evIndexAddrA P st t x ix = some r) : OpQ P X ρ st a o r := by
  unfold evIndexAddrA at hr
  split at hr
  · rename_i k i y hi hx
    have hiv := opC_ok h hi
    simp only [Cr] at hiv
    split at hr
    · rename_i e hu
      split at hr
      · rename_i sz b z o' n hs hrow
        cases hz : Nat.beq sz z <;> simp only [hz, cond_true, cond_false] at hr
        · cases hr
        · cases hr
          have hz' := Nat.eq_of_beq_eq_true hz
          subst hz'
          obtain ⟨h1, h2, h3, ad, cap, h4, h5, h6⟩ := rowOf_ok hrow (opC_ok h hx)
          refine OpQ.pure (v := .pointer (some ⟨(ρ b).g, (ρ b).o + ((o'.den X.E + i.den X.E)).toNat * sz, none⟩)) fun w hq => ?_
          have q1 := le_of (hq _ List.mem_cons_self)
          have q2 := lt_of (hq _ (List.mem_cons_of_mem _ List.mem_cons_self))
          simp only [T.den] at q1
          refine ⟨?_, h1, by simp only [mk2_den, O2.den]; omega, by simp [T.den], by simp [mk2_den, O2.den, T.den]⟩
          have e1 : ad = some ⟨(ρ b).g, (ρ b).o + (o'.den X.E).toNat * sz, none⟩ := h6 (by omega)
          subst e1
          have e2 : (ρ b).o + (o'.den X.E + i.den X.E).toNat * sz = (ρ b).o + (o'.den X.E).toNat * sz + (i.den X.E).toNat * sz := by
            rw [Int.toNat_add h2 q1, Nat.add_mul, Nat.add_assoc]
          have e3 : i.den X.E < ((n.den X.E).toNat : Int) := by omega
          generalize (n.den X.E).toNat = N1 at h4 e3
          simp [execOp, ho, h4, hiv, Instr.indexAt, asIntOf, run_underlying hu, run_sizeT hs, q1, e3, addr_add, e2]
      · cases hr
    · rename_i len e hu
      split at hr
      · rename_i sz b z j o' r' hs hy
        cases hz : Nat.beq sz 1 && isZ r' <;> simp only [hz, cond_true, cond_false] at hr
        · cases hr
        · cases hr
          rw [Bool.and_eq_true] at hz
          have hz1 := Nat.eq_of_beq_eq_true hz.1
          subst hz1
          have hz2 := isZ_den (E := X.E) hz.2
          have hx' := opC_ok h hx
          rw [ptaOf_eq hy] at hx'
          obtain ⟨h1, h2, h3, h4⟩ := hx'
          refine OpQ.pure (v := .pointer (some ⟨(ρ b).g, (ρ b).o + (j.den X.E).toNat * z + o' + (i.den X.E).toNat, none⟩)) fun w hq => ?_
          have q1 := le_of (hq _ List.mem_cons_self)
          have q2 := lt_of (hq _ (List.mem_cons_of_mem _ List.mem_cons_self))
          simp only [T.den] at q1 q2
          refine ⟨?_, h1, h2, q1, rfl⟩
          rw [hz2] at h4
          simp [execOp, ho, h4, hiv, Instr.indexAt, asIntOf, Instr.sureAddr, run_underlying hu, run_sizeT hs, q1, q2, addr_add]
      · cases hr
    · cases hr
  · cases hr
theorem evFieldA_ok [Fs] (h : SRel X ρ st a) {s : TypeId} {x : Operand} {f : Nat} (ho : o.op = .fieldAddr s x f) {r : OpR} (hr : evFieldA P st s x f = some r) : OpQ P X ρ st a o r := by
  unfold evFieldA at hr
  split at hr
  · rename_i fs hu
    split at hr
    · rename_i fd b z i o' r' hf hx
      split at hr
      case h_2 => cases hr
      rename_i k hs
      cases hr
      obtain ⟨h1, h2, h3, h4⟩ := opC_ok h hx
      refine OpQ.pure (v := .pointer (some ⟨(ρ b).g, (ρ b).o + (i.den X.E).toNat * z + (o' + fd.offset) + (r'.den X.E).toNat, none⟩)) fun w _ => ⟨?_, h1, h2, h3, rfl⟩
      have e : (ρ b).o + (i.den X.E).toNat * z + o' + (r'.den X.E).toNat + fd.offset = (ρ b).o + (i.den X.E).toNat * z + (o' + fd.offset) + (r'.den X.E).toNat := by omega
      simp [execOp, ho, h4, Instr.fieldAt, Instr.sureAddr, fieldPlace, run_underlying hu, hf, run_sizeT hs, addr_add, e]
    · cases hr
  · cases hr
theorem evNilA_ok [Fs] (h : SRel X ρ st a) {x : Operand} (ho : o.op = .nilCheck x) {r : OpR} (hr : evNilA st x = some r) : OpQ P X ρ st a o r := by
  unfold evNilA at hr
  split at hr
  · rename_i b z i o' r' hx
    cases hr
    have hv := opC_ok h hx
    refine OpQ.pure (v := a.eval x) fun w _ => ⟨?_, hv⟩
    simp [execOp, ho, hv.2.2.2]
  · cases hr
theorem evLenA_ok [Fs] (h : SRel X ρ st a) {t : TypeId} {x : Operand} {c : Call} (ho : o.op = .call c) (hc : c.callee = .builtin .len) (hx : c.args.toList = [x]) (ht : c.argTypes[0]? = some t) {r : OpR} (hr : evLenA P st t x = some r) : OpQ P X ρ st a o r := by
  have hcall : ∀ w, (execOp a.eval o).run P w = ((Builtin.len_ c.argTypes o.type #[a.eval x]).run P w).andThen fun v w' => .ok (.value v) w' := by
    have : c.args = #[x] := by apply Array.ext'; simpa using hx
    intro w; simp [execOp, ho, resolve, invoke, builtin, hc, this]
  unfold evLenA at hr
  split at hr
  · rename_i e y hu hy
    split at hr
    · rename_i b z o' n hrow
      cases hr
      obtain ⟨h1, h2, h3, ad, cap, h4, h5, h6⟩ := rowOf_ok hrow (opC_ok h hy)
      refine OpQ.pure (v := .int .i64 (n.den X.E)) fun w _ => ⟨?_, rfl⟩
      rw [hcall]
      have : (((n.den X.E).toNat : Nat) : Int) = n.den X.E := by omega
      simp [Builtin.len_, ht, h4, run_underlying hu, goInt, this]
    · cases hr
  · rename_i n s hu hy
    cases hr
    obtain ⟨b, h1, h2, h3⟩ := opC_ok h hy
    refine OpQ.pure (v := .int .i64 (n.den X.E)) fun w _ => ⟨?_, rfl⟩
    rw [hcall]
    simp [Builtin.len_, ht, h1, run_underlying hu, goInt, h2]
  · cases hr

/-- A part of a slice, of a string. -/
def evSlice (P : Program) (st : St) (t : TypeId) (x : Operand) (lo hi : Option Operand) : Option OpR :=
  match (match lo with | some l => (match opC st l with | some (.int _ i) => some i | _ => none) | none => some (.lit 0)), opC st x with
  | some l, some y => match P.underlying t with
    | some (.slice e) => match sizeT P e, rowOf y with
      | some sz, some (b, z, o, n) => match (match hi with | some h => (match opC st h with | some (.int _ i) => some i | _ => none) | none => some n) with
        | some h => bif Nat.beq sz z then some ⟨.a (.c (.slr b z (mk2 .add o l) (mk2 .sub h l))), st.m, [mk2 .le (.lit 0) l, mk2 .le l h, mk2 .le h n]⟩ else none
        | none => none
      | _, _ => none
    | _ => none
  | _, _ => none
theorem sliceBound_run [Fs] {k : IntKind} {i : Int} {y : Nat} {code : BoundsCode} {w : World} (h0 : 0 ≤ i) (h1 : i ≤ y) : (Instr.sliceBound (.int k i) y code).run P w = .ok i.toNat w := by
  simp [Instr.sliceBound, asIntOf, h0, h1]
theorem evSlice_ok [Fs] (h : SRel X ρ st a) {t : TypeId} {x : Operand} {lo hi : Option Operand} (ho : o.op = .slice t x lo hi none) {r : OpR} (hr : evSlice P st t x lo hi = some r) : OpQ P X ρ st a o r := by
  unfold evSlice at hr
  split at hr
  · rename_i l y hl hy
    split at hr
    · rename_i e hu
      split at hr
      · rename_i sz b z o' n hs hrow
        split at hr
        · rename_i hh hhi
          cases hz : Nat.beq sz z <;> simp only [hz, cond_true, cond_false] at hr
          · cases hr
          · cases hr
            have hz' := Nat.eq_of_beq_eq_true hz
            subst hz'
            obtain ⟨h1, h2, h3, ad, cap, h4, h5, h6⟩ := rowOf_ok hrow (opC_ok h hy)
            refine ⟨rfl, fun hq => ?_⟩
            have q1 := le_of (hq _ List.mem_cons_self)
            have q2 := le_of (hq _ (List.mem_cons_of_mem _ List.mem_cons_self))
            have q3 := le_of (hq _ (List.mem_cons_of_mem _ (List.mem_cons_of_mem _ List.mem_cons_self)))
            simp only [T.den] at q1
            have hlv : (lo = none ∧ l.den X.E = 0) ∨ ∃ p k, lo = some p ∧ a.eval p = .int k (l.den X.E) := by
              cases lo with
              | none => left; simp at hl; subst hl; exact ⟨rfl, rfl⟩
              | some p =>
                right
                simp only at hl
                split at hl
                · rename_i k i hp
                  cases hl
                  exact ⟨p, k, rfl, opC_ok h hp⟩
                · cases hl
            have hhv : (hi = none ∧ hh.den X.E = n.den X.E) ∨ ∃ p k, hi = some p ∧ a.eval p = .int k (hh.den X.E) := by
              cases hi with
              | none => left; simp at hhi; subst hhi; exact ⟨rfl, rfl⟩
              | some p =>
                right
                simp only at hhi
                split at hhi
                · rename_i k i hp
                  cases hhi
                  exact ⟨p, k, rfl, opC_ok h hp⟩
                · cases hhi
            have hb : ∀ w, (Instr.sliceBounds true (n.den X.E).toNat cap (lo.map a.eval) (hi.map a.eval) none).run P w = .ok ((l.den X.E).toNat, (hh.den X.E).toNat, cap) w := by
              intro w
              have s1 : ∀ k, (Instr.sliceBound (.int k (l.den X.E)) (hh.den X.E).toNat .sliceB).run P w = .ok (l.den X.E).toNat w := fun k => sliceBound_run q1 (by omega)
              have s2 : ∀ k, (Instr.sliceBound (.int k (hh.den X.E)) cap .sliceAcap).run P w = .ok (hh.den X.E).toNat w := fun k => sliceBound_run (by omega) (by omega)
              rcases hlv with ⟨rfl, hl0⟩ | ⟨p, k, rfl, hp⟩ <;> rcases hhv with ⟨rfl, hh0⟩ | ⟨p', k', rfl, hp'⟩
              · simp [Instr.sliceBounds, hl0, hh0]
              · simp [Instr.sliceBounds, hl0, hp', s2]
              · rw [hh0] at s1
                simp [Instr.sliceBounds, hp, s1, hh0]
              · simp [Instr.sliceBounds, hp, hp', s1, s2]
            refine ⟨.slice (if cap = (l.den X.E).toNat then ad else ad.map (·.add ((l.den X.E).toNat * sz))) ((hh.den X.E).toNat - (l.den X.E).toNat) (cap - (l.den X.E).toNat), fun w => ?_, ?_⟩
            · simp [execOp, ho, Instr.sliceAt, Instr.slice, run_underlying hu, h4, hb, run_sizeT hs]
            · refine ⟨h1, by simp only [mk2_den, O2.den]; omega, by simp only [mk2_den, O2.den]; omega, _, _, by simp only [mk2_den, O2.den]; rw [show (hh.den X.E - l.den X.E).toNat = (hh.den X.E).toNat - (l.den X.E).toNat by omega], ?_, ?_⟩
              · simp only [mk2_den, O2.den]; omega
              · intro hk
                simp only [mk2_den, O2.den] at hk ⊢
                have e1 : ad = some ⟨(ρ b).g, (ρ b).o + (o'.den X.E).toNat * sz, none⟩ := h6 (by omega)
                rw [if_neg (by omega), e1]
                simp only [Option.map_some, addr_add, Int.toNat_add h2 q1, Nat.add_mul, Nat.add_assoc]
        · cases hr
      · cases hr
    · cases hr
  · cases hr

/-- Columns of noughts. -/
def zcols : List C → Option (List Col)
  | [] => some []
  | .int k (.lit n) :: r => (zcols r).map (⟨.i k, 1, .lit n⟩ :: ·)
  | .bool (.lit n) :: r => (zcols r).map (⟨.b, 1, .lit n⟩ :: ·)
  | _ :: _ => none
theorem zcols_ok [Fs] {E : Env} {N : Nat} : ∀ {xs : List C} {cols : List Col}, zcols xs = some cols → wid cols = xs.length ∧ ∀ (p r : Nat) (c : Col), colAt cols p = some (c, r) → ∃ x, xs[p]? = some x ∧ ∀ v, Cr E ρ N x v → ∀ j, v = c.k.val (c.s.row E j) := by
  intro xs
  induction xs with
  | nil => intro cols h; cases h; exact ⟨rfl, fun p r c h => by simp [colAt] at h⟩
  | cons x r ih =>
    intro cols h
    have step : ∀ (k : K) (n : Int) (cs : List Col), zcols r = some cs → cols = ⟨k, 1, .lit n⟩ :: cs → (∀ v, Cr E ρ N x v → v = k.val n) → wid cols = (x :: r).length ∧ ∀ (p r' : Nat) (c : Col), colAt cols p = some (c, r') → ∃ y, (x :: r)[p]? = some y ∧ ∀ v, Cr E ρ N y v → ∀ j, v = c.k.val (c.s.row E j) := by
      intro k n cs hcs hc hv
      subst hc
      obtain ⟨h1, h2⟩ := ih hcs
      refine ⟨by simp [wid, h1]; omega, fun p r' c hp => ?_⟩
      simp only [colAt] at hp
      cases hb : Nat.blt p 1 <;> simp only [hb, cond_true, cond_false] at hp
      · have h0 : ¬ p < 1 := by rw [← Nat.blt_eq, hb]; exact Bool.false_ne_true
        obtain ⟨y, h3, h4⟩ := h2 _ _ _ hp
        exact ⟨y, by rw [show p = (p - 1) + 1 by omega]; simpa using h3, h4⟩
      · cases hp
        rw [Nat.blt_eq] at hb
        obtain rfl : p = 0 := by omega
        exact ⟨x, rfl, fun v hx j => by rw [hv v hx]; rfl⟩
    unfold zcols at h
    split at h
    · rename_i he; cases he
    · rename_i k n r' he
      cases he
      rw [Option.map_eq_some_iff] at h
      obtain ⟨cs, h1, h2⟩ := h
      exact step (.i k) n cs h1 h2.symm fun v hv => hv
    · rename_i n r' he
      cases he
      rw [Option.map_eq_some_iff] at h
      obtain ⟨cs, h1, h2⟩ := h
      exact step .b n cs h1 h2.symm fun v hv => hv
    · cases h
/-- make of a size that isn't known. -/
def evMakeA (P : Program) (st : St) (t : TypeId) (l c : Operand) : Option OpR :=
  match P.underlying t with
  | some (.slice e) => match sizeT P e, zeroOf P e, P.info? e with
    | some sz, some z, some inf => match opC st l, opC st c, zcols z with
      | some (.int _ n), some (.int _ k), some cols => bif n.beq k && Nat.ble inf.bytes 65536 && Nat.beq sz z.length && Nat.blt 0 sz then
          some ⟨.a (.c (.sln st.m.length sz n)), st.m ++ [.arr (Nat.mul 2 e) n cols], [mk2 .le (.lit 0) n, mk2 .le n (.lit 16777216)]⟩ else none
      | _, _, _ => none
    | _, _, _ => none
  | _ => none
theorem evMakeA_ok [Fs] (h : Rel X ρ st a w) {t : TypeId} {l c : Operand} (ho : o.op = .makeSlice t l c) {r : OpR} (hr : evMakeA P st t l c = some r) : OpOk P X ρ st a w o r := by
  unfold evMakeA at hr
  split at hr
  · rename_i e hu
    split at hr
    · rename_i sz z inf hs hz hinf
      split at hr
      · rename_i k1 n k2 k cols hl hc hzc
        cases hq : n.beq k && Nat.ble inf.bytes 65536 && Nat.beq sz z.length && Nat.blt 0 sz <;> simp only [hq, cond_true, cond_false] at hr
        · cases hr
        · simp only [Bool.and_eq_true, Nat.ble_eq, Nat.blt_eq] at hq
          obtain ⟨⟨⟨hnk, hby⟩, hsz⟩, hpos⟩ := hq
          have hnk := T.beq_eq hnk
          subst hnk
          have hsz := Nat.eq_of_beq_eq_true hsz
          cases hr
          have hlv := opC_ok h.toSRel hl
          have hcv := opC_ok h.toSRel hc
          simp only [Cr] at hlv hcv
          obtain ⟨zv, h1, h2⟩ := zeroOf_ok hz
          have hzz := h2 X.E ρ st.m.length
          obtain ⟨hw, hcols⟩ := zcols_ok (E := X.E) (ρ := ρ) (N := st.m.length) hzc
          intro hq
          have q1 := le_of (hq _ List.mem_cons_self)
          have q2 := le_of (hq _ (List.mem_cons_of_mem _ List.mem_cons_self))
          simp only [T.den] at q1 q2
          generalize hN : (n.den X.E).toNat = N0 at *
          have hN' : n.den X.E = N0 := by omega
          have w1 : IntKind.i64.wrap (n.den X.E) = N0 := by rw [hN']; exact IntWalk.i64_in _ (by omega)
          have hmul : inf.bytes * N0 ≤ 65536 * 16777216 := Nat.mul_le_mul hby (by omega)
          have hb1 : ¬ (281474976710656 : Int) < inf.bytes * (N0 : Int) := by
            have h' : ((inf.bytes * N0 : Nat) : Int) = inf.bytes * (N0 : Int) := by simp
            rw [← h']; omega
          have hrun : (execOp a.eval o).run P w = .ok (.value (.slice (some ⟨w.heap.size, 0, none⟩) N0 N0)) (w.alloc (.cells ((Array.range (N0 * sz)).map fun i => zv.cells[i % zv.cells.size]!) e (0, 0))) := by
            by_cases hz0 : N0 = 0
            · subst hz0
              simp only [Int.ofNat_zero] at *
              simp [execOp, ho, hlv, hcv, Instr.makeSlice, run_underlying hu, asInt, asIntOf, typeInfo, hinf, hN']
              rw [show IntKind.i64.wrap 0 = 0 from rfl]
              have e0 : ∀ f : Nat → Value, Array.map f (Array.range 0) = #[] := fun f => by apply Array.ext'; simp
              simp [run_sizeT hs, newRow, e0]
            · have c4 : ¬ N0 * sz = 0 := by
                intro hh
                rcases Nat.mul_eq_zero.1 hh with hh | hh <;> omega
              have c1 : ¬ ((N0 : Int) < 0) := by omega
              have c2 : ¬ (n.den X.E < 0) := by omega
              simp [execOp, ho, hlv, hcv, Instr.makeSlice, run_underlying hu, asInt, asIntOf, typeInfo, hinf, w1, hb1, c1, c2]
              rw [run_sizeT hs]
              simp only [Result.andThen_ok]
              simp [c4, h1, newRow]
          refine ⟨.slice (some ⟨w.heap.size, 0, none⟩) N0 N0, _, upd ρ st.m.length ⟨w.heap.size, _, 0⟩, .inl hrun, ?_, h.mr.allocB (b := .arr (Nat.mul 2 e) n cols) (fun ρ' n' o' hn' hρ' ho' => ⟨by omega, fun hk => ⟨_, _, _, ho', fun _ => ⟨(tyw e).symm, rfl, rfl⟩, rfl, ?_, ?_⟩⟩), fun i hi => upd_ne _ _ (Nat.ne_of_lt hi), by simp⟩
          · refine ⟨by simp, by omega, _, _, by rw [hN], by omega, by simp only [maxLen]; omega, fun hk => by omega, fun hk => ?_⟩
            simp only [upd_same]
            exact ⟨trivial, by simp, trivial⟩
          · rw [hN, hw, ← hsz]; simp
          · rw [ext_all]
            intro i p r' c' hi hc'
            obtain ⟨x, hx1, hx2⟩ := hcols p r' c' hc'
            have hp := (colAt_lt hc').2.2.1
            rw [hw] at hp ⊢
            obtain ⟨v, hv1, hv2⟩ := hzz.2 p x hx1
            have hmod : (i * z.length + p) % zv.cells.size = p := by
              rw [hzz.1, Nat.mul_comm, Nat.mul_add_mod, Nat.mod_eq_of_lt hp]
            have hlt : i * z.length + p < N0 * sz := by
              rw [hsz]; exact elem_lt (by omega) hp
            rw [← hx2 v hv2]
            simp only [Array.getElem?_map, Array.getElem?_range, hlt, if_true, Option.map_some, hmod]
            rw [getElem!_def, hv1]
      · cases hr
    · cases hr
  · cases hr
end ops
end Go.Sy
