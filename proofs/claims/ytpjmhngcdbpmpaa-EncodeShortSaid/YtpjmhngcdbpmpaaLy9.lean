/- Part 9 of a checked reader of Go texts in their model form: it runs a function at terms in the place of numbers, and each part proves that its answers hold of the model. -/
import Derived.Test.YtpjmhngcdbpmpaaLy8k
namespace Go.Sy
section ops
variable {P : Program} {X : Cx} {ρ : Nat → Rb} {st : St} {a : Act} {w : World} {o : Oper}

def evEq (P : Program) (st : St) (op : BinOp) (t : TypeId) (x y : Operand) : Option OpR :=
  match opA st x, opA st y with
  | .agg xs, .agg ys => bif P.eqGuardType P.depth t then none else match eqA P 24 t (.agg xs) (.agg ys) with
    | some τ => match op with
      | .eql => some ⟨.a (.c (.bool (norm st.pc τ))), st.m, []⟩
      | .neq => some ⟨.a (.c (.bool (norm st.pc (mkNot τ)))), st.m, []⟩
      | _ => none
    | none => none
  | _, _ => none
theorem evEq_ok [Fs] (h : SRel X ρ st a) {op : BinOp} {t yt : TypeId} {x y : Operand} (ho : o.op = .binOp op t x y yt) {r : OpR} (hr : evEq P st op t x y = some r) : OpQ P X ρ st a o r := by
  unfold evEq at hr
  split at hr
  · rename_i xs ys hx hy
    have hxa := opA_ok h x
    have hya := opA_ok h y
    rw [hx] at hxa
    rw [hy] at hya
    cases hg : P.eqGuardType P.depth t <;> simp only [hg, cond_true, cond_false] at hr
    · split at hr
      · rename_i τ hτ
        have he := fun w => eqA_ok hτ 10000 (by omega) _ _ w hxa hya
        obtain ⟨cs, hv, _⟩ := hxa
        obtain ⟨ds, hu, _⟩ := hya
        simp only [hv, hu] at he
        split at hr
        · cases hr
          refine OpQ.pure (v := .bool (τ.tr X.E)) fun w _ => ⟨?_, by simp only [Lr, Ar, Cr, norm_tr h.pc]⟩
          simp only [execOp, ho, hv, hu, Sem.run_bind, run_eqGuard_agg w _ t x y cs ds hg, Result.andThen_ok, run_eql_struct, he]; rfl
        · cases hr
          refine OpQ.pure (v := .bool (!(τ.tr X.E))) fun w _ => ⟨?_, by simp only [Lr, Ar, Cr, norm_tr h.pc, tr_mkNot]⟩
          simp only [execOp, ho, hv, hu, Sem.run_bind, run_eqGuard_agg w _ t x y cs ds hg, Result.andThen_ok, run_neq_struct, he]; rfl
        · cases hr
      · cases hr
    · cases hr
  · cases hr

def evNil (st : St) (x : Operand) : Option OpR :=
  match opC st x with
  | some (.ptr b o) => some ⟨.a (.c (.ptr b o)), st.m, []⟩
  | some (.pti b o ix sz cnt) => some ⟨.a (.c (.pti b o ix sz cnt)), st.m, []⟩
  | _ => none
theorem evNil_ok [Fs] (h : SRel X ρ st a) {x : Operand} (ho : o.op = .nilCheck x) {r : OpR} (hr : evNil st x = some r) : OpQ P X ρ st a o r := by
  unfold evNil at hr
  split at hr
  · rename_i b o' hx
    cases hr
    have hv := opC_ok h hx
    refine OpQ.pure (v := a.eval x) fun w _ => ⟨?_, hv⟩
    simp [execOp, ho, hv.2]
  · rename_i b o' ix sz cnt hx
    cases hr
    have hv := opC_ok h hx
    refine OpQ.pure (v := a.eval x) fun w _ => ⟨?_, hv⟩
    simp [execOp, ho, hv.2.2.2]
  · cases hr

/-- 'len'. -/
def evLen (P : Program) (st : St) (t : TypeId) (x : Operand) : Option OpR :=
  match P.underlying t with
  | some (.slice _) => match opN st x with
    | some (.slc _ _ n) => some ⟨.a (.c (.int .i64 (.lit n))), st.m, []⟩
    | some .nils => some ⟨.a (.c (.int .i64 (.lit 0))), st.m, []⟩
    | _ => none
  | some (.array n _) => some ⟨.a (.c (.int .i64 (.lit n))), st.m, []⟩
  | _ => none
theorem evLen_ok [Fs] (h : SRel X ρ st a) {t : TypeId} {x : Operand} {c : Call} (ho : o.op = .call c) (hc : c.callee = .builtin .len) (hx : c.args.toList = [x]) (ht : c.argTypes[0]? = some t) {r : OpR} (hr : evLen P st t x = some r) : OpQ P X ρ st a o r := by
  have hcall : ∀ w, (execOp a.eval o).run P w = ((Builtin.len_ c.argTypes o.type #[a.eval x]).run P w).andThen fun v w' => .ok (.value v) w' := by
    have : c.args = #[x] := by apply Array.ext'; simpa using hx
    intro w; simp [execOp, ho, resolve, invoke, builtin, hc, this]
  unfold evLen at hr
  split at hr
  · rename_i e hu
    split at hr
    · rename_i b o' n hx'
      cases hr
      obtain ⟨_, cap, hv, _⟩ := opN_ok h hx'
      refine OpQ.pure (v := .int .i64 n) fun w _ => ⟨?_, rfl⟩
      rw [hcall]
      simp [Builtin.len_, ht, hv, run_underlying hu, goInt]
    · rename_i hx'
      cases hr
      have hv := opN_ok h hx'
      simp only [Cr] at hv
      refine OpQ.pure (v := .int .i64 0) fun w _ => ⟨?_, rfl⟩
      rw [hcall]
      simp [Builtin.len_, ht, hv, run_underlying hu, goInt]
    · cases hr
  · rename_i n e hu
    cases hr
    refine OpQ.pure (v := .int .i64 n) fun w _ => ⟨?_, rfl⟩
    rw [hcall]
    simp [Builtin.len_, ht, run_underlying hu, goInt]
  · cases hr

/-- A new row of a slice literal. -/
def evBuildS (P : Program) (st : St) (t : TypeId) (len : Nat) (ps : Array (Nat × Operand)) : Option OpR :=
  match P.underlying t with
  | some (.slice e) => match sizeT P e, zeroOf P e, cellsAll st ps.toList with
    | some sz, some z, some qs => bif Nat.ble (len * sz) 16777216 && Nat.blt 0 z.length && Nat.blt 0 (len * sz) then
        match fillC (fun i => some (i * sz, sz)) ((List.range (len * sz)).map fun i => z.getD (i % z.length) .any) qs with
        | some xs => bif Nat.beq xs.length (len * sz) then some ⟨.a (.c (.sle st.m.length sz len)), st.m ++ [.cells (Nat.mul 2 e) xs], []⟩ else none
        | none => none
      else none
    | _, _, _ => none
  | _ => none
theorem evBuildS_ok [Fs] (h : Rel X ρ st a w) {t : TypeId} {len : Nat} {ps : Array (Nat × Operand)} (ho : o.op = .buildSlice t len ps) {r : OpR} (hr : evBuildS P st t len ps = some r) : OpOk P X ρ st a w o r := by
  unfold evBuildS at hr
  split at hr
  · rename_i e hu
    split at hr
    · rename_i sz z qs hs hz hq
      cases hc' : Nat.ble (len * sz) 16777216 && Nat.blt 0 z.length && Nat.blt 0 (len * sz) <;> simp only [hc', cond_true, cond_false] at hr
      · cases hr
      · rw [Bool.and_eq_true, Bool.and_eq_true, Nat.ble_eq, Nat.blt_eq, Nat.blt_eq] at hc'
        obtain ⟨hc, h0⟩ := hc'
        split at hr
        · rename_i xs hf
          cases hxl : Nat.beq xs.length (len * sz) <;> simp only [hxl, cond_true, cond_false] at hr
          · cases hr
          have hxl := Nat.eq_of_beq_eq_true hxl
          cases hr
          obtain ⟨zv, h1, h2⟩ := zeroOf_ok hz
          have hzz := h2 X.E ρ st.m.length
          have hx : F2 (Cr X.E ρ st.m.length) ((List.range (len * sz)).map fun i => z.getD (i % z.length) .any) ((Array.range (len * sz)).map fun i => zv.cells[i % zv.cells.size]!) := by
            refine ⟨by simp, fun i x hx => ?_⟩
            rw [List.getElem?_map, Option.map_eq_some_iff] at hx
            obtain ⟨j, hj, rfl⟩ := hx
            have hlt := (List.getElem?_eq_some_iff.1 hj).1
            simp at hlt
            rw [List.getElem?_range hlt] at hj
            cases hj
            have hm : i % z.length < z.length := Nat.mod_lt _ hc.2
            obtain ⟨v, h3, h4⟩ := hzz.2 (i % z.length) z[i % z.length] (List.getElem?_eq_getElem hm)
            refine ⟨v, ?_, ?_⟩
            · rw [← hzz.1] at h3
              simp only [Array.getElem?_map, Array.getElem?_range, hlt, if_true, Option.map_some, getElem!_def, h3]
            · have : z.getD (i % z.length) C.any = z[i % z.length] := by simp [List.getD, hm]
              rw [this]; exact h4
          obtain ⟨ds, h5, h6⟩ := fillC_ok hf (cellsAll_ok h.toSRel hq) hx
          have hlm : len ≤ maxLen := by
            have h7 : 1 ≤ sz := Nat.pos_of_ne_zero fun e0 => by simp [e0] at h0
            have h8 : len * 1 ≤ len * sz := Nat.mul_le_mul_left _ h7
            have h9 := hc.1
            simp only [maxLen]; omega
          refine fun _ => ⟨.slice (some ⟨w.heap.size, 0, none⟩) len len, w.alloc (.cells ds e), upd ρ st.m.length ⟨w.heap.size, ds.size, 0⟩, .inl ?_, ⟨by simp, len, by simp only [upd_same], Nat.le_refl _, hlm, by simp only [upd_same]; rw [h6.1, hxl]⟩, h.mr.alloc h6, fun i hi => upd_ne _ _ (Nat.ne_of_lt hi), by simp⟩
          have hle : ¬ 2 ^ 24 < len * sz := by have := hc.1; omega
          have h7 : Instr.fill (fun i => some (i * sz, sz)) ((Array.range (len * sz)).map fun i => zv.cells[i % zv.cells.size]!) (ps.toList.map fun (i, x) => (i, a.eval x)) = some ds := h5
          simp [execOp, ho, Instr.buildSlice, run_underlying hu, run_sizeT hs, hle, h1, h7, newRow]
          intro hh; omega
        · cases hr
    · cases hr
  · cases hr

/-- make of a known size. -/
def evMakeS (P : Program) (st : St) (t : TypeId) (l c : Operand) : Option OpR :=
  match P.underlying t with
  | some (.slice e) => match sizeT P e, zeroOf P e, P.info? e with
    | some sz, some z, some inf => match opC st l, opC st c with
      | some (.int _ (.lit n)), some (.int _ (.lit k)) => bif leb 0 n && leb n k && leb k 1048576 && Nat.ble (inf.bytes * k.toNat) 281474976710656 && Nat.blt 0 z.length && Nat.blt 0 (k.toNat * sz) then
          some ⟨.a (.c (.sle st.m.length sz n.toNat)), st.m ++ [.cells (Nat.mul 2 e) ((List.range (k.toNat * sz)).map fun i => z.getD (i % z.length) .any)], []⟩ else none
      | _, _ => none
    | _, _, _ => none
  | _ => none
theorem zeros_F2 [Fs] {E : Env} {n k : Nat} {z : List C} {cs : Array Value} (hzz : F2 (Cr E ρ n) z cs) (hz : 0 < z.length) : F2 (Cr E ρ n) ((List.range k).map fun i => z.getD (i % z.length) .any) ((Array.range k).map fun i => cs[i % cs.size]!) := by
  refine ⟨by simp, fun i x hx => ?_⟩
  rw [List.getElem?_map, Option.map_eq_some_iff] at hx
  obtain ⟨j, hj, rfl⟩ := hx
  have hlt := (List.getElem?_eq_some_iff.1 hj).1
  simp at hlt
  rw [List.getElem?_range hlt] at hj
  cases hj
  have hm : i % z.length < z.length := Nat.mod_lt _ hz
  obtain ⟨v, h3, h4⟩ := hzz.2 (i % z.length) z[i % z.length] (List.getElem?_eq_getElem hm)
  refine ⟨v, ?_, ?_⟩
  · rw [← hzz.1] at h3
    simp only [Array.getElem?_map, Array.getElem?_range, hlt, if_true, Option.map_some, getElem!_def, h3]
  · have : z.getD (i % z.length) C.any = z[i % z.length] := by simp [List.getD, hm]
    rw [this]; exact h4
theorem evMakeS_ok [Fs] (h : Rel X ρ st a w) {t : TypeId} {l c : Operand} (ho : o.op = .makeSlice t l c) {r : OpR} (hr : evMakeS P st t l c = some r) : OpOk P X ρ st a w o r := by
  unfold evMakeS at hr
  split at hr
  · rename_i e hu
    split at hr
    · rename_i sz z inf hs hz hinf
      split at hr
      · rename_i k1 n k2 k hl hc
        have hlv := opC_ok h.toSRel hl
        have hcv := opC_ok h.toSRel hc
        simp only [Cr, T.den] at hlv hcv
        cases hq : leb 0 n && leb n k && leb k 1048576 && Nat.ble (inf.bytes * k.toNat) 281474976710656 && Nat.blt 0 z.length && Nat.blt 0 (k.toNat * sz) <;> simp only [hq, cond_true, cond_false] at hr
        · cases hr
        · simp only [Bool.and_eq_true, leb_t, Nat.ble_eq, Nat.blt_eq] at hq
          obtain ⟨⟨⟨⟨⟨h0n, hnk⟩, hkm⟩, hby⟩, hz0⟩, hks⟩ := hq
          cases hr
          obtain ⟨zv, h1, h2⟩ := zeroOf_ok hz
          have hx := zeros_F2 (k := k.toNat * sz) (h2 X.E ρ st.m.length) hz0
          refine fun _ => ⟨.slice (some ⟨w.heap.size, 0, none⟩) n.toNat k.toNat, _, upd ρ st.m.length ⟨w.heap.size, _, 0⟩, .inl ?_, ⟨by simp, k.toNat, by simp only [upd_same], by omega, by simp only [maxLen]; omega, by simp only [upd_same]; rw [hx.1]; simp⟩, h.mr.alloc hx, fun i hi => upd_ne _ _ (Nat.ne_of_lt hi), by simp⟩
          have w1 : IntKind.i64.wrap n = n := IntWalk.i64_in n (by omega)
          have w2 : IntKind.i64.wrap k = k := IntWalk.i64_in k (by omega)
          have hk : ((k.toNat : Nat) : Int) = k := by omega
          have hb1 : ¬ (281474976710656 : Int) < inf.bytes * k := by
            have h' : ((inf.bytes * k.toNat : Nat) : Int) = inf.bytes * k := by rw [Int.natCast_mul, hk]
            rw [← h']; omega
          have hb2 : ¬ (281474976710656 : Int) < inf.bytes * n := by
            have : (inf.bytes : Int) * n ≤ inf.bytes * k := Int.mul_le_mul_of_nonneg_left hnk (by omega)
            omega
          have c1 : ¬ k < 0 := by omega
          have c2 : ¬ n < 0 := by omega
          have c3 : ¬ k < n := by omega
          have c4 : ¬ k.toNat * sz = 0 := by omega
          simp [execOp, ho, hlv, hcv, Instr.makeSlice, run_underlying hu, asInt, asIntOf, typeInfo, hinf, w1, w2, hb1, c1, c2, c3]
          rw [run_sizeT hs]
          simp only [Result.andThen_ok]
          simp [c4, h1, newRow]
      · cases hr
    · cases hr
  · cases hr

def ptrsOf (st : St) : List Operand → Option (List (Nat × Nat))
  | [] => some []
  | x :: rest => match opC st x, ptrsOf st rest with
    | some (.ptr b o), some r => some ((b, o) :: r)
    | _, _ => none
theorem ptrsOf_ok [Fs] (h : SRel X ρ st a) : ∀ {xs : List Operand} {ps : List (Nat × Nat)}, ptrsOf st xs = some ps → (∀ p ∈ ps, p.1 < st.m.length) ∧ xs.map a.eval = ps.map fun p => Value.pointer (some ⟨(ρ p.1).g, p.2, none⟩) := by
  intro xs
  induction xs with
  | nil => intro ps hp; cases hp; exact ⟨fun p hp => (nomatch hp), rfl⟩
  | cons x xs ih =>
    intro ps hp
    simp only [ptrsOf] at hp
    split at hp
    · rename_i b o' r hx hr
      cases hp
      obtain ⟨h1, h2⟩ := ih hr
      obtain ⟨h3, h4⟩ := opC_ok h hx
      refine ⟨fun p hp => ?_, by simp only [List.map_cons, h2, h4]⟩
      rcases List.mem_cons.1 hp with rfl | hp
      · exact h3
      · exact h1 p hp
    · cases hp
def evMakeF (st : St) (fn : Fn) (first caps : Array Operand) : Option OpR :=
  match fn with
  | .func f => bif first.isEmpty then match ptrsOf st caps.toList with
      | some ps => some ⟨.a (.c (.clo f ps)), st.m, []⟩
      | none => none
    else none
  | _ => none
theorem evMakeF_ok [Fs] (h : SRel X ρ st a) {fn : Fn} {first caps : Array Operand} (ho : o.op = .makeFunc fn first caps) {r : OpR} (hr : evMakeF st fn first caps = some r) : OpQ P X ρ st a o r := by
  unfold evMakeF at hr
  split at hr
  · rename_i f
    cases hc : first.isEmpty <;> simp only [hc, cond_true, cond_false] at hr
    · cases hr
    · split at hr
      · rename_i ps hp
        cases hr
        obtain ⟨h1, h2⟩ := ptrsOf_ok h hp
        have hf : first = #[] := by simpa using hc
        have hcap : caps.map a.eval = (ps.map fun p => Value.pointer (some ⟨(ρ p.1).g, p.2, none⟩)).toArray := by
          apply Array.ext'; simpa using h2
        exact OpQ.pure (v := .func (.func f) #[] (ps.map fun p => Value.pointer (some ⟨(ρ p.1).g, p.2, none⟩)).toArray) fun w _ => ⟨by simp [execOp, ho, Instr.makeFunc, hf, hcap], h1, rfl⟩
      · cases hr
  · cases hr

/-- One thing, or another. -/
def orE (x y : Option OpR) : Option OpR := match x with
  | some r => some r
  | none => y
theorem orE_cases [Fs] {x y : Option OpR} {r : OpR} (h : orE x y = some r) : x = some r ∨ y = some r := by
  unfold orE at h
  split at h
  · exact .inl h
  · exact .inr h
/-- A built-in function. -/
def evBi (P : Program) (st : St) (c : Call) : Option OpR :=
  match c.callee with
  | .builtin .len => match c.args.toList with
    | [x] => match c.argTypes[0]? with
      | some t => orE (evLen P st t x) (evLenA P st t x)
      | none => none
    | _ => none
  | _ => none
theorem evBi_ok [Fs] (h : SRel X ρ st a) {c : Call} (ho : o.op = .call c) {r : OpR} (hr : evBi P st c = some r) : OpQ P X ρ st a o r := by
  unfold evBi at hr
  split at hr
  · rename_i hc
    split at hr
    · rename_i x hx
      split at hr
      · rename_i t ht
        rcases orE_cases hr with hr | hr
        · exact evLen_ok h ho hc hx ht hr
        · exact evLenA_ok h ho hc hx ht hr
      · cases hr
    · cases hr
  · cases hr

/-! interface values -/
def colC : C → Option Col
  | .int k t => some ⟨.i k, 1, t⟩
  | .bool t => some ⟨.b, 1, t⟩
  | _ => none
def colCs : List C → Option (List Col)
  | [] => some []
  | x :: r => match colC x, colCs r with
    | some c, some l => some (c :: l)
    | _, _ => none
theorem colC_ok [Fs] {E : Env} {ρ : Nat → Rb} {n : Nat} {x : C} {c : Col} {v : Value} (h : colC x = some c) (hx : Cr E ρ n x v) : v = c.k.val (c.s.den E) := by
  unfold colC at h
  split at h <;> cases h <;> simp only [Cr] at hx <;> subst hx <;> rfl
theorem colCs_ok [Fs] {E : Env} {ρ : Nat → Rb} {n : Nat} : ∀ {xs : List C} {cs : List Col} {vs : List Value}, colCs xs = some cs → F2 (Cr E ρ n) xs vs.toArray → vs = cs.map fun c => c.k.val (c.s.den E) := by
  intro xs
  induction xs with
  | nil =>
    intro cs vs h hx
    cases h
    have := hx.1
    cases vs with
    | nil => rfl
    | cons v vs => simp at this
  | cons x xs ih =>
    intro cs vs h hx
    simp only [colCs] at h
    split at h
    · rename_i c l hc hl
      cases h
      cases vs with
      | nil => have := hx.1; simp at this
      | cons v vs =>
        obtain ⟨u, h1, h2⟩ := hx.2 0 x rfl
        simp at h1; subst h1
        have hx' : F2 (Cr E ρ n) xs vs.toArray := ⟨by have := hx.1; simpa using this, fun i y hy => by obtain ⟨u, h3, h4⟩ := hx.2 (i + 1) y (by simpa using hy); exact ⟨u, by simpa using h3, h4⟩⟩
        rw [List.map_cons, ← colC_ok hc h2, ← ih hl hx']
    · cases h
def evMkI (P : Program) (st : St) (t : TypeId) (x : Operand) : Option OpR := match P.underlying t with
  | some (.interface _) => none
  | none => none
  | some _ => match opA st x with
    | .c y => match colC y with
      | some c => some ⟨.a (.c (.ifc t false [c])), st.m, []⟩
      | none => none
    | .agg xs => match colCs xs with
      | some cs => some ⟨.a (.c (.ifc t true cs)), st.m, []⟩
      | none => none
    | _ => none
theorem evMkI_ok [Fs] (h : SRel X ρ st a) {t : TypeId} {x : Operand} (ho : o.op = .makeInterface t x) {r : OpR} (hr : evMkI P st t x = some r) : OpQ P X ρ st a o r := by
  unfold evMkI at hr
  split at hr
  · cases hr
  · cases hr
  · rename_i d hni hu
    have hrun : ∀ w, (execOp a.eval o).run P w = .ok (.value (.iface t (a.eval x))) w := fun w => by
      simp only [execOp, ho, Instr.makeInterface, Sem.run_bind, run_underlying hu, Result.andThen_ok]
      cases d <;> first | exact (hni _ rfl).elim | rfl
    have hx := opA_ok h x
    split at hr
    · rename_i y hy
      rw [hy] at hx
      split at hr
      · rename_i c hc
        cases hr
        have e := colC_ok hc hx
        exact OpQ.pure (v := .iface t (a.eval x)) fun w _ => ⟨hrun w, by simp only [Lr, Ar, Cr, ifV, cond_false]; rw [e]⟩
      · cases hr
    · rename_i xs hy
      rw [hy] at hx
      obtain ⟨vs, hv, hx⟩ := hx
      split at hr
      · rename_i cs hc
        cases hr
        have e := colCs_ok (vs := vs.toList) hc (by simpa using hx)
        exact OpQ.pure (v := .iface t (a.eval x)) fun w _ => ⟨hrun w, by simp only [Lr, Ar, Cr, ifV, cond_true]; rw [hv, ← e]⟩
      · cases hr
    · cases hr
def colB (c : Col) : C := match c.k with
  | .i k => .int k c.s
  | .b => .bool c.s
theorem colB_ok [Fs] {E : Env} {ρ : Nat → Rb} {n : Nat} (c : Col) : Cr E ρ n (colB c) (c.k.val (c.s.den E)) := by
  obtain ⟨k, m, s⟩ := c
  cases k <;> rfl
def ifA (g : Bool) (cs : List Col) : A := bif g then .agg (cs.map colB) else match cs with
  | c :: _ => .c (colB c)
  | [] => .dead
theorem ifA_ok [Fs] {E : Env} {ρ : Nat → Rb} {n : Nat} {t : TypeId} {g : Bool} {cs : List Col} {y : Value} (h : .iface t y = ifV E t g cs) : Ar E ρ n (ifA g cs) y := by
  unfold ifV at h
  cases g
  · cases cs with
    | nil => exact trivial
    | cons c r =>
      simp only [cond_false, Value.iface.injEq, true_and] at h
      subst h
      exact colB_ok c
  · simp only [cond_true, Value.iface.injEq, true_and] at h
    subst h
    refine ⟨_, rfl, by simp, fun i x hx => ?_⟩
    rw [List.getElem?_map, Option.map_eq_some_iff] at hx
    obtain ⟨c, hc, rfl⟩ := hx
    exact ⟨c.k.val (c.s.den E), by simp [hc], colB_ok c⟩
/-- A type assertion that holds. -/
def evTA (P : Program) (st : St) (x : Operand) (asserted : TypeId) (ok : Bool) : Option OpR := match P.underlying asserted with
  | some (.interface _) => none
  | none => none
  | some _ => match opC st x with
    | some (.ifc t g cs) => bif Nat.beq t asserted then some ⟨bif ok then .tup [ifA g cs, .c (.bool (.lit 1))] else .a (ifA g cs), st.m, []⟩ else none
    | _ => none
theorem evTA_ok [Fs] (h : SRel X ρ st a) {x : Operand} {xt asserted : TypeId} {ok : Bool} (ho : o.op = .typeAssert x xt asserted ok) {r : OpR} (hr : evTA P st x asserted ok = some r) : OpQ P X ρ st a o r := by
  unfold evTA at hr
  split at hr
  · cases hr
  · cases hr
  · rename_i d hni hu
    split at hr
    · rename_i t g cs hx
      have hv := opC_ok h hx
      simp only [Cr] at hv
      cases hb : Nat.beq t asserted <;> simp only [hb, cond_true, cond_false] at hr
      · cases hr
      · cases hr
        have hb := Nat.eq_of_beq_eq_true hb
        subst hb
        obtain ⟨y, hy⟩ : ∃ y, ifV X.E t g cs = .iface t y := ⟨_, rfl⟩
        have hA : Ar X.E ρ st.m.length (ifA g cs) y := ifA_ok hy.symm
        rw [hy] at hv
        have hrun : ∀ w, (execOp a.eval o).run P w = .ok (.value (if ok then .tuple #[y, .bool true] else y)) w := fun w => by
          simp only [execOp, ho, hv, Instr.typeAssert, Sem.run_bind, run_underlying hu, Result.andThen_ok]
          cases d <;> first | exact (hni _ rfl).elim | (simp only [if_true]; rfl)
        cases ok
        · exact OpQ.pure (v := y) fun w _ => ⟨hrun w, hA⟩
        · refine OpQ.pure (v := .tuple #[y, .bool true]) fun w _ => ⟨hrun w, _, rfl, rfl, fun i z hz => ?_⟩
          match i, hz with
          | 0, hz => cases hz; exact ⟨y, rfl, hA⟩
          | 1, hz => cases hz; exact ⟨.bool true, rfl, rfl⟩
    · cases hr
theorem run_ifN1 [Fs] {t : TypeId} {ms : Array (String × TypeId)} (hu : P.underlying t = some (.interface ms)) (t' : TypeId) (v : Value) (w : World) : (Op.equal t (.iface t' v) .nilIface).run P w = .ok false w := by
  unfold Op.equal
  rw [show Op.maxDepth = 9999 + 1 from rfl, Op.equalIn]
  simp only [Sem.run_bind, run_underlying hu, Result.andThen_ok]
  rfl
theorem run_ifN2 [Fs] {t : TypeId} {ms : Array (String × TypeId)} (hu : P.underlying t = some (.interface ms)) (w : World) : (Op.equal t .nilIface .nilIface).run P w = .ok true w := by
  unfold Op.equal
  rw [show Op.maxDepth = 9999 + 1 from rfl, Op.equalIn]
  simp only [Sem.run_bind, run_underlying hu, Result.andThen_ok]
  rfl
theorem run_ifB [Fs] (op : BinOp) (hop : op = .eql ∨ op = .neq) {t yt : TypeId} {x : Operand} (ho : o.op = .binOp op t x (.const .nilIface) yt) {v : Value} (hv : a.eval x = v) (hi : (∃ t' u, v = .iface t' u) ∨ v = .nilIface) {b : Bool} {w : World} (he : (Op.equal t v .nilIface).run P w = .ok b w) :
    (execOp a.eval o).run P w = .ok (.value (.bool (if op = .eql then b else !b))) w := by
  have e : a.eval (.const .nilIface) = .nilIface := rfl
  have g1 : ∀ op : BinOp, (op = .eql ∨ op = .neq) → (eqGuard op t x (.const .nilIface) v .nilIface).run P w = .ok () w := by
    intro op hop
    rcases hop with rfl | rfl <;> rcases hi with ⟨t', u, rfl⟩ | rfl <;> first | rfl | (cases x <;> rfl)
  have g2 : (binOp .eql t v .nilIface).run P w = .ok (.bool b) w := by
    have : (binOp .eql t v .nilIface).run P w = ((Op.equal t v .nilIface).run P w).andThen fun b w' => .ok (.bool b) w' := by
      rcases hi with ⟨t', u, rfl⟩ | rfl
      · show Sem.run P (do pure (Value.bool (← Op.equal t (.iface t' u) .nilIface))) w = _
        rw [Sem.run_bind]; rfl
      · show Sem.run P (do pure (Value.bool (← Op.equal t .nilIface .nilIface))) w = _
        rw [Sem.run_bind]; rfl
    rw [this, he]; rfl
  have g3 : (binOp .neq t v .nilIface).run P w = .ok (.bool !b) w := by
    have : (binOp .neq t v .nilIface).run P w = ((Op.equal t v .nilIface).run P w).andThen fun b w' => .ok (.bool !b) w' := by
      rcases hi with ⟨t', u, rfl⟩ | rfl
      · show Sem.run P (do pure (Value.bool (!(← Op.equal t (.iface t' u) .nilIface)))) w = _
        rw [Sem.run_bind]; rfl
      · show Sem.run P (do pure (Value.bool (!(← Op.equal t .nilIface .nilIface)))) w = _
        rw [Sem.run_bind]; rfl
    rw [this, he]; rfl
  rcases hop with rfl | rfl <;> simp only [execOp, ho, hv, e, Sem.run_bind]
  · rw [g1 _ (.inl rfl), Result.andThen_ok, g2]; rfl
  · rw [g1 _ (.inr rfl), Result.andThen_ok, g3]; rfl
/-- Is an interface value nil? -/
def evIfN (P : Program) (st : St) (op : BinOp) (t : TypeId) (x y : Operand) : Option OpR := match y with
  | .const .nilIface => match P.underlying t with
    | some (.interface _) => match opC st x with
      | some (.ifc _ _ _) => match op with
        | .eql => some ⟨.a (.c (.bool (.lit 0))), st.m, []⟩
        | .neq => some ⟨.a (.c (.bool (.lit 1))), st.m, []⟩
        | _ => none
      | some (.raw .nilIface) => match op with
        | .eql => some ⟨.a (.c (.bool (.lit 1))), st.m, []⟩
        | .neq => some ⟨.a (.c (.bool (.lit 0))), st.m, []⟩
        | _ => none
      | _ => none
    | _ => none
  | _ => none
theorem evIfN_ok [Fs] (h : SRel X ρ st a) {op : BinOp} {t yt : TypeId} {x y : Operand} (ho : o.op = .binOp op t x y yt) {r : OpR} (hr : evIfN P st op t x y = some r) : OpQ P X ρ st a o r := by
  unfold evIfN at hr
  split at hr
  · split at hr
    · rename_i ms hu
      split at hr
      · rename_i t' g cs hx
        have hv := opC_ok h hx
        simp only [Cr, ifV] at hv
        split at hr
        · cases hr
          exact OpQ.pure (v := .bool false) fun w _ => ⟨run_ifB _ (by simp) ho hv (.inl ⟨_, _, rfl⟩) (run_ifN1 hu _ _ w), rfl⟩
        · cases hr
          exact OpQ.pure (v := .bool true) fun w _ => ⟨run_ifB _ (by simp) ho hv (.inl ⟨_, _, rfl⟩) (run_ifN1 hu _ _ w), rfl⟩
        · cases hr
      · rename_i hx
        have hv := opC_ok h hx
        simp only [Cr] at hv
        have hv := hv.1
        split at hr
        · cases hr
          exact OpQ.pure (v := .bool true) fun w _ => ⟨run_ifB _ (by simp) ho hv (.inr rfl) (run_ifN2 hu w), rfl⟩
        · cases hr
          exact OpQ.pure (v := .bool false) fun w _ => ⟨run_ifB _ (by simp) ho hv (.inr rfl) (run_ifN2 hu w), rfl⟩
        · cases hr
      · cases hr
    · cases hr
  · cases hr

/-- One operation that only reckons. -/
def evR (P : Program) (st : St) (o : Oper) : Option OpR :=
  match o.op with
  | .move x | .assign x => some (evMove st x)
  | .pick c x y => evPick st c x y
  | .build t ps => evBuild P st t ps
  | .nilCheck x => orE (evNil st x) (evNilA st x)
  | .binOp op t x y _ => match evBin P st op t x y with
    | some r => some r
    | none => orE (evEq P st op t x y) (orE (evIfN P st op t x y) (evStrB P st op x y))
  | .makeInterface t x => evMkI P st t x
  | .typeAssert x _ t ok => evTA P st x t ok
  | .unOp op _ x => evUn st op x
  | .convert s d x => evConv P st s d x
  | .fieldAddr s x f => orE (evField P st s x f) (evFieldA P st s x f)
  | .slice t x l h none => orE (evSlice P st t x l h) (evSliceC P st t x l h)
  | .field t x f => evFieldV P st t x f
  | .index t x i => evIndexV P st t x i
  | .indexAddr t x i => orE (evIndexAddr P st t x i) (evIndexAddrA P st t x i)
  | .extract x i => evExtract st x i
  | .call c => orE (evBi P st c) (evBi2 P st c)
  | .makeFunc fn first caps => evMakeF st fn first caps
  | _ => none
theorem evR_ok [Fs] (h : SRel X ρ st a) {r : OpR} (hr : evR P st o = some r) : OpQ P X ρ st a o r := by
  unfold evR at hr
  split at hr
  · rename_i x ho; cases hr; exact evMove_ok h (.inl ho)
  · rename_i x ho; cases hr; exact evMove_ok h (.inr ho)
  · rename_i ho; exact evPick_ok h ho hr
  · rename_i ho; exact evBuild_ok h ho hr
  · rename_i ho
    rcases orE_cases hr with hr | hr
    · exact evNil_ok h ho hr
    · exact evNilA_ok h ho hr
  · rename_i ho
    split at hr
    · rename_i he; cases hr; exact evBin_ok h ho he
    · rcases orE_cases hr with hr | hr
      · exact evEq_ok h ho hr
      · rcases orE_cases hr with hr | hr
        · exact evIfN_ok h ho hr
        · exact evStrB_ok h ho hr
  · rename_i ho; exact evMkI_ok h ho hr
  · rename_i ho; exact evTA_ok h ho hr
  · rename_i ho; exact evUn_ok h ho hr
  · rename_i ho; exact evConv_ok h ho hr
  · rename_i ho
    rcases orE_cases hr with hr | hr
    · exact evField_ok h ho hr
    · exact evFieldA_ok h ho hr
  · rename_i ho
    rcases orE_cases hr with hr | hr
    · exact evSlice_ok h ho hr
    · exact evSliceC_ok h ho hr
  · rename_i ho; exact evFieldV_ok h ho hr
  · rename_i ho; exact evIndexV_ok h ho hr
  · rename_i ho
    rcases orE_cases hr with hr | hr
    · exact evIndexAddr_ok h ho hr
    · exact evIndexAddrA_ok h ho hr
  · rename_i ho; exact evExtract_ok h ho hr
  · rename_i ho
    rcases orE_cases hr with hr | hr
    · exact evBi_ok h ho hr
    · exact evBi2_ok h ho hr
  · rename_i ho; exact evMakeF_ok h ho hr
  · cases hr

/-- Reading, in whatever world where the old blocks are as they were. -/
theorem evLoad_L [Fs] (h : Rel X ρ st a w) {t : TypeId} {x : Operand} (ho : o.op = .load t x) {r : OpR} (hr : evLoad P st t x = some r) : OpL P X ρ st a w o r := by
  unfold evLoad at hr
  split at hr
  · rename_i b o' hx
    obtain ⟨hb, hv⟩ := opC_ok h.toSRel hx
    split at hr
    · rename_i ty xs hm
      obtain ⟨cs, hg, hzz, hcs⟩ := h.mr.mem b _ hm
      have hlt := (Array.getElem?_eq_some_iff.1 hg).1
      split at hr
      · rename_i hagg
        split at hr
        · rename_i n hs
          cases hle : Nat.ble (o' + n) xs.length <;> simp only [hle, cond_true, cond_false] at hr
          · cases hr
          · cases hr
            rw [Nat.ble_eq] at hle
            refine ⟨rfl, fun _ => ⟨.agg (cs.extract o' (o' + n)), fun w' hk => ?_, _, rfl, F2p.extract hcs hle⟩⟩
            have hg' := (hk _ hlt).trans hg
            simp [execOp, ho, hv, Instr.loadAt, Instr.sureAddr, run_loadVar_agg hg' hagg hs (Nat.le_trans hle hcs.1)]
        · cases hr
      · rename_i hagg
        split at hr
        · rename_i y hy
          cases hr
          obtain ⟨v, h1, h2⟩ := hcs.2 _ _ hy
          refine ⟨rfl, fun _ => ⟨v, fun w' hk => ?_, h2⟩⟩
          have hg' := (hk _ hlt).trans hg
          simp [execOp, ho, hv, Instr.loadAt, Instr.sureAddr, run_loadVar_cell hg' hagg h1]
        · cases hr
      · cases hr
    · cases hr
  · rename_i b o' ix sz cnt hx
    obtain ⟨hb, h0, h1, hv⟩ := opC_ok h.toSRel hx
    split at hr
    · rename_i ty xs hm
      obtain ⟨cs, hg, hzz, hcs⟩ := h.mr.mem b _ hm
      have hlt := (Array.getElem?_eq_some_iff.1 hg).1
      split at hr
      · rename_i hagg
        split at hr
        · rename_i n hs
          split at hr
          · rename_i zs hz
            cases hr
            obtain ⟨h2, h3⟩ := rdIs_F2 hcs h0 h1 hz
            have hl : o' + (ix.den X.E).toNat * sz + (n + 1) ≤ cs.size := by
              rcases h2 with h2 | h2
              · omega
              · exact h2
            refine ⟨rfl, fun _ => ⟨.agg _, fun w' hk => ?_, _, rfl, h3⟩⟩
            have hld := run_loadVar_agg (P := P) ((hk _ hlt).trans hg) hagg hs hl
            simp [execOp, ho, hv, Instr.loadAt, Instr.sureAddr, hld]
          · cases hr
        · cases hr
      · rename_i hagg
        split at hr
        · rename_i y hy
          cases hr
          obtain ⟨v, h2, h3⟩ := rdI_ok hy hcs h0 h1
          refine ⟨rfl, fun _ => ⟨v, fun w' hk => ?_, h3⟩⟩
          have hg' := (hk _ hlt).trans hg
          simp [execOp, ho, hv, Instr.loadAt, Instr.sureAddr, run_loadVar_cell hg' hagg h2]
        · cases hr
      · cases hr
    · cases hr
  · cases hr

/-- One operation that leaves the world alone. -/
def evS (P : Program) (st : St) (o : Oper) : Option OpR :=
  match o.op with
  | .load t x => orE (evLoad P st t x) (evLoadA P st t x)
  | _ => evR P st o
theorem evS_L [Fs] (h : Rel X ρ st a w) {r : OpR} (hr : evS P st o = some r) : OpL P X ρ st a w o r := by
  unfold evS at hr
  split at hr
  · rename_i ho
    rcases orE_cases hr with hr | hr
    · exact evLoad_L h ho hr
    · exact evLoadA_ok h ho hr
  · exact (evR_ok h.toSRel hr).opL
theorem evS_ok [Fs] (h : Rel X ρ st a w) {r : OpR} (hr : evS P st o = some r) : OpOk P X ρ st a w o r ∧ r.m = st.m :=
  ⟨(evS_L h hr).ok h, (evS_L h hr).1⟩

/-- 'clear' of a slice whose cells are known. -/
def evClr (P : Program) (st : St) (c : Call) : Option OpR :=
  match c.callee, c.args.toList, c.argTypes.toList with
  | .builtin .clear, [x], [t] => match P.underlying t with
    | some (.slice e) => match opN st x, zeroOf P e, sizeT P e with
      | some (.slc b off (n + 1)), some z, some sz => match st.m[b]? with
        | some (.cells ty xs) => bif Nat.beq (Nat.mod ty 2) 0 && Nat.ble (off + (n + 1) * sz) xs.length && Nat.blt 0 z.length && Nat.beq z.length sz then
            some ⟨.tup [], st.m.set b (.cells ty (xs.take off ++ ((List.range ((n + 1) * sz)).map fun i => z.getD (i % z.length) .any) ++ xs.drop (off + (n + 1) * sz))), []⟩ else none
        | _ => none
      | some .nils, _, _ => some ⟨.tup [], st.m, []⟩
      | some (.slr _ _ _ (.lit 0)), _, _ => some ⟨.tup [], st.m, []⟩
      | _, _, _ => none
    | _ => none
  | _, _, _ => none
theorem evClr_ok [Fs] (h : Rel X ρ st a w) {c : Call} (ho : o.op = .call c) {r : OpR} (hr : evClr P st c = some r) : OpOk P X ρ st a w o r := by
  unfold evClr at hr
  split at hr
  case h_2 => cases hr
  rename_i x t hcal hargs hty
  have e1 : c.args = #[x] := by apply Array.ext'; simpa using hargs
  have e2 : c.argTypes = #[t] := by apply Array.ext'; simpa using hty
  split at hr
  case h_2 => cases hr
  rename_i e hu
  have hexec : ∀ w', (Builtin.clear_ #[t] o.type #[a.eval x]).run P w = .ok (.tuple #[]) w' → (execOp a.eval o).run P w = .ok (.value (.tuple #[])) w' := by
    intro w' hrun
    simp only [execOp, ho, resolve, invoke, builtin, hcal, e1, e2, Sem.run_bind, Sem.run_pure, Result.andThen_ok, List.map_toArray, List.map_cons, List.map_nil, hrun]
  split at hr
  · rename_i b off n z sz hx hz hs
    obtain ⟨d1, cap, d2, d3⟩ := opN_ok h.toSRel hx
    split at hr
    · rename_i ty xs hm
      cases hc : Nat.beq (Nat.mod ty 2) 0 && Nat.ble (off + (n + 1) * sz) xs.length && Nat.blt 0 z.length && Nat.beq z.length sz <;> simp only [hc, cond_true, cond_false] at hr
      · cases hr
      simp only [Bool.and_eq_true, Nat.ble_eq, Nat.blt_eq] at hc
      obtain ⟨⟨⟨hro, hle⟩, hz0⟩, hzl⟩ := hc
      have hzl := Nat.eq_of_beq_eq_true hzl
      cases hr
      obtain ⟨cs, m1, m2, m3⟩ := h.mr.mem _ _ hm
      obtain ⟨inf, zv, i1, i2, i3⟩ := zeroOf_info hz
      have hzs : zv.cells.size = z.length := (i3 X.E ρ st.m.length).1
      have hF0 := zeros_F2 (k := (n + 1) * sz) (i3 X.E ρ st.m.length) hz0
      have hF : F2 (Cr X.E ρ st.m.length) ((List.range ((n + 1) * sz)).map fun i => z.getD (i % z.length) .any) (Builtin.zeroCells zv.cells (n + 1)) := by
        have e3 : Builtin.zeroCells zv.cells (n + 1) = (Array.range ((n + 1) * sz)).map fun i => zv.cells[i % zv.cells.size]! := by
          simp only [Builtin.zeroCells, hzs, hzl]
        rw [e3]; exact hF0
      have hlen : ((List.range ((n + 1) * sz)).map fun i => z.getD (i % z.length) C.any).length = (n + 1) * sz := by simp
      have hspl := F2p.splice m3 hF (o := off) (by rw [hlen]; exact hle)
      rw [hlen] at hspl
      have hzc : (Builtin.zeroCells zv.cells (n + 1)).toList.length = (n + 1) * sz := by rw [Array.length_toList, size_zeroCells, hzs, hzl]
      have hst := run_storeCells_at P (ρ b).g off (Nat.div ty 2) (Builtin.zeroCells zv.cells (n + 1)).toList 0 cs w m1 (by rw [hzc]; exact Nat.le_trans hle m3.1) (fun v hv => hF.all (fun _ _ => Cr_one) v (Array.mem_toList_iff.1 hv))
      rw [hzc] at hst
      simp only [Nat.add_zero] at hst
      have hrun : (Builtin.clear_ #[t] o.type #[a.eval x]).run P w = .ok (.tuple #[]) (w.setRow (ρ b).g (cs.toList.take off ++ (Builtin.zeroCells zv.cells (n + 1)).toList ++ cs.toList.drop (off + (n + 1) * sz)).toArray) := by
        simp [Builtin.clear_, run_underlying hu, d2, zeroValue, typeInfo, i1, i2, hst]
      have e3 : (cs.toList.take off ++ (Builtin.zeroCells zv.cells (n + 1)).toList ++ cs.toList.drop (off + (n + 1) * sz)).toArray = (cs.toList.take off).toArray ++ Builtin.zeroCells zv.cells (n + 1) ++ (cs.toList.drop (off + (n + 1) * sz)).toArray := by
        apply Array.ext'; simp
      rw [e3] at hrun
      refine fun _ => ⟨.tuple #[], _, ρ, .inl (hexec _ hrun), ⟨_, rfl, F2.nil⟩, h.mr.set hm (ro_of hro) hspl ?_, fun _ _ => rfl, by simp⟩
      rw [← m2]
      rw [Array.length_toList] at hzc
      have := Nat.le_trans hle m3.1
      simp [hzc]; omega
    · cases hr
  · rename_i hx
    cases hr
    have d2 := opN_ok h.toSRel hx
    simp only [Cr] at d2
    exact OpOk.pure h (v := .tuple #[]) fun _ => ⟨hexec _ (by simp [Builtin.clear_, run_underlying hu, d2]), _, rfl, F2.nil⟩
  · rename_i hx
    cases hr
    obtain ⟨_, _, _, ad, cap, d2, _⟩ := opN_ok h.toSRel hx
    simp only [T.den, Int.toNat_zero] at d2
    exact OpOk.pure h (v := .tuple #[]) fun _ => ⟨hexec _ (by cases ad <;> simp [Builtin.clear_, run_underlying hu, d2]), _, rfl, F2.nil⟩
  · cases hr
/-- One operation that is no call of a function. -/
def evP (P : Program) (st : St) (o : Oper) : Option OpR :=
  match o.op with
  | .alloc e => evAlloc P st e
  | .box e x => evBox st e x
  | .store t x y => orE (evStore P st t x y) (evStoreA P st t x y)
  | .buildSlice t n ps => evBuildS P st t n ps
  | .makeSlice t l c => orE (evMakeS P st t l c) (evMakeA P st t l c)
  | .convert s d x => orE (evR P st o) (evStrC P st s d x)
  | .call c => orE (evR P st o) (orE (evApp2 P st c) (orE (evApp P st c) (orE (evAppZ P st c) (orE (evCopy P st c) (orE (evClr P st c) (evCmp P st c))))))
  | _ => evS P st o
theorem evP_ok [Fs] (h : Rel X ρ st a w) {r : OpR} (hr : evP P st o = some r) : OpOk P X ρ st a w o r := by
  unfold evP at hr
  split at hr
  · rename_i ho; exact evAlloc_ok h ho hr
  · rename_i ho; exact evBox_ok h ho hr
  · rename_i ho
    rcases orE_cases hr with hr | hr
    · exact evStore_ok h ho hr
    · exact evStoreA_ok h ho hr
  · rename_i ho; exact evBuildS_ok h ho hr
  · rename_i ho
    rcases orE_cases hr with hr | hr
    · exact evMakeS_ok h ho hr
    · exact evMakeA_ok h ho hr
  · rename_i ho
    rcases orE_cases hr with hr | hr
    · exact (evR_ok h.toSRel hr).ok h
    · exact evStrC_ok h ho hr
  · rename_i ho
    rcases orE_cases hr with hr | hr
    · exact (evR_ok h.toSRel hr).ok h
    · rcases orE_cases hr with hr | hr
      · exact evApp2_ok h ho hr
      · rcases orE_cases hr with hr | hr
        · exact evApp_ok h ho hr
        · rcases orE_cases hr with hr | hr
          · exact evAppZ_ok h ho hr
          · rcases orE_cases hr with hr | hr
            · exact evCopy_ok h ho hr
            · rcases orE_cases hr with hr | hr
              · exact evClr_ok h ho hr
              · exact evCmp_ok h ho hr
  · exact (evS_ok h hr).1
end ops
end Go.Sy
namespace Go.Sy
/-! What is worked out is written out, before one goes on: the checker reckons by need, and the needs grow long. -/
variable {β : Type}
def fcN (n : Nat) (k : Nat → β) : β := match n with
  | 0 => k 0
  | n + 1 => k (Nat.succ n)
theorem fcN_eq (n : Nat) (k : Nat → β) : fcN n k = k n := by cases n <;> rfl
def fcI (n : Int) (k : Int → β) : β := match n with
  | .ofNat n => fcN n fun n => k (.ofNat n)
  | .negSucc n => fcN n fun n => k (.negSucc n)
theorem fcI_eq (n : Int) (k : Int → β) : fcI n k = k n := by cases n <;> simp only [fcI, fcN_eq]
def fcB (b : Bool) (k : Bool → β) : β := match b with
  | true => k true
  | false => k false
theorem fcB_eq (b : Bool) (k : Bool → β) : fcB b k = k b := by cases b <;> rfl
def fcK (x : IntKind) (k : IntKind → β) : β := match x with
  | .i8 => k .i8 | .i16 => k .i16 | .i32 => k .i32 | .i64 => k .i64
  | .u8 => k .u8 | .u16 => k .u16 | .u32 => k .u32 | .u64 => k .u64
theorem fcK_eq (x : IntKind) (k : IntKind → β) : fcK x k = k x := by cases x <;> rfl
def fcLs {α : Type} (f : α → (α → β) → β) : List α → (List α → β) → β
  | [], k => k []
  | x :: xs, k => f x fun x => fcLs f xs fun xs => k (x :: xs)
theorem fcLs_eq {α : Type} {f : α → (α → β) → β} (h : ∀ x k, f x k = k x) : ∀ (xs : List α) (k : List α → β), fcLs f xs k = k xs
  | [], k => rfl
  | x :: xs, k => by simp only [fcLs, h, fcLs_eq h xs]
def fcO1 (o : O1) (k : O1 → β) : β := match o with
  | .wrap x => fcK x fun x => k (.wrap x)
  | .not => k .not
  | .cl lo hi => fcI lo fun lo => fcI hi fun hi => k (.cl lo hi)
theorem fcO1_eq (o : O1) (k : O1 → β) : fcO1 o k = k o := by cases o <;> simp only [fcO1, fcK_eq, fcI_eq]
def fcO2 (o : O2) (k : O2 → β) : β := match o with
  | .add => k .add | .sub => k .sub | .mul => k .mul | .tdiv => k .tdiv | .tmod => k .tmod | .eq => k .eq | .lt => k .lt | .le => k .le | .and => k .and | .or => k .or
  | .band x => fcK x fun x => k (.band x)
  | .bor x => fcK x fun x => k (.bor x)
  | .bxor x => fcK x fun x => k (.bxor x)
  | .bandn x => fcK x fun x => k (.bandn x)
  | .shl x => fcK x fun x => k (.shl x)
  | .shr x => fcK x fun x => k (.shr x)
theorem fcO2_eq (o : O2) (k : O2 → β) : fcO2 o k = k o := by cases o <;> simp only [fcO2, fcK_eq]
def T.fc : T → (T → β) → β
  | .lit n, k => fcI n fun n => k (.lit n)
  | .v i lo hi, k => fcN i fun i => fcI lo fun lo => fcI hi fun hi => k (.v i lo hi)
  | .un o a, k => fcO1 o fun o => a.fc fun a => k (.un o a)
  | .bin o a b, k => fcO2 o fun o => a.fc fun a => b.fc fun b => k (.bin o a b)
  | .ite c a b, k => c.fc fun c => a.fc fun a => b.fc fun b => k (.ite c a b)
  | .sel s i, k => s.fc fun s => i.fc fun i => k (.sel s i)
  | .upd s i x, k => s.fc fun s => i.fc fun i => x.fc fun x => k (.upd s i x)
  | .sh s o, k => s.fc fun s => o.fc fun o => k (.sh s o)
  | .blit d o n s, k => d.fc fun d => o.fc fun o => n.fc fun n => s.fc fun s => k (.blit d o n s)
  | .eqr n a b, k => n.fc fun n => a.fc fun a => b.fc fun b => k (.eqr n a b)
theorem T.fc_eq (t : T) : ∀ (k : T → β), t.fc k = k t := by
  induction t <;> intro k <;> simp only [T.fc, fcI_eq, fcN_eq, fcO1_eq, fcO2_eq, *]
def fcKd (x : K) (k : K → β) : β := match x with
  | .i x => fcK x fun x => k (.i x)
  | .b => k .b
theorem fcKd_eq (x : K) (k : K → β) : fcKd x k = k x := by cases x <;> simp only [fcKd, fcK_eq]
def Col.fc (x : Col) (k : Col → β) : β := match x with
  | ⟨q, m, s⟩ => fcKd q fun q => fcN m fun m => s.fc fun s => k ⟨q, m, s⟩
theorem Col.fc_eq (x : Col) (k : Col → β) : x.fc k = k x := by cases x; simp only [Col.fc, fcKd_eq, fcN_eq, T.fc_eq]
def C.fc (x : C) (k : C → β) : β := match x with
  | .int q t => fcK q fun q => t.fc fun t => k (.int q t)
  | .bool t => t.fc fun t => k (.bool t)
  | .ptr b o => fcN b fun b => fcN o fun o => k (.ptr b o)
  | .pti b o ix sz cnt => fcN b fun b => fcN o fun o => ix.fc fun ix => fcN sz fun sz => fcN cnt fun cnt => k (.pti b o ix sz cnt)
  | .nilp => k .nilp
  | .slc b o l => fcN b fun b => fcN o fun o => fcN l fun l => k (.slc b o l)
  | .nils => k .nils
  | .fn f => fcN f fun f => k (.fn f)
  | .clo f caps => fcN f fun f => fcLs (fun p k => fcN p.1 fun a => fcN p.2 fun b => k (a, b)) caps fun caps => k (.clo f caps)
  | .raw v => k (.raw v)
  | .any => k .any
  | .str n s => n.fc fun n => s.fc fun s => k (.str n s)
  | .slr b z o n => fcN b fun b => fcN z fun z => o.fc fun o => n.fc fun n => k (.slr b z o n)
  | .sln b z n => fcN b fun b => fcN z fun z => n.fc fun n => k (.sln b z n)
  | .pta b z i o r => fcN b fun b => fcN z fun z => i.fc fun i => fcN o fun o => r.fc fun r => k (.pta b z i o r)
  | .ifc t g cs => fcN t fun t => fcB g fun g => fcLs Col.fc cs fun cs => k (.ifc t g cs)
  | .sle b z n => fcN b fun b => fcN z fun z => fcN n fun n => k (.sle b z n)
theorem fcPair_eq (p : Nat × Nat) (k : Nat × Nat → β) : (fcN p.1 fun a => fcN p.2 fun b => k (a, b)) = k p := by simp only [fcN_eq]
theorem C.fc_eq (x : C) (k : C → β) : x.fc k = k x := by
  cases x <;> simp only [C.fc, fcK_eq, fcN_eq, fcB_eq, T.fc_eq]
  · exact fcLs_eq (fun _ _ => rfl) _ _
  · exact fcLs_eq Col.fc_eq _ _
def A.fc (x : A) (k : A → β) : β := match x with
  | .c x => x.fc fun x => k (.c x)
  | .agg xs => fcLs C.fc xs fun xs => k (.agg xs)
  | .rows cols => fcLs Col.fc cols fun cols => k (.rows cols)
  | .dead => k .dead
theorem A.fc_eq (x : A) (k : A → β) : x.fc k = k x := by
  cases x <;> simp only [A.fc, C.fc_eq]
  · exact fcLs_eq C.fc_eq _ _
  · exact fcLs_eq Col.fc_eq _ _
def L.fc (x : L) (k : L → β) : β := match x with
  | .a x => x.fc fun x => k (.a x)
  | .tup xs => fcLs A.fc xs fun xs => k (.tup xs)
  | .gd c x => c.fc fun c => x.fc fun x => k (.gd c x)
theorem L.fc_eq (x : L) (k : L → β) : x.fc k = k x := by
  cases x <;> simp only [L.fc, A.fc_eq, T.fc_eq]
  exact fcLs_eq A.fc_eq _ _
def Tr.fc : Tr → (Tr → β) → β
  | .nil, k => k .nil
  | .nd x l r, k => x.fc fun x => l.fc fun l => r.fc fun r => k (.nd x l r)
theorem Tr.fc_eq (t : Tr) : ∀ (k : Tr → β), t.fc k = k t := by
  induction t <;> intro k <;> simp only [Tr.fc, L.fc_eq, *]
def Bk.fc (x : Bk) (k : Bk → β) : β := match x with
  | .cells ty xs => fcN ty fun ty => fcLs C.fc xs fun xs => k (.cells ty xs)
  | .arr ty n cols => fcN ty fun ty => n.fc fun n => fcLs Col.fc cols fun cols => k (.arr ty n cols)
  | .dead => k .dead
theorem Bk.fc_eq (x : Bk) (k : Bk → β) : x.fc k = k x := by
  cases x <;> simp only [Bk.fc, fcN_eq, T.fc_eq]
  · exact fcLs_eq C.fc_eq _ _
  · exact fcLs_eq Col.fc_eq _ _
def fcF (p : T × Bool) (k : T × Bool → β) : β := match p with
  | (t, b) => t.fc fun t => fcB b fun b => k (t, b)
theorem fcF_eq (p : T × Bool) (k : T × Bool → β) : fcF p k = k p := by obtain ⟨t, b⟩ := p; simp only [fcF, T.fc_eq, fcB_eq]
def Df.fc (d : Df) (k : Df → β) : β := match d with
  | .one i t => fcN i fun i => t.fc fun t => k (.one i t)
  | .call i g ts n => fcN i fun i => fcN g fun g => fcLs T.fc ts fun ts => fcN n fun n => k (.call i g ts n)
theorem Df.fc_eq (d : Df) (k : Df → β) : d.fc k = k d := by
  cases d <;> simp only [Df.fc, fcN_eq, T.fc_eq]
  exact fcLs_eq T.fc_eq _ _
def Kn.fc (x : Kn) (k : Kn → β) : β := match x with
  | ⟨ds, nv⟩ => fcLs Df.fc ds fun ds => fcN nv fun nv => k ⟨ds, nv⟩
theorem Kn.fc_eq (x : Kn) (k : Kn → β) : x.fc k = k x := by
  cases x; simp only [Kn.fc, fcN_eq]; exact fcLs_eq Df.fc_eq _ _
def fcPc (x : Pc) (k : Pc → β) : β := fcLs fcF x k
theorem fcPc_eq (x : Pc) (k : Pc → β) : fcPc x k = k x := fcLs_eq fcF_eq _ _
def St.fc (x : St) (k : St → β) : β := match x with
  | ⟨s, m, pc, kn⟩ => s.fc fun s => fcLs Bk.fc m fun m => fcPc pc fun pc => kn.fc fun kn => k ⟨s, m, pc, kn⟩
theorem St.fc_eq (x : St) (k : St → β) : x.fc k = k x := by
  cases x; simp only [St.fc, Tr.fc_eq, fcPc_eq, Kn.fc_eq]; exact fcLs_eq Bk.fc_eq _ _
/-- A slot set, its way down written out. -/
def Tr.setF : Tr → Nat → L → (Tr → β) → β
  | .nil, _, _, k => k .nil
  | .nd x l r, i, y, k => bif Nat.beq i 0 then k (.nd y l r) else bif Nat.beq (Nat.mod i 2) 1 then l.setF (Nat.div i 2) y fun l => k (.nd x l r) else r.setF (Nat.pred (Nat.div i 2)) y fun r => k (.nd x l r)
theorem Tr.setF_eq {y : L} : ∀ (t : Tr) (i : Nat) (k : Tr → β), t.setF i y k = k (t.set i y) := by
  intro t
  induction t with
  | nil => intro i k; rfl
  | nd x l r ihl ihr =>
    intro i k
    simp only [Tr.setF, Tr.set, ihl, ihr]
    cases Nat.beq i 0 <;> cases Nat.beq (Nat.mod i 2) 1 <;> rfl
/-- A slot's new value, written out. -/
def putF (st : St) (dst : Option Tmp) (y : L) (k : St → β) : β := y.fc fun y => match dst with
  | some d => st.s.setF d y fun s => k ⟨s, st.m, st.pc, st.k⟩
  | none => k st

/-! What an operation has changed is written out; the rest was so before. -/
/-- The list's way down to 'i', what is there whole. -/
def fcSet {α : Type} (f : α → (α → β) → β) : Nat → List α → (List α → β) → β
  | _, [], k => k []
  | 0, x :: xs, k => f x fun x => k (x :: xs)
  | i + 1, x :: xs, k => fcSet f i xs fun xs => k (x :: xs)
theorem fcSet_eq {α : Type} {f : α → (α → β) → β} (h : ∀ x k, f x k = k x) : ∀ (i : Nat) (xs : List α) (k : List α → β), fcSet f i xs k = k xs
  | 0, [], k => rfl
  | _ + 1, [], k => rfl
  | 0, x :: xs, k => by simp only [fcSet, h]
  | i + 1, x :: xs, k => by simp only [fcSet, fcSet_eq h i xs]
/-- What comes behind the first 'i', whole. -/
def fcFrom {α : Type} (f : α → (α → β) → β) : Nat → List α → (List α → β) → β
  | _, [], k => k []
  | 0, x :: xs, k => f x fun x => fcFrom f 0 xs fun xs => k (x :: xs)
  | i + 1, x :: xs, k => fcFrom f i xs fun xs => k (x :: xs)
theorem fcFrom_eq {α : Type} {f : α → (α → β) → β} (h : ∀ x k, f x k = k x) : ∀ (i : Nat) (xs : List α) (k : List α → β), fcFrom f i xs k = k xs
  | 0, [], k => rfl
  | _ + 1, [], k => rfl
  | 0, x :: xs, k => by simp only [fcFrom, h, fcFrom_eq h 0 xs]
  | i + 1, x :: xs, k => by simp only [fcFrom, fcFrom_eq h i xs]
/-- 'n' of them, from 'i' on. -/
def fcMid {α : Type} (f : α → (α → β) → β) : Nat → Nat → List α → (List α → β) → β
  | _, _, [], k => k []
  | 0, 0, x :: xs, k => k (x :: xs)
  | 0, n + 1, x :: xs, k => f x fun x => fcMid f 0 n xs fun xs => k (x :: xs)
  | i + 1, n, x :: xs, k => fcMid f i n xs fun xs => k (x :: xs)
theorem fcMid_eq {α : Type} {f : α → (α → β) → β} (h : ∀ x k, f x k = k x) : ∀ (i n : Nat) (xs : List α) (k : List α → β), fcMid f i n xs k = k xs
  | 0, 0, [], k => rfl
  | 0, _ + 1, [], k => rfl
  | _ + 1, 0, [], k => rfl
  | _ + 1, _ + 1, [], k => rfl
  | 0, 0, x :: xs, k => rfl
  | 0, n + 1, x :: xs, k => by simp only [fcMid, h, fcMid_eq h 0 n xs]
  | i + 1, n, x :: xs, k => by simp only [fcMid, fcMid_eq h i n xs]
def Bk.fcAt (o n : Nat) (x : Bk) (k : Bk → β) : β := match x with
  | .cells ty xs => fcN ty fun ty => fcMid C.fc o n xs fun xs => k (.cells ty xs)
  | .arr ty n cols => fcN ty fun ty => n.fc fun n => fcLs Col.fc cols fun cols => k (.arr ty n cols)
  | .dead => k .dead
theorem Bk.fcAt_eq (o n : Nat) (x : Bk) (k : Bk → β) : x.fcAt o n k = k x := by
  cases x <;> simp only [Bk.fcAt, fcN_eq, T.fc_eq]
  · exact fcMid_eq C.fc_eq _ _ _ _
  · exact fcLs_eq Col.fc_eq _ _
/-- The way down to a slot, what is there whole. -/
def Tr.fcAt : Tr → Nat → (Tr → β) → β
  | .nil, _, k => k .nil
  | .nd x l r, i, k => bif Nat.beq i 0 then x.fc fun x => k (.nd x l r) else bif Nat.beq (Nat.mod i 2) 1 then l.fcAt (Nat.div i 2) fun l => k (.nd x l r) else r.fcAt (Nat.pred (Nat.div i 2)) fun r => k (.nd x l r)
theorem Tr.fcAt_eq : ∀ (t : Tr) (i : Nat) (k : Tr → β), t.fcAt i k = k t := by
  intro t
  induction t with
  | nil => intro i k; rfl
  | nd x l r ihl ihr =>
    intro i k
    simp only [Tr.fcAt, ihl, ihr, L.fc_eq]
    cases Nat.beq i 0 <;> cases Nat.beq (Nat.mod i 2) 1 <;> rfl
def fcDst (dst : Option Tmp) (s : Tr) (k : Tr → β) : β := match dst with
  | some d => s.fcAt d k
  | none => k s
theorem fcDst_eq (dst : Option Tmp) (s : Tr) (k : Tr → β) : fcDst dst s k = k s := by cases dst <;> simp only [fcDst, Tr.fcAt_eq]
/-- The blocks behind an operation; 'at': where a new one goes, if not to the end. -/
def fcAt_ (at_ : Option Nat) (m : List Bk) (k : List Bk → β) : β := match at_ with
  | some p => fcSet Bk.fc p m k
  | none => k m
def fcMem (P : Program) (old : St) (o : Op) (at_ : Option Nat) (m : List Bk) (k : List Bk → β) : β := match o with
  | .store t x _ => match opC old x with
    | some (.ptr b o) => fcSet (Bk.fcAt o (match sizeT P t with | some n => n | none => 1)) b m k
    | some (.pti b _ _ _ _) => fcSet Bk.fc b m k
    | some (.pta b _ _ _ _) => fcSet Bk.fc b m k
    | _ => fcLs Bk.fc m k
  | .alloc _ => match at_ with
    | some p => fcSet Bk.fc p m fun m => fcFrom Bk.fc old.m.length m k
    | none => fcFrom Bk.fc old.m.length m k
  | .box _ _ => fcAt_ at_ m fun m => fcFrom Bk.fc old.m.length m k
  | .buildSlice _ _ _ => fcAt_ at_ m fun m => fcFrom Bk.fc old.m.length m k
  | .makeSlice _ _ _ => fcAt_ at_ m fun m => fcFrom Bk.fc old.m.length m k
  | .call c => match c.callee with
    | .builtin _ => fcAt_ at_ m fun m => fcFrom Bk.fc old.m.length m k
    | _ => k m
  | _ => k m
theorem fcMem_eq [Fs] (P : Program) (old : St) (o : Op) (at_ : Option Nat) (m : List Bk) (k : List Bk → β) : fcMem P old o at_ m k = k m := by
  unfold fcMem
  have hl : ∀ (m : List Bk) (k : List Bk → β), fcLs Bk.fc m k = k m := fun m k => fcLs_eq Bk.fc_eq m k
  have hs : ∀ (b : Nat) (m : List Bk) (k : List Bk → β), fcSet Bk.fc b m k = k m := fun b m k => fcSet_eq Bk.fc_eq b m k
  have ha : ∀ (o n b : Nat) (m : List Bk) (k : List Bk → β), fcSet (Bk.fcAt o n) b m k = k m := fun o n b m k => fcSet_eq (Bk.fcAt_eq o n) b m k
  have hf : ∀ (i : Nat) (m : List Bk) (k : List Bk → β), fcFrom Bk.fc i m k = k m := fun i m k => fcFrom_eq Bk.fc_eq i m k
  have hA : ∀ (at_ : Option Nat) (m : List Bk) (k : List Bk → β), fcAt_ at_ m k = k m := fun at_ m k => by cases at_ <;> simp only [fcAt_, hs]
  split
  · split <;> simp only [hl, hs, ha]
  · split <;> simp only [hs, hf]
  · rw [hA, hf]
  · rw [hA, hf]
  · rw [hA, hf]
  · split <;> simp only [hA, hf]
  · rfl
/-- What an operation has changed; 'p': the facts too. -/
def fcLt (P : Program) (old : St) (o : Oper) (at_ : Option Nat) (p : Bool) (x : St) (k : St → β) : β := match x with
  | ⟨s, m, pc, kn⟩ => fcDst o.dst s fun s => fcMem P old o.op at_ m fun m => bif p then fcPc pc fun pc => k ⟨s, m, pc, kn⟩ else k ⟨s, m, pc, kn⟩
theorem fcLt_eq [Fs] (P : Program) (old : St) (o : Oper) (at_ : Option Nat) (p : Bool) (x : St) (k : St → β) : fcLt P old o at_ p x k = k x := by
  cases x; cases p <;> simp only [fcLt, fcDst_eq, fcMem_eq, fcPc_eq, cond_true, cond_false]
/-- What was told anew. -/
def fcKn (old : Kn) (x : Kn) (k : Kn → β) : β := match x with
  | ⟨ds, nv⟩ => fcMid Df.fc 0 (Nat.sub ds.length old.ds.length) ds fun ds => fcN nv fun nv => k ⟨ds, nv⟩
theorem fcKn_eq [Fs] (old : Kn) (x : Kn) (k : Kn → β) : fcKn old x k = k x := by
  cases x; simp only [fcKn, fcMid_eq Df.fc_eq, fcN_eq]
end Go.Sy
