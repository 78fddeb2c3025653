/- Part Za6 of a checked reader of Go texts in their model form: it runs a function at terms in the place of numbers, and each part proves that its answers hold of the model. -/
import Derived.Test.YtjfcnhfpnjcjaaaGreatDoorQyZa3
import Derived.Laws.Strings
import Derived.Laws.AppendOwn
import Derived.Laws.CopyRow
import Derived.Laws.IdiomCopy
namespace Go.E3
open Go.Sy
noncomputable section
variable {P : Program} {pc : Pc} {o : Oper}

/-! new blocks -/
/-- What a new block's value is. -/
inductive Nk where
  | ptr
  | slc (len : Nat) (c : Cp)
  | map
def Nk.at (b : Pt) : Nk → C
  | .ptr => .ptr b 0
  | .slc len c => .slc b 0 len c
  | .map => .map b
/-- An operation that makes a block. -/
def NewOk (P : Program) (pc : Pc) (o : Oper) (f : Tri L → Option (B × Nk)) : Prop :=
  ∀ s x k, f s = some (x, k) → ∀ (E : Env) (ρ : Pt → Rb) (D : Pt → Prop) (ev : Operand → Value) (w : World), pcOk E pc → OpsR E ρ D s ev o.op.operands.toList →
    ∃ ob z, (∀ b, (k.at b).ok E (upd ρ b ⟨w.heap.size, z⟩) (Un D (Rg b b.succ)) ∧ (execOp ev o).run P w = .ok (.value ((k.at b).val E (upd ρ b ⟨w.heap.size, z⟩))) (w.alloc ob)) ∧
      ∀ ρ' D', Grow ρ D ρ' D' → BR E ρ' D' z x (some ob)
theorem grow_upd {ρ : Pt → Rb} {D : Pt → Prop} {b : Pt} (hb : ¬ D b) (r : Rb) (D' : Pt → Prop) : Grow ρ D (upd ρ b r) (Un D D') := ⟨fun _p hp => upd_ne _ _ fun e => hb (e ▸ hp), fun _ => .inl⟩
def zeroOf (P : Program) (e : TypeId) : Option (List C) := match infoF P e with
  | some i => match i.zero with
    | some z => bif z.cells.toList.all (·.oneCell') then some (z.cells.toList.map constC) else none
    | none => none
  | none => none
theorem zeroOf_info {e : TypeId} {xs : List C} (h : zeroOf P e = some xs) : ∃ i z, P.info? e = some i ∧ i.zero = some z ∧ ∀ (E : Env) (ρ : Pt → Rb) (D : Pt → Prop), (∀ x ∈ xs, x.ok E ρ D) ∧ z.cells = (xs.map (C.val E ρ)).toArray := by
  unfold zeroOf at h
  rw [infoF_eq] at h
  split at h
  · rename_i i hi
    split at h
    · rename_i z hz
      cases hc : z.cells.toList.all (·.oneCell') <;> simp only [hc, cond_true, cond_false] at h
      · cases h
      · cases h
        exact ⟨i, z, hi, hz, fun E ρ D => ⟨(constCs_ok hc E ρ D).1, (constCs_ok hc E ρ D).2.symm⟩⟩
    · cases h
  · cases h
theorem run_zero {e : TypeId} {i : TypeInfo} {z : Value} (hi : P.info? e = some i) (hz : i.zero = some z) (w : World) : (zeroValue e).run P w = .ok z w := by simp [zeroValue, typeInfo, hi, hz]
theorem cellAt_e (n : Nat) (d : List C) (i : Nat) : cellAt n d .e i = if i < n then (match d with | [] => none | d => d[i % d.length]?) else none := by
  unfold cellAt
  rw [Tri.get_e]
  cases hb : Nat.ble n i <;> simp only [cond_true, cond_false]
  · rw [if_pos (by rcases Nat.lt_or_ge i n with h | h
                   · exact h
                   · rw [ge_iff_le, ← Nat.ble_eq, hb] at h; cases h)]; rfl
  · rw [Nat.ble_eq] at hb; rw [if_neg (by omega)]
/-- Cells that are what is told over and over, but for some. -/
theorem cells_zero {E : Env} {ρ : Pt → Rb} {D : Pt → Prop} {n : Nat} {d : List C} (hd : ∀ x ∈ d, x.ok E ρ D) {i : Nat} {x : C} (h : cellAt n d .e i = some x) : i < n ∧ 0 < d.length ∧ x.ok E ρ D ∧ ((d.map (C.val E ρ)).toArray)[i % d.length]? = some (x.val E ρ) := by
  rw [cellAt_e] at h
  split at h
  · rename_i hi
    split at h
    · cases h
    · rename_i hne
      have hlt := (List.getElem?_eq_some_iff.1 h).1
      refine ⟨hi, by omega, hd x (List.mem_of_getElem? h), ?_⟩
      simp [h]
  · cases h
def evAlloc (z : List C) (e : TypeId) (_ : Tri L) : Option (B × Nk) := some (.cells e z.length true z .e, .ptr)
theorem evAlloc_ok {e : TypeId} (ho : o.op = .alloc e) {z : List C} (hz : zeroOf P e = some z) : NewOk P pc o (evAlloc z e) := by
  intro s x k hf E ρ D ev w hp hops
  cases hf
  obtain ⟨i, zv, hi, hzv, hzz⟩ := zeroOf_info hz
  refine ⟨.cells zv.cells e, zv.cells.size, fun b => ⟨.inr ((rg_succ _ _).2 rfl), ?_⟩, fun ρ' D' g => ?_⟩
  · have := run_zero hi hzv w
    simp only [Nk.at, C.val, upd_same]
    simp [execOp, ho, Instr.alloc, this, newVar, newRow]
  · obtain ⟨z1, z2⟩ := hzz E ρ' D'
    have hs : zv.cells.size = z.length := by rw [z2]; simp
    refine ⟨zv.cells, rfl, rfl, Nat.le_of_eq hs.symm, fun _ => hs, fun i x hx => ?_⟩
    obtain ⟨h1, h2, h3, h4⟩ := cells_zero z1 hx
    rw [Nat.mod_eq_of_lt h1, ← z2] at h4
    exact ⟨h3, h4⟩
theorem cellAt_list {n : Nat} {xs : List C} {i : Nat} {x : C} (h : cellAt n [] (puts xs .e 0) i = some x) : xs[i]? = some x := by
  rcases cellAt_puts h with ⟨_, _, h⟩ | ⟨_, h⟩
  · exact h
  · rw [cellAt_e] at h; split at h <;> cases h
def evBox (pc : Pc) (e : TypeId) (x : Operand) (s : Tri L) : Option (B × Nk) := match opd pc s x with
  | some v => putsK (cellsOf v) .e 0 fun t => some (.cells e (cellsOf v).length true [] t, .ptr)
  | none => none
theorem evBox_ok {e : TypeId} {x : Operand} (ho : o.op = .box e x) : NewOk P pc o (evBox pc e x) := by
  intro s y k hf E ρ D ev w hp hops
  unfold evBox at hf
  split at hf
  · rename_i v hv
    rw [putsK_eq] at hf
    cases hf
    obtain ⟨v1, v2⟩ := opd_ok hp hops (by simp [ho, Op.operands]) hv
    refine ⟨.cells (ev x).cells e, (ev x).cells.size, fun b => ⟨.inr ((rg_succ _ _).2 rfl), ?_⟩, fun ρ' D' g => ?_⟩
    · simp only [Nk.at, C.val, upd_same]
      simp [execOp, ho, Instr.box, newVar, newRow]
    · obtain ⟨g1, g2⟩ := v.grow g v1
      obtain ⟨c1, c2⟩ := cellsOf_ok g1
      rw [v2, ← g2, c1]
      refine ⟨_, rfl, rfl, by simp, fun _ => by simp, fun i x hx => ?_⟩
      have := cellAt_list hx
      exact ⟨c2 x (List.mem_of_getElem? this), by simp [this]⟩
  · cases hf
def litN (pc : Pc) (s : Tri L) (x : Operand) : Option Nat := match opC pc s x with
  | some (.int _ (.lit n)) => Int.casesOn n (fun n => some n) (fun _ => none)
  | _ => none
theorem litN_ok {E : Env} {ρ : Pt → Rb} {D : Pt → Prop} {s : Tri L} {ev : Operand → Value} {xs : List Operand} (hp : pcOk E pc) (h : OpsR E ρ D s ev xs) {x : Operand} (hx : x ∈ xs) {n : Nat} (hn : litN pc s x = some n) : ∃ k, ev x = .int k n := by
  unfold litN at hn
  split at hn
  · rename_i k m hm
    have := (opC_ok hp h hx hm).2
    cases m with
    | ofNat m => cases hn; exact ⟨k, this⟩
    | negSucc m => cases hn
  · cases hn
def evMakeS (pc : Pc) (e : TypeId) (sz bytes : Nat) (z : List C) (l c : Operand) (s : Tri L) : Option (B × Nk) := match litN pc s l, litN pc s c with
  | some n, some k => bif Nat.ble n k && Nat.ble k 1048576 && Nat.ble (Nat.mul bytes k) 281474976710656 && Nat.ble 1 (Nat.mul k sz) && Nat.ble 1 z.length then some (.cells e (Nat.mul k sz) true z .e, .slc n (.k k)) else none
  | _, _ => none
theorem evMakeS_ok {t e : TypeId} {l c : Operand} (ho : o.op = .makeSlice t l c) (hu : P.underlying t = some (.slice e)) {sz : Nat} (hs : sizeT P e = some sz) {inf : TypeInfo} (hinf : P.info? e = some inf) {z : List C} (hz : zeroOf P e = some z) : NewOk P pc o (evMakeS pc e sz inf.bytes z l c) := by
  intro s x k0 hf E ρ D ev w hp hops
  unfold evMakeS at hf
  split at hf
  · rename_i n k hl hc
    obtain ⟨k1, hlv⟩ := litN_ok hp hops (by simp [ho, Op.operands]) hl
    obtain ⟨k2, hcv⟩ := litN_ok hp hops (by simp [ho, Op.operands]) hc
    cases hq : Nat.ble n k && Nat.ble k 1048576 && Nat.ble (Nat.mul inf.bytes k) 281474976710656 && Nat.ble 1 (Nat.mul k sz) && Nat.ble 1 z.length <;> simp only [hq, cond_true, cond_false] at hf
    · cases hf
    · cases hf
      simp only [Bool.and_eq_true, Nat.ble_eq] at hq
      obtain ⟨⟨⟨⟨hnk, hkm⟩, hby⟩, hks⟩, hz0⟩ := hq
      change inf.bytes * k ≤ _ at hby
      change 1 ≤ k * sz at hks
      obtain ⟨i, zv, hi, hzv, hzz⟩ := zeroOf_info hz
      refine ⟨.cells ((Array.range (k * sz)).map fun i => zv.cells[i % zv.cells.size]!) e, k * sz, fun b => ⟨⟨.inr ((rg_succ _ _).2 rfl), hnk, trivial⟩, ?_⟩, fun ρ' D' g => ?_⟩
      · simp only [Nk.at, C.val, upd_same, Cp.val]
        have w1 : IntKind.i64.wrap (n : Int) = n := IntWalk.i64_in n (by omega)
        have w2 : IntKind.i64.wrap (k : Int) = k := IntWalk.i64_in k (by omega)
        have hb1 : ¬ (281474976710656 : Int) < inf.bytes * (k : Int) := by
          have h' : ((inf.bytes * k : Nat) : Int) = inf.bytes * (k : Int) := Int.natCast_mul _ _
          rw [← h']; omega
        have hb2 : ¬ (281474976710656 : Int) < inf.bytes * (n : Int) := by
          have : (inf.bytes : Int) * n ≤ inf.bytes * k := Int.mul_le_mul_of_nonneg_left (by omega) (by omega)
          omega
        have c1 : ¬ (k : Int) < 0 := by omega
        have c2 : ¬ (n : Int) < 0 := by omega
        have c3 : ¬ (k : Int) < n := by omega
        have c3' : ¬ k < n := by omega
        have c4 : ¬ k * sz = 0 := by omega
        have h1 := run_zero hi hzv
        simp [execOp, ho, hlv, hcv, Instr.makeSlice, run_underlying hu, asInt, asIntOf, typeInfo, hinf, w1, w2, hb1, c1, c2, c3]
        rw [run_sizeT hs]
        simp only [Result.andThen_ok]
        simp [c4, h1, newRow]
      · obtain ⟨z1, z2⟩ := hzz E ρ' D'
        refine ⟨_, rfl, by simp, Nat.le_refl _, fun _ => rfl, fun i x hx => ?_⟩
        obtain ⟨h1, h2, h3, h4⟩ := cells_zero z1 hx
        refine ⟨h3, ?_⟩
        change i < k * sz at h1
        have hzs : zv.cells.size = z.length := by rw [z2]; simp
        rw [← z2] at h4
        simp only [Array.getElem?_map, Array.getElem?_range, h1, if_true, Option.map_some, hzs, getElem!_def, h4]
  · cases hf
/-- Parts of a literal, their cells. -/
def cellsAll (pc : Pc) (s : Tri L) : List (Nat × Operand) → Option (List (Nat × List C))
  | [] => some []
  | (i, x) :: rest => match opd pc s x with
    | some v => match cellsAll pc s rest with
      | some r => some ((i, cellsOf v) :: r)
      | none => none
    | none => none
def partsR (E : Env) (ρ : Pt → Rb) (D : Pt → Prop) : List (Nat × List C) → List (Nat × Value) → Prop
  | [], [] => True
  | (i, ys) :: ps, (j, v) :: qs => i = j ∧ (v.cells = (ys.map (C.val E ρ)).toArray ∧ ∀ y ∈ ys, y.ok E ρ D) ∧ partsR E ρ D ps qs
  | _, _ => False
theorem cellsAll_ok {E : Env} {ρ : Pt → Rb} {D : Pt → Prop} {s : Tri L} {ev : Operand → Value} {xs : List Operand} (hp : pcOk E pc) (h : OpsR E ρ D s ev xs) : ∀ {ps : List (Nat × Operand)} {qs : List (Nat × List C)}, (∀ p ∈ ps, p.2 ∈ xs) → cellsAll pc s ps = some qs → partsR E ρ D qs (ps.map fun (i, x) => (i, ev x)) := by
  intro ps
  induction ps with
  | nil => intro qs _ hq; cases hq; trivial
  | cons p ps ih =>
    intro qs hm hq
    obtain ⟨i, x⟩ := p
    simp only [cellsAll] at hq
    split at hq
    · rename_i v hv
      split at hq
      · rename_i r hr
        cases hq
        obtain ⟨v1, v2⟩ := opd_ok hp h (hm _ List.mem_cons_self) hv
        exact ⟨rfl, by simp only [v2]; exact cellsOf_ok v1, ih (fun p hp => hm p (List.mem_cons_of_mem _ hp)) hr⟩
      · cases hq
    · cases hq
theorem partsR.grow {E : Env} {ρ ρ' : Pt → Rb} {D D' : Pt → Prop} (g : Grow ρ D ρ' D') : ∀ {ps : List (Nat × List C)} {qs : List (Nat × Value)}, partsR E ρ D ps qs → partsR E ρ' D' ps qs := by
  intro ps
  induction ps with
  | nil => intro qs h; cases qs <;> first | trivial | exact h.elim
  | cons p ps ih =>
    intro qs h
    cases qs with
    | nil => exact h.elim
    | cons q qs =>
      obtain ⟨i, ys⟩ := p
      obtain ⟨j, v⟩ := q
      obtain ⟨h1, ⟨h2, h3⟩, h4⟩ := h
      refine ⟨h1, ⟨?_, fun y hy => (y.grow g (h3 y hy)).1⟩, ih h4⟩
      rw [h2, List.map_congr_left fun y hy => ((y.grow g (h3 y hy)).2).symm]
/-- Parts laid into a tree. -/
def layT (place : Nat → Option (Nat × Nat)) (n : Nat) : List (Nat × List C) → Tri C → Option (Tri C)
  | [], t => some t
  | (i, ys) :: rest, t => match place i with
    | none => none
    | some (off, size) => bif Nat.beq ys.length size && Nat.ble (Nat.add off size) n then putsK ys t off fun t => layT place n rest t else none
theorem layT_ok {E : Env} {ρ : Pt → Rb} {D : Pt → Prop} {place : Nat → Option (Nat × Nat)} {n : Nat} {d : List C} : ∀ {ps : List (Nat × List C)} {qs : List (Nat × Value)} {t t' : Tri C} {cs : Array Value}, layT place n ps t = some t' → partsR E ρ D ps qs → cs.size = n →
    (∀ i x, cellAt n d t i = some x → x.ok E ρ D ∧ cs[i]? = some (x.val E ρ)) → ∃ ds, Instr.fill place cs qs = some ds ∧ ds.size = n ∧ ∀ i x, cellAt n d t' i = some x → x.ok E ρ D ∧ ds[i]? = some (x.val E ρ) := by
  intro ps
  induction ps with
  | nil => intro qs t t' cs h hp hn hx; cases qs with
    | nil => cases h; exact ⟨cs, rfl, hn, hx⟩
    | cons q qs => exact hp.elim
  | cons p ps ih =>
    intro qs t t' cs h hp hn hx
    cases qs with
    | nil => exact hp.elim
    | cons q qs =>
      obtain ⟨i, ys⟩ := p
      obtain ⟨j, v⟩ := q
      obtain ⟨rfl, ⟨hy, hyo⟩, hp'⟩ := hp
      simp only [layT] at h
      simp only [Instr.fill]
      split at h
      · cases h
      · rename_i off size hpl
        rw [hpl]
        cases hc : Nat.beq ys.length size && Nat.ble (Nat.add off size) n <;> simp only [hc, cond_true, cond_false] at h
        · cases h
        · rw [putsK_eq] at h
          rw [Bool.and_eq_true, Nat.ble_eq] at hc
          obtain ⟨hc1, hc2⟩ := hc
          have hc1 := Nat.eq_of_beq_eq_true hc1
          change off + size ≤ n at hc2
          have hs : v.cells.size = size := by rw [hy]; simpa using hc1
          have : (v.cells.size ≠ size || off + v.cells.size > cs.size) = false := by
            simp [hs, hn]; omega
          simp only [this, Bool.false_eq_true, if_false]
          have key : ∀ (l : List Value) (k : Nat) (cs : Array Value), off + k + l.length ≤ cs.size → ((l.zipIdx k).foldl (fun cs (c, j) => cs.setIfInBounds (off + j) c) cs).size = cs.size ∧ ∀ i, ((l.zipIdx k).foldl (fun cs (c, j) => cs.setIfInBounds (off + j) c) cs)[i]? = if off + k ≤ i ∧ i < off + k + l.length then l[i - (off + k)]? else cs[i]? := by
            intro l
            induction l with
            | nil => intro k cs _; refine ⟨rfl, fun i => ?_⟩; simp only [List.zipIdx_nil, List.foldl_nil, List.length_nil]; rw [if_neg (by omega)]
            | cons a l ihl =>
              intro k cs hle
              simp only [List.length_cons] at hle
              obtain ⟨e1, e2⟩ := ihl (k + 1) (cs.setIfInBounds (off + k) a) (by simp; omega)
              simp only [List.zipIdx_cons, List.foldl_cons]
              refine ⟨by rw [e1]; simp, fun i => ?_⟩
              rw [e2]
              by_cases hi : i = off + k
              · subst hi
                rw [if_neg (by omega), if_pos (by simp)]
                rw [Array.getElem?_setIfInBounds_self_of_lt (by omega)]; simp
              · by_cases h2 : off + (k + 1) ≤ i ∧ i < off + (k + 1) + l.length
                · rw [if_pos h2, if_pos (by simp; omega)]
                  have : i - (off + k) = (i - (off + (k + 1))) + 1 := by omega
                  rw [this, List.getElem?_cons_succ]
                · rw [if_neg h2, if_neg (by simp; omega), Array.getElem?_setIfInBounds_ne (fun e => hi e.symm)]
          obtain ⟨e1, e2⟩ := key v.cells.toList 0 cs (by simp [hs, hn]; omega)
          refine ih h hp' (cs := v.cells.zipIdx.foldl (fun cs (c, j) => cs.setIfInBounds (off + j) c) cs) ?_ fun i x hi => ?_
          · rw [← Array.foldl_toList, Array.toList_zipIdx, e1, hn]
          · rw [← Array.foldl_toList, Array.toList_zipIdx, e2]
            rcases cellAt_puts hi with ⟨q1, q2, q3⟩ | ⟨q1, q2⟩
            · refine ⟨hyo x (List.mem_of_getElem? q3), ?_⟩
              rw [if_pos (by simp [hs]; omega), hy]
              simp [q3]
            · obtain ⟨r1, r2⟩ := hx i x q2
              refine ⟨r1, ?_⟩
              rw [if_neg (by simp [hs]; omega)]; exact r2
def evBuildS (pc : Pc) (e : TypeId) (sz : Nat) (z : List C) (len : Nat) (ps : List (Nat × Operand)) (s : Tri L) : Option (B × Nk) :=
  bif Nat.ble (Nat.mul len sz) 16777216 && Nat.ble 1 (Nat.mul len sz) then match cellsAll pc s ps with
    | some qs => match layT (fun i => some (Nat.mul i sz, sz)) (Nat.mul len sz) qs .e with
      | some t => some (.cells e (Nat.mul len sz) true z t, .slc len (.k len))
      | none => none
    | none => none
  else none
theorem evBuildS_ok {t e : TypeId} {len : Nat} {ps : Array (Nat × Operand)} (ho : o.op = .buildSlice t len ps) (hu : P.underlying t = some (.slice e)) {sz : Nat} (hs : sizeT P e = some sz) {z : List C} (hz : zeroOf P e = some z) : NewOk P pc o (evBuildS pc e sz z len ps.toList) := by
  intro s x k0 hf E ρ D ev w hp hops
  unfold evBuildS at hf
  cases hq : Nat.ble (Nat.mul len sz) 16777216 && Nat.ble 1 (Nat.mul len sz) <;> simp only [hq, cond_true, cond_false] at hf
  · cases hf
  · rw [Bool.and_eq_true, Nat.ble_eq, Nat.ble_eq] at hq
    obtain ⟨hq1, hq2⟩ := hq
    change len * sz ≤ _ at hq1
    change 1 ≤ len * sz at hq2
    split at hf
    · rename_i qs hqs
      split at hf
      · rename_i t' ht'
        cases hf
        have hpr := cellsAll_ok hp hops (by intro p hp'; simp only [ho, Op.operands]; simp; exact ⟨p.1, by simpa using hp'⟩) hqs
        obtain ⟨i, zv, hi, hzv, hzz⟩ := zeroOf_info hz
        have main : ∀ ρ' D', Grow ρ D ρ' D' → ∃ ds, Instr.fill (fun i => some (Nat.mul i sz, sz)) ((Array.range (len * sz)).map fun i => zv.cells[i % zv.cells.size]!) (ps.toList.map fun (i, x) => (i, ev x)) = some ds ∧ ds.size = len * sz ∧ ∀ i x, cellAt (len * sz) z t' i = some x → x.ok E ρ' D' ∧ ds[i]? = some (x.val E ρ') := fun ρ' D' g => by
          refine layT_ok (n := len * sz) (d := z) ht' (hpr.grow g) (by simp) fun i x hx => ?_
          obtain ⟨z1, z2⟩ := hzz E ρ' D'
          obtain ⟨h1, h2, h3, h4⟩ := cells_zero z1 hx
          refine ⟨h3, ?_⟩
          have hzs : zv.cells.size = z.length := by rw [z2]; simp
          rw [← z2] at h4
          simp only [Array.getElem?_map, Array.getElem?_range, h1, if_true, Option.map_some, hzs, getElem!_def, h4]
        obtain ⟨ds, d1, d2, _⟩ := main ρ D Grow.refl
        refine ⟨.cells ds e, len * sz, fun b => ⟨⟨.inr ((rg_succ _ _).2 rfl), Nat.le_refl _, trivial⟩, ?_⟩, fun ρ' D' g => ?_⟩
        · simp only [Nk.at, C.val, upd_same, Cp.val]
          have hle : ¬ 2 ^ 24 < len * sz := by omega
          have h1 := run_zero hi hzv
          have d1' : Instr.fill (fun i => some (i * sz, sz)) ((Array.range (len * sz)).map fun i => zv.cells[i % zv.cells.size]!) (ps.toList.map fun (i, x) => (i, ev x)) = some ds := d1
          simp [execOp, ho, Instr.buildSlice, run_underlying hu, run_sizeT hs, hle, h1, d1', newRow]
          intro hh; omega
        · obtain ⟨ds', e1, e2, e3⟩ := main ρ' D' g
          rw [d1] at e1; cases e1
          exact ⟨ds, rfl, d2, Nat.le_refl _, fun _ => rfl, e3⟩
      · cases hf
    · cases hf
end
end Go.E3
namespace Go.E3
open Go.Sy
noncomputable section
variable {P : Program} {pc : Pc} {o : Oper}

/-! addresses -/
def evField (pc : Pc) (off : Nat) (x : Operand) (s : Tri L) : Option L := match opC pc s x with
  | some (.ptr b o) => some (.a (.c (.ptr b (Nat.add o off))))
  | _ => none
theorem evField_ok {s : TypeId} {x : Operand} {f : Nat} (ho : o.op = .fieldAddr s x f) {fs : Array Field} (hu : P.underlying s = some (.struct fs)) {fd : Field} (hf : fs[f]? = some fd) {n : Nat} (hs : sizeT P fd.type = some (n + 1)) : PureOk P pc o (evField pc fd.offset x) := by
  intro s l hl E ρ D ev hp hops
  unfold evField at hl
  split at hl
  · rename_i b o' hx
    cases hl
    obtain ⟨h1, h2⟩ := opC_ok hp hops (by simp [ho, Op.operands]) hx
    refine ⟨fun w => ?_, h1⟩
    simp [execOp, ho, h2, C.val, L.val, A.val, Instr.fieldAt, Instr.sureAddr, fieldPlace, run_underlying hu, hf, run_sizeT hs, addr_add]
  · cases hl
def evIxA (pc : Pc) (len sz : Nat) (x i : Operand) (s : Tri L) : Option L := match litN pc s i with
  | some n => bif Nat.ble (Nat.succ n) len then (match opC pc s x with
    | some (.ptr b o) => some (.a (.c (.ptr b (Nat.add o (Nat.mul n sz)))))
    | some (.raw (.pointer (some ⟨g, o, none⟩))) => some (.a (.c (.raw (.pointer (some ⟨g, Nat.add o (Nat.mul n sz), none⟩)))))
    | _ => none) else none
  | none => none
theorem evIxA_ok {t e : TypeId} {x ix : Operand} (ho : o.op = .indexAddr t x ix) {len : Nat} (hu : P.underlying t = some (.array len e)) {sz : Nat} (hs : sizeT P e = some sz) : PureOk P pc o (evIxA pc len sz x ix) := by
  intro s l hl E ρ D ev hp hops
  unfold evIxA at hl
  split at hl
  · rename_i n hn
    obtain ⟨k, hi⟩ := litN_ok hp hops (by simp [ho, Op.operands]) hn
    cases hlt : Nat.ble (Nat.succ n) len <;> simp only [hlt, cond_true, cond_false] at hl
    · cases hl
    · rw [Nat.ble_eq] at hlt
      split at hl
      · rename_i b o' hx
        cases hl
        obtain ⟨h1, h2⟩ := opC_ok hp hops (by simp [ho, Op.operands]) hx
        refine ⟨fun w => ?_, h1⟩
        have c1 : (0 : Int) ≤ (n : Int) := Int.natCast_nonneg _
        have c2 : (n : Int) < (len : Int) := by omega
        have c3 : n < len := hlt
        simp [execOp, ho, h2, hi, C.val, L.val, A.val, Instr.indexAt, asIntOf, Instr.sureAddr, run_underlying hu, run_sizeT hs, c3, addr_add]
      · rename_i g o' hx
        cases hl
        obtain ⟨h1, h2⟩ := opC_ok hp hops (by simp [ho, Op.operands]) hx
        refine ⟨fun w => ?_, rfl⟩
        have c1 : (0 : Int) ≤ (n : Int) := Int.natCast_nonneg _
        have c2 : (n : Int) < (len : Int) := by omega
        have c3 : n < len := hlt
        simp [execOp, ho, h2, hi, C.val, L.val, A.val, Instr.indexAt, asIntOf, Instr.sureAddr, run_underlying hu, run_sizeT hs, c3, addr_add]
      · cases hl
  · cases hl
def evIxS (pc : Pc) (sz : Nat) (x i : Operand) (s : Tri L) : Option L := match litN pc s i with
  | some n => (match opC pc s x with
    | some (.slc b o len _) => bif Nat.ble (Nat.succ n) len then some (.a (.c (.ptr b (Nat.add o (Nat.mul n sz))))) else none
    | _ => none)
  | none => none
theorem evIxS_ok {t e : TypeId} {x ix : Operand} (ho : o.op = .indexAddr t x ix) (hu : P.underlying t = some (.slice e)) {sz : Nat} (hs : sizeT P e = some sz) : PureOk P pc o (evIxS pc sz x ix) := by
  intro s l hl E ρ D ev hp hops
  unfold evIxS at hl
  split at hl
  · rename_i n hn
    obtain ⟨k, hi⟩ := litN_ok hp hops (by simp [ho, Op.operands]) hn
    split at hl
    · rename_i b o' len c hx
      cases hlt : Nat.ble (Nat.succ n) len <;> simp only [hlt, cond_true, cond_false] at hl
      · cases hl
      · rw [Nat.ble_eq] at hlt
        cases hl
        obtain ⟨h1, h2⟩ := opC_ok hp hops (by simp [ho, Op.operands]) hx
        refine ⟨fun w => ?_, h1.1⟩
        have c3 : n < len := hlt
        simp [execOp, ho, h2, hi, C.val, L.val, A.val, Instr.indexAt, asIntOf, run_underlying hu, run_sizeT hs, c3, addr_add]
    · cases hl
  · cases hl

/-! parts of aggregates -/
def dropF {α : Type} (n : Nat) (xs : List α) : List α := Nat.rec (motive := fun _ => List α → List α) (fun xs => xs) (fun _ ih xs => List.casesOn xs [] fun _ t => ih t) n xs
theorem dropF_eq {α : Type} : ∀ (n : Nat) (xs : List α), dropF n xs = xs.drop n
  | 0, _xs => rfl
  | _n + 1, [] => rfl
  | n + 1, _ :: xs => dropF_eq n xs
def takeF {α : Type} (n : Nat) (xs : List α) : List α := Nat.rec (motive := fun _ => List α → List α) (fun _ => []) (fun _ ih xs => List.casesOn xs [] fun x t => x :: ih t) n xs
theorem takeF_eq {α : Type} : ∀ (n : Nat) (xs : List α), takeF n xs = xs.take n
  | 0, _xs => rfl
  | _n + 1, [] => rfl
  | n + 1, x :: xs => congrArg (x :: ·) (takeF_eq n xs)
def partF (agg : Bool) (sz off : Nat) (xs : List C) : Option A := bif agg then some (.agg (takeF sz (dropF off xs))) else List.casesOn (dropF off xs) none fun x _ => some (.c x)
theorem partF_ok {E : Env} {ρ : Pt → Rb} {D : Pt → Prop} {t : TypeId} {agg : Bool} (ha : isAggT P t = some agg) {sz : Nat} (hs : sizeT P t = some sz) {off : Nat} {xs : List C} {y : A} (h : partF agg sz off xs = some y) (hx : ∀ x ∈ xs, x.ok E ρ D) :
    y.ok E ρ D ∧ ∀ w, (part t (xs.map (C.val E ρ)).toArray off).run P w = .ok (y.val E ρ) w := by
  unfold partF at h
  rw [dropF_eq] at h
  cases agg <;> simp only [cond_true, cond_false] at h
  · cases hd : xs.drop off with
    | nil => rw [hd] at h; cases h
    | cons x r =>
      rw [hd] at h; cases h
      have h0 : xs[off]? = some x := by
        have := List.getElem?_drop (xs := xs) (i := off) (j := 0)
        rw [hd, Nat.add_zero] at this; exact this.symm
      exact ⟨hx x (List.mem_of_getElem? h0), fun w => by simp [part, run_isAggT ha, h0, A.val]⟩
  · rw [takeF_eq] at h
    cases h
    refine ⟨fun x h' => hx x (List.mem_of_mem_drop (List.mem_of_mem_take h')), fun w => ?_⟩
    have e : (xs.map (C.val E ρ)).toArray.extract off (off + sz) = (((xs.drop off).take sz).map (C.val E ρ)).toArray := by
      apply Array.ext'
      rw [Array.toList_extract]
      simp [List.extract_eq_take_drop, List.map_take, List.map_drop]
    simp [part, run_isAggT ha, run_sizeT hs, A.val]
def evFieldV (pc : Pc) (agg : Bool) (sz off : Nat) (x : Operand) (s : Tri L) : Option L := match opd pc s x with
  | some (.agg xs) => match partF agg sz off xs with
    | some y => some (.a y)
    | none => none
  | _ => none
theorem evFieldV_ok {t : TypeId} {x : Operand} {f : Nat} (ho : o.op = .field t x f) {fs : Array Field} (hu : P.underlying t = some (.struct fs)) {fd : Field} (hf : fs[f]? = some fd) {agg : Bool} (ha : isAggT P fd.type = some agg) {sz : Nat} (hs : sizeT P fd.type = some sz) : PureOk P pc o (evFieldV pc agg sz fd.offset x) := by
  intro s l hl E ρ D ev hp hops
  unfold evFieldV at hl
  split at hl
  · rename_i xs hx
    obtain ⟨h1, h2⟩ := opd_ok hp hops (by simp [ho, Op.operands]) hx
    split at hl
    · rename_i y hy
      cases hl
      obtain ⟨p1, p2⟩ := partF_ok ha hs hy h1
      exact ⟨fun w => by simp [execOp, ho, h2, A.val, L.val, Instr.field, run_underlying hu, hf, asAgg, p2], p1⟩
    · cases hl
  · cases hl
def evIndexV (pc : Pc) (agg : Bool) (len sz : Nat) (x i : Operand) (s : Tri L) : Option L := match litN pc s i with
  | some n => bif Nat.ble (Nat.succ n) len then (match opd pc s x with
    | some (.agg xs) => match partF agg sz (Nat.mul n sz) xs with
      | some y => some (.a y)
      | none => none
    | _ => none) else none
  | none => none
theorem evIndexV_ok {t e : TypeId} {x ix : Operand} (ho : o.op = .index t x ix) {len : Nat} (hu : P.underlying t = some (.array len e)) {agg : Bool} (ha : isAggT P e = some agg) {sz : Nat} (hs : sizeT P e = some sz) : PureOk P pc o (evIndexV pc agg len sz x ix) := by
  intro s l hl E ρ D ev hp hops
  unfold evIndexV at hl
  split at hl
  · rename_i n hn
    obtain ⟨k, hi⟩ := litN_ok hp hops (by simp [ho, Op.operands]) hn
    cases hlt : Nat.ble (Nat.succ n) len <;> simp only [hlt, cond_true, cond_false] at hl
    · cases hl
    · rw [Nat.ble_eq] at hlt
      split at hl
      · rename_i xs hx
        obtain ⟨h1, h2⟩ := opd_ok hp hops (by simp [ho, Op.operands]) hx
        split at hl
        · rename_i y hy
          cases hl
          obtain ⟨p1, p2⟩ := partF_ok ha hs hy h1
          have c3 : n < len := hlt
          have p2' : ∀ w, (part e (xs.map (C.val E ρ)).toArray (n * sz)).run P w = .ok (y.val E ρ) w := p2
          exact ⟨fun w => by simp [execOp, ho, h2, hi, A.val, L.val, Instr.index, asIntOf, run_underlying hu, run_sizeT hs, c3, p2'], p1⟩
        · cases hl
      · cases hl
  · cases hl
/-- A string's byte. -/
def evIndexStr (pc : Pc) (x i : Operand) (s : Tri L) : Option L := match litN pc s i with
  | some n => (match opC pc s x with
    | some (.str l) => List.casesOn (dropF n l) none fun t _ => some (.a (.c (.int .u8 t)))
    | _ => none)
  | none => none
theorem byteOf_val {n : Int} (h : 0 ≤ n ∧ n ≤ 255) : ((byteOf n).toNat : Int) = n := by
  obtain ⟨m, rfl⟩ := Int.eq_ofNat_of_zero_le h.1
  unfold byteOf
  rw [Int.toNat_natCast, UInt8.toNat_ofNat']
  have : m < 2 ^ 8 := by omega
  rw [Nat.mod_eq_of_lt this]
theorem strOf_data (E : Env) (l : List T) : ∃ b : ByteArray, strOf E l = .string b ∧ b.data.toList = l.map fun t => byteOf (t.den E) := ⟨_, rfl, rfl⟩
theorem evIndexStr_ok {t : TypeId} {x ix : Operand} (ho : o.op = .index t x ix) (hu : P.underlying t = some .string) : PureOk P pc o (evIndexStr pc x ix) := by
  intro s l hl E ρ D ev hp hops
  unfold evIndexStr at hl
  split at hl
  · rename_i n hn
    obtain ⟨k, hi⟩ := litN_ok hp hops (by simp [ho, Op.operands]) hn
    split at hl
    · rename_i l' hx
      obtain ⟨h1, h2⟩ := opC_ok hp hops (by simp [ho, Op.operands]) hx
      rw [dropF_eq] at hl
      cases hd : l'.drop n with
      | nil => rw [hd] at hl; cases hl
      | cons u r =>
        rw [hd] at hl; cases hl
        have h0 : l'[n]? = some u := by
          have := List.getElem?_drop (xs := l') (i := n) (j := 0)
          rw [hd, Nat.add_zero] at this; exact this.symm
        obtain ⟨b, hb1, hb2⟩ := strOf_data E l'
        have hu8 : b[n]? = some (byteOf (u.den E)) := by
          have h5 : b.data.toList[n]? = some (byteOf (u.den E)) := by rw [hb2]; simp [h0]
          rw [Array.getElem?_toList] at h5
          have hlt := (Array.getElem?_eq_some_iff.1 h5).1
          show (if h : n < b.size then some b[n] else none) = _
          exact (dif_pos (show n < b.size from hlt)).trans (congrArg some (Array.getElem?_eq_some_iff.1 h5).2)
        have hr := byteOf_val (h1 u (List.mem_of_getElem? h0))
        refine ⟨fun w => ?_, trivial⟩
        simp [execOp, ho, h2, C.val, hb1, hi, Instr.index, asIntOf, run_underlying hu, hu8, L.val, A.val, hr]
    · cases hl
  · cases hl

/-- The pairs of digits, one behind the other: 00, 01, .. 99. -/
def smallsT : List T := (List.range 100).flatMap fun i => [.lit ((48 + i / 10 : Nat) : Int), .lit ((48 + i % 10 : Nat) : Int)]
theorem smalls_all : ((List.range 100).all fun i => (match smallsT[2 * i]? with
  | some (.lit v) => v == ((48 + i / 10 : Nat) : Int)
  | _ => false) && (match smallsT[2 * i + 1]? with
  | some (.lit v) => v == ((48 + i % 10 : Nat) : Int)
  | _ => false)) = true := by decide +kernel
theorem smalls_at {i : Nat} (hi : i < 100) : smallsT[2 * i]? = some (.lit ((48 + i / 10 : Nat) : Int)) ∧ smallsT[2 * i + 1]? = some (.lit ((48 + i % 10 : Nat) : Int)) := by
  have h := (List.all_eq_true.1 smalls_all) i (List.mem_range.2 hi)
  rw [Bool.and_eq_true] at h
  obtain ⟨h1, h2⟩ := h
  constructor
  · split at h1
    · rename_i v hv; rw [hv, beq_iff_eq.1 h1]
    · cases h1
  · split at h2
    · rename_i v hv; rw [hv, beq_iff_eq.1 h2]
    · cases h2
def eqTl : List T → List T → Bool
  | [], [] => true
  | s :: r, t :: r' => bif s.beq t then eqTl r r' else false
  | _, _ => false
theorem eqTl_eq : ∀ {a b : List T}, eqTl a b = true → a = b := by
  intro a
  induction a with
  | nil => intro b h; cases b with
    | nil => rfl
    | cons _ _ => cases h
  | cons s r ih => intro b h; cases b with
    | nil => cases h
    | cons t r' =>
      simp only [eqTl] at h
      cases hs : s.beq t <;> simp only [hs, cond_true, cond_false] at h
      · cases h
      · rw [T.beq_eq hs, ih h]
/-- An index into the pairs: of which pair, its second digit? -/
def tabIx (u : T) : Option (T × Bool) := match u with
  | .bin .mul q (.lit k) => bif k == 2 then some (q, false) else none
  | .bin .add (.bin .mul q (.lit k)) (.lit c) => bif k == 2 && c == 1 then some (q, true) else none
  | _ => none
theorem tabIx_den {E : Env} {u q : T} {o : Bool} (h : tabIx u = some (q, o)) : u.den E = 2 * q.den E + bif o then 1 else 0 := by
  unfold tabIx at h
  split at h
  · rename_i q' k
    cases hk : k == 2 <;> simp only [hk, cond_true, cond_false] at h
    · cases h
    · cases h
      rw [beq_iff_eq.1 hk]
      simp only [T.den, O2.den, cond_false]; omega
  · rename_i q' k c
    cases hk : k == 2 && c == 1 <;> simp only [hk, cond_true, cond_false] at h
    · cases h
    · cases h
      simp only [Bool.and_eq_true, beq_iff_eq] at hk
      rw [hk.1, hk.2]
      simp only [T.den, O2.den, cond_true]; omega
  · cases h
def evIndexTab (pc : Pc) (x i : Operand) (s : Tri L) : Option L := match opC pc s i with
  | some (.int _ u) => match tabIx u with
    | some (q, o) => bif (rngP pc q).within 0 99 then (match opC pc s x with
      | some (.str l) => bif eqTl l smallsT then some (.a (.c (.int .u8 (mk2 .add (mk2 (bif o then .tmod else .tdiv) q (.lit 10)) (.lit 48))))) else none
      | _ => none) else none
    | none => none
  | _ => none
theorem evIndexTab_ok {t : TypeId} {x ix : Operand} (ho : o.op = .index t x ix) (hu : P.underlying t = some .string) : PureOk P pc o (evIndexTab pc x ix) := by
  intro s l hl E ρ D ev hp hops
  unfold evIndexTab at hl
  split at hl
  · rename_i k u hix
    have hi : ev ix = .int k (u.den E) := (opC_ok hp hops (by simp [ho, Op.operands]) hix).2
    split at hl
    · rename_i q od hq
      cases hr : (rngP pc q).within 0 99 <;> simp only [hr, cond_true, cond_false] at hl
      · cases hl
      have hq1 := Iv.within_has hr (rngP_has q hp)
      split at hl
      · rename_i l' hx
        cases he : eqTl l' smallsT <;> simp only [he, cond_true, cond_false] at hl
        · cases hl
        cases hl
        have he := eqTl_eq he
        subst he
        obtain ⟨h1, h2⟩ := opC_ok hp hops (by simp [ho, Op.operands]) hx
        obtain ⟨i, hi'⟩ := Int.eq_ofNat_of_zero_le hq1.1
        have hlt : i < 100 := by have := hq1.2; omega
        have hd := tabIx_den (E := E) hq
        obtain ⟨s1, s2⟩ := smalls_at hlt
        obtain ⟨b, hb1, hb2⟩ := strOf_data E smallsT
        have main : ∀ (n : Nat) (v : Nat), u.den E = n → smallsT[n]? = some (.lit (v : Int)) → v ≤ 255 → (mk2 .add (mk2 (bif od then .tmod else .tdiv) q (.lit 10)) (.lit 48)).den E = v → (∀ w, (execOp ev o).run P w = .ok (.value ((L.a (.c (.int .u8 (mk2 .add (mk2 (bif od then .tmod else .tdiv) q (.lit 10)) (.lit 48))))).val E ρ)) w) := by
          intro n v hn h0 hv hres w
          have hu8 : b[n]? = some (byteOf (v : Int)) := by
            have h5 : b.data.toList[n]? = some (byteOf (v : Int)) := by rw [hb2]; simp [h0, T.den]
            rw [Array.getElem?_toList] at h5
            have hlt := (Array.getElem?_eq_some_iff.1 h5).1
            show (if h : n < b.size then some b[n] else none) = _
            exact (dif_pos (show n < b.size from hlt)).trans (congrArg some (Array.getElem?_eq_some_iff.1 h5).2)
          have hr := byteOf_val (n := (v : Int)) ⟨by omega, by omega⟩
          rw [hn] at hi
          simp [execOp, ho, h2, C.val, hb1, hi, Instr.index, asIntOf, run_underlying hu, hu8, L.val, A.val, hr, hres]
        refine ⟨?_, trivial⟩
        cases od
        · refine main (2 * i) (48 + i / 10) (by rw [hd, hi']; simp) s1 (by omega) ?_
          simp only [mk2_den, cond_false, T.den, O2.den, hi']
          show ((i : Int).tdiv ((10 : Nat) : Int)) + 48 = _
          rw [← Int.ofNat_tdiv]; omega
        · refine main (2 * i + 1) (48 + i % 10) (by rw [hd, hi']; simp) s2 (by omega) ?_
          simp only [mk2_den, cond_true, T.den, O2.den, hi']
          show ((i : Int).tmod ((10 : Nat) : Int)) + 48 = _
          rw [← Int.ofNat_tmod]; omega
      · cases hl
    · cases hl
  · cases hl
def allLit (c : Int) : Nat → List T → Bool
  | 0, _ => true
  | n + 1, l => match l with
    | .lit d :: r => bif d == c then allLit c n r else false
    | _ => false
theorem allLit_ok {c : Int} : ∀ {n : Nat} {l : List T}, allLit c n l = true → ∀ i, i < n → l[i]? = some (.lit c) := by
  intro n
  induction n with
  | zero => intro l _ i hi; omega
  | succ n ih =>
    intro l h i hi
    simp only [allLit] at h
    split at h
    · rename_i d r
      cases hd : d == c <;> simp only [hd, cond_true, cond_false] at h
      · cases h
      · rw [beq_iff_eq] at hd
        subst hd
        cases i with
        | zero => rfl
        | succ i => exact ih h i (by omega)
    · cases h
/-- Is there one number alone at all places of a range? -/
def sameIn (bs : List T) (r : Iv) : Option Int := match r.lo, r.hi with
  | some (.ofNat a), some (.ofNat b) => bif Nat.ble b 255 then (match dropF a bs with
    | .lit c :: r => bif allLit c (Nat.sub (Nat.succ b) a) (.lit c :: r) then some c else none
    | _ => none) else none
  | _, _ => none
theorem sameIn_ok {bs : List T} {r : Iv} {n c : Int} (hr : r.has n) (h : sameIn bs r = some c) : ∃ i : Nat, n = i ∧ bs[i]? = some (.lit c) := by
  unfold sameIn at h
  split at h
  · rename_i a b ha hb
    have h1 := hr.1 _ ha
    have h2 := hr.2 _ hb
    cases hc : Nat.ble b 255 <;> simp only [hc, cond_true, cond_false] at h
    · cases h
    · split at h
      · rename_i c' r' hd
        cases hl : allLit c' (Nat.sub (Nat.succ b) a) (.lit c' :: r') <;> simp only [hl, cond_true, cond_false] at h
        · cases h
        · cases h
          have h1 : (a : Int) ≤ n := h1
          have h2 : n ≤ (b : Int) := h2
          obtain ⟨i, rfl⟩ := Int.eq_ofNat_of_zero_le (a := n) (by omega)
          refine ⟨i, rfl, ?_⟩
          have hs : Nat.sub (Nat.succ b) a = b + 1 - a := rfl
          rw [hs] at hl
          have := allLit_ok hl (i - a) (by omega)
          rw [← hd, dropF_eq, List.getElem?_drop] at this
          rw [← this]; congr 1; omega
      · cases h
  · cases h
/-- A byte of a table at an index of which a range is known, where all there is one number. -/
def evIndexOne (pc : Pc) (x i : Operand) (s : Tri L) : Option L := match opC pc s i with
  | some (.int _ u) => (match opC pc s x with
    | some (.str l) => match sameIn l (rngP pc u) with
      | some c => some (.a (.c (.int .u8 (.lit c))))
      | none => none
    | _ => none)
  | _ => none
theorem evIndexOne_ok {t : TypeId} {x ix : Operand} (ho : o.op = .index t x ix) (hu : P.underlying t = some .string) : PureOk P pc o (evIndexOne pc x ix) := by
  intro s l hl E ρ D ev hp hops
  unfold evIndexOne at hl
  split at hl
  · rename_i k u hix
    have hi : ev ix = .int k (u.den E) := (opC_ok hp hops (by simp [ho, Op.operands]) hix).2
    split at hl
    · rename_i l' hx
      split at hl
      · rename_i c hc
        cases hl
        obtain ⟨h1, h2⟩ := opC_ok hp hops (by simp [ho, Op.operands]) hx
        obtain ⟨n, hn, h0⟩ := sameIn_ok (rngP_has u hp) hc
        obtain ⟨b, hb1, hb2⟩ := strOf_data E l'
        rw [hn] at hi
        have hu8 : b[n]? = some (byteOf c) := by
          have h5 : b.data.toList[n]? = some (byteOf c) := by rw [hb2]; simp [h0, T.den]
          rw [Array.getElem?_toList] at h5
          have hlt := (Array.getElem?_eq_some_iff.1 h5).1
          show (if h : n < b.size then some b[n] else none) = _
          exact (dif_pos (show n < b.size from hlt)).trans (congrArg some (Array.getElem?_eq_some_iff.1 h5).2)
        have hr := byteOf_val (n := c) (h1 (.lit c) (List.mem_of_getElem? h0))
        exact ⟨fun w => by simp [execOp, ho, h2, C.val, hb1, hi, Instr.index, asIntOf, run_underlying hu, hu8, L.val, A.val, hr, T.den], trivial⟩
      · cases hl
    · cases hl
  · cases hl
def evIndexS (pc : Pc) (x i : Operand) (s : Tri L) : Option L := match evIndexStr pc x i s with
  | some l => some l
  | none => match evIndexTab pc x i s with
    | some l => some l
    | none => evIndexOne pc x i s
theorem evIndexS_ok {t : TypeId} {x ix : Operand} (ho : o.op = .index t x ix) (hu : P.underlying t = some .string) : PureOk P pc o (evIndexS pc x ix) := by
  intro s l hl
  unfold evIndexS at hl
  split at hl
  · rename_i l' h; cases hl; exact evIndexStr_ok ho hu s _ h
  · split at hl
    · rename_i l' h; cases hl; exact evIndexTab_ok ho hu s _ h
    · exact evIndexOne_ok ho hu s _ hl

/-! aggregates made -/
def placesOf (P : Program) (t : TypeId) : Option (Nat → Option (Nat × Nat)) := match undF P t with
  | some (.array _ e) => match infoF P e with
    | some ie => some fun i => some (Nat.mul i ie.size, ie.size)
    | none => none
  | some (.struct fs) => match fs.toList.mapM (fun f => (infoF P f.type).map fun i => (f.offset, i.size)) with
    | some places => some fun i => places.toArray[i]?
    | none => none
  | _ => none
/-- Parts laid over cells: 'acc' (turned round) has 'p' of them behind it. -/
def layL (place : Nat → Option (Nat × Nat)) : List (Nat × List C) → Nat → List C → List C → Option (List C)
  | [], _, acc, xs => some (acc.reverse ++ xs)
  | (i, ys) :: rest, p, acc, xs => match place i with
    | none => none
    | some (off, size) => bif Nat.ble p off && Nat.beq ys.length size && Nat.ble (Nat.add (Nat.sub off p) size) xs.length then
        layL place rest (Nat.add off size) (ys.reverse ++ ((takeF (Nat.sub off p) xs).reverse ++ acc)) (dropF (Nat.add (Nat.sub off p) size) xs) else none
theorem fill_splice (off : Nat) (l : List Value) : ∀ (k : Nat) (cs : Array Value), off + k + l.length ≤ cs.size → ((l.zipIdx k).foldl (fun cs (c, j) => cs.setIfInBounds (off + j) c) cs).toList = cs.toList.take (off + k) ++ l ++ cs.toList.drop (off + k + l.length) := by
  induction l with
  | nil => intro k cs _; simp
  | cons a l ih =>
    intro k cs hle
    simp only [List.length_cons] at hle
    simp only [List.zipIdx_cons, List.foldl_cons]
    rw [ih (k + 1) _ (by simp; omega)]
    have hlt : off + k < cs.toList.length := by simp; omega
    have e1 : (cs.setIfInBounds (off + k) a).toList.take (off + (k + 1)) = cs.toList.take (off + k) ++ [a] := by
      rw [Array.toList_setIfInBounds, show off + (k + 1) = (off + k) + 1 by omega, List.take_add_one]
      congr 1
      · rw [List.take_set_of_le (Nat.le_refl _)]
      · rw [List.getElem?_set_self hlt]; rfl
    have e2 : (cs.setIfInBounds (off + k) a).toList.drop (off + (k + 1) + l.length) = cs.toList.drop (off + k + (a :: l).length) := by
      rw [Array.toList_setIfInBounds, List.drop_set_of_lt (by omega), List.length_cons]
      congr 1; omega
    rw [e1, e2]; simp
theorem layL_ok {E : Env} {ρ : Pt → Rb} {D : Pt → Prop} {place : Nat → Option (Nat × Nat)} : ∀ {ps : List (Nat × List C)} {qs : List (Nat × Value)} {p : Nat} {acc xs zs : List C} {cs : Array Value}, layL place ps p acc xs = some zs → partsR E ρ D ps qs → acc.length = p →
    cs.toList = (acc.reverse ++ xs).map (C.val E ρ) → (∀ x ∈ acc, x.ok E ρ D) → (∀ x ∈ xs, x.ok E ρ D) → ∃ ds, Instr.fill place cs qs = some ds ∧ ds.toList = zs.map (C.val E ρ) ∧ ∀ x ∈ zs, x.ok E ρ D := by
  intro ps
  induction ps with
  | nil => intro qs p acc xs zs cs h hp _ hcs ha hx; cases qs with
    | nil =>
      cases h
      exact ⟨cs, rfl, hcs, fun x h' => by rcases List.mem_append.1 h' with h' | h'; exact ha x (List.mem_reverse.1 h'); exact hx x h'⟩
    | cons q qs => exact hp.elim
  | cons q0 ps ih =>
    intro qs p acc xs zs cs h hp hap hcs ha hx
    cases qs with
    | nil => exact hp.elim
    | cons q qs =>
      obtain ⟨i, ys⟩ := q0
      obtain ⟨j, v⟩ := q
      obtain ⟨rfl, ⟨hy, hyo⟩, hp'⟩ := hp
      simp only [layL] at h
      simp only [Instr.fill]
      split at h
      · cases h
      · rename_i off size hpl
        rw [hpl]
        cases hc : Nat.ble p off && Nat.beq ys.length size && Nat.ble (Nat.add (Nat.sub off p) size) xs.length <;> simp only [hc, cond_true, cond_false] at h
        · cases h
        · rw [Bool.and_eq_true, Bool.and_eq_true, Nat.ble_eq, Nat.ble_eq] at hc
          obtain ⟨⟨hc0, hc1⟩, hc2⟩ := hc
          have hc1 := Nat.eq_of_beq_eq_true hc1
          change off - p + size ≤ xs.length at hc2
          rw [takeF_eq, dropF_eq] at h
          change layL place ps (off + size) (ys.reverse ++ ((xs.take (off - p)).reverse ++ acc)) (xs.drop (off - p + size)) = some zs at h
          have hs : v.cells.size = size := by rw [hy]; simpa using hc1
          have hcl : cs.size = p + xs.length := by
            have : cs.toList.length = _ := congrArg List.length hcs
            simpa [hap] using this
          have hb : (v.cells.size ≠ size || off + v.cells.size > cs.size) = false := by
            simp [hs, hcl]; omega
          simp only [hb, Bool.false_eq_true, if_false]
          have hfold := fill_splice off v.cells.toList 0 cs (by simp [hs, hcl]; omega)
          refine ih h hp' (cs := v.cells.zipIdx.foldl (fun cs (c, j) => cs.setIfInBounds (off + j) c) cs) ?_ ?_ ?_ fun x h' => hx x (List.mem_of_mem_drop h')
          · simp [hap, hc1]; omega
          · rw [← Array.foldl_toList, Array.toList_zipIdx, hfold, Nat.add_zero, hcs, hy]
            have e1 : ((acc.reverse ++ xs).map (C.val E ρ)).take off = (acc.reverse ++ xs.take (off - p)).map (C.val E ρ) := by
              rw [← List.map_take, List.take_append, List.length_reverse, hap, List.take_of_length_le (by simp [hap]; omega)]
            have e2 : ((acc.reverse ++ xs).map (C.val E ρ)).drop (off + (ys.map (C.val E ρ)).length) = (xs.drop (off - p + size)).map (C.val E ρ) := by
              rw [← List.map_drop, List.drop_append, List.length_reverse, hap, List.drop_eq_nil_of_le (by simp [hap]; omega), List.nil_append, List.length_map, hc1]
              congr 2; omega
            rw [e1]
            simp only []
            rw [e2]
            simp
          · intro x h'
            rcases List.mem_append.1 h' with h' | h'
            · exact hyo x (List.mem_reverse.1 h')
            · rcases List.mem_append.1 h' with h' | h'
              · exact hx x (List.mem_of_mem_take (List.mem_reverse.1 h'))
              · exact ha x h'
def evBuild (pc : Pc) (pl : Nat → Option (Nat × Nat)) (z : List C) (ps : List (Nat × Operand)) (s : Tri L) : Option L := match cellsAll pc s ps with
  | some qs => match layL pl qs 0 [] z with
    | some xs => some (.a (.agg xs))
    | none => none
  | none => none
theorem evBuild_ok {t : TypeId} {ps : Array (Nat × Operand)} (ho : o.op = .build t ps) {pl : Nat → Option (Nat × Nat)} (hpl : placesOf P t = some pl) {z : List C} (hz : zeroOf P t = some z) : PureOk P pc o (evBuild pc pl z ps.toList) := by
  intro s l hl E ρ D ev hp hops
  unfold evBuild at hl
  split at hl
  · rename_i qs hqs
    split at hl
    · rename_i xs hxs
      cases hl
      have hpr := cellsAll_ok hp hops (by intro p hp'; simp only [ho, Op.operands]; simp; exact ⟨p.1, by simpa using hp'⟩) hqs
      obtain ⟨i, zv, hi, hzv, hzz⟩ := zeroOf_info hz
      obtain ⟨z1, z2⟩ := hzz E ρ D
      obtain ⟨ds, h1, h2, h3⟩ := layL_ok (cs := zv.cells) hxs hpr rfl (by rw [z2]; simp) (fun _ h => nomatch h) z1
      have hds : ds = (xs.map (C.val E ρ)).toArray := by apply Array.ext'; rw [h2]
      have hb : P.built t (ps.map fun (i, x) => (i, ev x)).toList = some ds := by
        rw [Array.toList_map]
        unfold placesOf at hpl
        simp only [undF_eq, infoF_eq] at hpl
        unfold Program.built
        rw [hi]
        split at hpl
        · rename_i n e hu
          split at hpl
          · rename_i ie hie
            cases hpl
            simp only [hu, hzv, hie]; exact h1
          · cases hpl
        · rename_i fs hu
          split at hpl
          · rename_i places hpm
            cases hpl
            simp only [hu, hzv, hpm]; exact h1
          · cases hpl
        · cases hpl
      have hrun := fun w => run_build (P := P) w t (ps.map fun (i, x) => (i, ev x)) ds hb
      exact ⟨fun w => by simp only [execOp, ho, Sem.run_bind, hrun, L.val, A.val, hds]; rfl, h3⟩
    · cases hl
  · cases hl
/-- .. parts in whatever order. -/
def evBuildT (pc : Pc) (pl : Nat → Option (Nat × Nat)) (z : List C) (ps : List (Nat × Operand)) (s : Tri L) : Option L := match cellsAll pc s ps with
  | some qs => match layT pl z.length qs .e with
    | some t => match rdCells z.length z t z.length 0 with
      | some xs => some (.a (.agg xs))
      | none => none
    | none => none
  | none => none
theorem evBuildT_ok {t : TypeId} {ps : Array (Nat × Operand)} (ho : o.op = .build t ps) {pl : Nat → Option (Nat × Nat)} (hpl : placesOf P t = some pl) {z : List C} (hz : zeroOf P t = some z) (hpos : 0 < z.length) : PureOk P pc o (evBuildT pc pl z ps.toList) := by
  intro s l hl E ρ D ev hp hops
  unfold evBuildT at hl
  split at hl
  · rename_i qs hqs
    split at hl
    · rename_i tr htr
      split at hl
      · rename_i xs hxs
        cases hl
        have hpr := cellsAll_ok hp hops (by intro p hp'; simp only [ho, Op.operands]; simp; exact ⟨p.1, by simpa using hp'⟩) hqs
        obtain ⟨i, zv, hi, hzv, hzz⟩ := zeroOf_info hz
        obtain ⟨z1, z2⟩ := hzz E ρ D
        have hzs : zv.cells.size = z.length := by rw [z2]; simp
        obtain ⟨ds, h1, h2, h3⟩ := layT_ok (cs := zv.cells) htr hpr hzs fun i x hx => by
          obtain ⟨q1, q2, q3, q4⟩ := cells_zero z1 hx
          rw [Nat.mod_eq_of_lt q1, ← z2] at q4
          exact ⟨q3, q4⟩
        obtain ⟨r1, r2, r3⟩ := rdCells_val h3 hpos hxs
        have hds : ds = (xs.map (C.val E ρ)).toArray := by
          rw [← r3, Nat.zero_add, ← h2]; simp
        have hb : P.built t (ps.map fun (i, x) => (i, ev x)).toList = some ds := by
          rw [Array.toList_map]
          unfold placesOf at hpl
          simp only [undF_eq, infoF_eq] at hpl
          unfold Program.built
          rw [hi]
          split at hpl
          · rename_i n e hu
            split at hpl
            · rename_i ie hie
              cases hpl
              simp only [hu, hzv, hie]; exact h1
            · cases hpl
          · rename_i fs hu
            split at hpl
            · rename_i places hpm
              cases hpl
              simp only [hu, hzv, hpm]; exact h1
            · cases hpl
          · cases hpl
        have hrun := fun w => run_build (P := P) w t (ps.map fun (i, x) => (i, ev x)) ds hb
        exact ⟨fun w => by simp only [execOp, ho, Sem.run_bind, hrun, L.val, A.val, hds]; rfl, r2⟩
      · cases hl
    · cases hl
  · cases hl
end
end Go.E3
namespace Go.E3
open Go.Sy
noncomputable section
variable {P : Program} {pc : Pc} {o : Oper}

/-! slices -/
def lenF {α : Type} (xs : List α) : Nat := List.rec (motive := fun _ => Nat → Nat) (fun n => n) (fun _ _ ih n => ih (Nat.succ n)) xs 0
theorem lenF_eq {α : Type} (xs : List α) : lenF xs = xs.length := by
  have : ∀ (xs : List α) (n : Nat), List.rec (motive := fun _ => Nat → Nat) (fun n => n) (fun _ _ ih n => ih (Nat.succ n)) xs n = n + xs.length := by
    intro xs
    induction xs with
    | nil => intro n; rfl
    | cons x xs ih => intro n; exact (ih (Nat.succ n)).trans (by simp; omega)
  exact (this xs 0).trans (by omega)
/-- A bound: a literal number, or what is meant where none is told. -/
def bndN (pc : Pc) (s : Tri L) (dflt : Nat) : Option Operand → Option Nat
  | none => some dflt
  | some x => litN pc s x
theorem bounds_run {E : Env} {ρ : Pt → Rb} {D : Pt → Prop} {s : Tri L} {ev : Operand → Value} {xs : List Operand} (hp : pcOk E pc) (h : OpsR E ρ D s ev xs) {lo hi mx : Option Operand} (hlo : ∀ x, lo = some x → x ∈ xs) (hhi : ∀ x, hi = some x → x ∈ xs) (hmx : ∀ x, mx = some x → x ∈ xs)
    {l hh m n cap : Nat} {isS : Bool} (hl : bndN pc s 0 lo = some l) (hh' : bndN pc s n hi = some hh) (hm : bndN pc s cap mx = some m) (hx : mx.isSome = true → hi.isSome = true) (h1 : l ≤ hh) (h2 : hh ≤ m) (h3 : m ≤ cap) (w : World) :
    (Instr.sliceBounds isS n cap (lo.map ev) (hi.map ev) (mx.map ev)).run P w = .ok (l, hh, m) w := by
  have e : ∀ (x : Operand) (k y : Nat) (code : BoundsCode), x ∈ xs → litN pc s x = some k → k ≤ y → (Instr.sliceBound (ev x) y code).run P w = .ok k w := by
    intro x k y code hx hk hy
    obtain ⟨kk, hv⟩ := litN_ok hp h hx hk
    have : (k : Int) ≤ (y : Int) := by omega
    simp [Instr.sliceBound, asIntOf, hv, this]
  cases mx with
  | none =>
    have hm : cap = m := Option.some.inj hm
    subst hm
    cases hi with
    | none =>
      cases hh'
      cases lo with
      | none => cases hl; simp [Instr.sliceBounds]
      | some x => have := fun c => e x l hh c (hlo _ rfl) hl h1; simp [Instr.sliceBounds, this]
    | some y =>
      have f := fun c => e y hh cap c (hhi _ rfl) hh' h2
      cases lo with
      | none => cases hl; simp [Instr.sliceBounds, f]
      | some x => have := fun c => e x l hh c (hlo _ rfl) hl h1; simp [Instr.sliceBounds, this, f]
  | some z =>
    have g := fun c => e z m cap c (hmx _ rfl) hm h3
    cases hi with
    | none => exact absurd (hx rfl) (by simp)
    | some y =>
      have f := fun c => e y hh m c (hhi _ rfl) hh' h2
      cases lo with
      | none => cases hl; simp [Instr.sliceBounds, f, g]
      | some x => have := fun c => e x l hh c (hlo _ rfl) hl h1; simp [Instr.sliceBounds, this, f, g]
def evSliceS (pc : Pc) (sz : Nat) (x : Operand) (lo hi mx : Option Operand) (s : Tri L) : Option L := match opC pc s x with
  | some (.slc b o n (.k cap)) => match bndN pc s 0 lo, bndN pc s n hi, bndN pc s cap mx with
    | some l, some h, some m => bif Nat.ble l h && Nat.ble h m && Nat.ble m cap && (!mx.isSome || hi.isSome) then
        some (.a (.c (.slc b (bif Nat.beq m l then o else Nat.add o (Nat.mul l sz)) (Nat.sub h l) (.k (Nat.sub m l))))) else none
    | _, _, _ => none
  | some (.slc b o n (.r z d)) => match bndN pc s 0 lo, bndN pc s n hi, mx with
    | some l, some h, none => bif Nat.ble l h && Nat.ble h n && (Nat.beq l 0 || Nat.ble (Nat.succ l) n) then
        some (.a (.c (.slc b (Nat.add o (Nat.mul l sz)) (Nat.sub h l) (.r z (Nat.add d l))))) else none
    | some l, some h, some y => match litN pc s y with
      | some m => bif Nat.ble l h && Nat.ble h m && Nat.ble m n && hi.isSome then
          some (.a (.c (.slc b (bif Nat.beq m l then o else Nat.add o (Nat.mul l sz)) (Nat.sub h l) (.k (Nat.sub m l))))) else none
      | none => none
    | _, _, _ => none
  | some .nils => match bndN pc s 0 lo, bndN pc s 0 hi, bndN pc s 0 mx with
    | some 0, some 0, some 0 => bif !mx.isSome || hi.isSome then some (.a (.c .nils)) else none
    | _, _, _ => none
  | _ => none
theorem mem_slice {x : Operand} {lo hi mx : Option Operand} {t : TypeId} (ho : o.op = .slice t x lo hi mx) : x ∈ o.op.operands.toList ∧ (∀ y, lo = some y → y ∈ o.op.operands.toList) ∧ (∀ y, hi = some y → y ∈ o.op.operands.toList) ∧ (∀ y, mx = some y → y ∈ o.op.operands.toList) := by
  refine ⟨by simp [ho, Op.operands], ?_, ?_, ?_⟩ <;> (intro y hy; subst hy; simp [ho, Op.operands])
theorem evSliceS_ok {t e : TypeId} {x : Operand} {lo hi mx : Option Operand} (ho : o.op = .slice t x lo hi mx) (hu : P.underlying t = some (.slice e)) {sz : Nat} (hs : sizeT P e = some sz) : PureOk P pc o (evSliceS pc sz x lo hi mx) := by
  intro s l hl E ρ D ev hp hops
  obtain ⟨mx0, ml, mh, mm⟩ := mem_slice ho
  unfold evSliceS at hl
  split at hl
  · rename_i b o' n cap hx
    obtain ⟨h1, h2⟩ := opC_ok hp hops mx0 hx
    split at hl
    · rename_i l' h' m' e1 e2 e3
      cases hc : Nat.ble l' h' && Nat.ble h' m' && Nat.ble m' cap && (!mx.isSome || hi.isSome) <;> simp only [hc, cond_true, cond_false] at hl
      · cases hl
      · cases hl
        simp only [Bool.and_eq_true, Nat.ble_eq, Bool.or_eq_true, Bool.not_eq_true'] at hc
        obtain ⟨⟨⟨c1, c2⟩, c3⟩, c4⟩ := hc
        have hb := fun w => bounds_run (P := P) (isS := true) hp hops ml mh mm e1 e2 e3 (fun h => c4.resolve_left (by simp [h])) c1 c2 c3 w
        refine ⟨fun w => ?_, ⟨h1.1, by simp only [Cp.val]; show h' - l' ≤ m' - l'; omega, trivial⟩⟩
        have hb' := hb w
        cases hml : Nat.beq m' l'
        · have : m' ≠ l' := Nat.ne_of_beq_eq_false hml
          simp [execOp, ho, h2, C.val, Instr.sliceAt, Instr.slice, run_underlying hu, Cp.val, hb', run_sizeT hs, this, L.val, A.val, addr_add]
        · have := Nat.eq_of_beq_eq_true hml
          simp [execOp, ho, h2, C.val, Instr.sliceAt, Instr.slice, run_underlying hu, Cp.val, hb', run_sizeT hs, this, L.val, A.val]
    · cases hl
  · rename_i b o' n z d hx
    obtain ⟨h1, h2⟩ := opC_ok hp hops mx0 hx
    split at hl
    · rename_i l' h' e1 e2
      cases hc : Nat.ble l' h' && Nat.ble h' n && (Nat.beq l' 0 || Nat.ble (Nat.succ l') n) <;> simp only [hc, cond_true, cond_false] at hl
      · cases hl
      · cases hl
        simp only [Bool.and_eq_true, Nat.ble_eq, Bool.or_eq_true, Nat.beq_eq] at hc
        obtain ⟨⟨c1, c2⟩, c3⟩ := hc
        have hle := h1.2.1
        simp only [Cp.val] at hle
        have hb := fun w => bounds_run (P := P) (isS := true) (mx := none) hp hops ml mh (fun _ h => nomatch h) e1 e2 (cap := (ρ b).z / z - d) rfl (fun h => by simp at h) c1 (Nat.le_trans c2 hle) (Nat.le_refl _) w
        refine ⟨fun w => ?_, ⟨h1.1, by simp only [Cp.val]; show h' - l' ≤ (ρ b).z / z - (d + l'); omega, h1.2.2⟩⟩
        have hb' := hb w
        simp only [Option.map_none] at hb'
        have hsub : (ρ b).z / z - d - l' = (ρ b).z / z - (d + l') := by omega
        by_cases hml : (ρ b).z / z - d = l'
        · have : l' = 0 := by rcases c3 with c3 | c3 <;> omega
          subst this
          simp [execOp, ho, h2, C.val, Instr.sliceAt, Instr.slice, run_underlying hu, Cp.val, hb', run_sizeT hs, L.val, A.val, addr_add]
        · simp [execOp, ho, h2, C.val, Instr.sliceAt, Instr.slice, run_underlying hu, Cp.val, hb', run_sizeT hs, hml, L.val, A.val, addr_add, hsub]
    · rename_i l' h' y e1 e2
      split at hl
      · rename_i m' e3
        cases hc : Nat.ble l' h' && Nat.ble h' m' && Nat.ble m' n && hi.isSome <;> simp only [hc, cond_true, cond_false] at hl
        · cases hl
        · cases hl
          simp only [Bool.and_eq_true, Nat.ble_eq] at hc
          obtain ⟨⟨⟨c1, c2⟩, c3⟩, c4⟩ := hc
          have hle := h1.2.1
          simp only [Cp.val] at hle
          have hb := fun w => bounds_run (P := P) (isS := true) (mx := some y) hp hops ml mh mm e1 e2 (cap := (ρ b).z / z - d) e3 (fun _ => c4) c1 c2 (Nat.le_trans c3 hle) w
          refine ⟨fun w => ?_, ⟨h1.1, by simp only [Cp.val]; show h' - l' ≤ m' - l'; omega, trivial⟩⟩
          have hb' := hb w
          simp only [Option.map_some] at hb'
          cases hml : Nat.beq m' l'
          · have : m' ≠ l' := Nat.ne_of_beq_eq_false hml
            simp [execOp, ho, h2, C.val, Instr.sliceAt, Instr.slice, run_underlying hu, Cp.val, hb', run_sizeT hs, this, L.val, A.val, addr_add]
          · have := Nat.eq_of_beq_eq_true hml
            simp [execOp, ho, h2, C.val, Instr.sliceAt, Instr.slice, run_underlying hu, Cp.val, hb', run_sizeT hs, this, L.val, A.val]
      · cases hl
    · cases hl
  · rename_i hx
    obtain ⟨h1, h2⟩ := opC_ok hp hops mx0 hx
    split at hl
    · rename_i e1 e2 e3
      cases hc : (!mx.isSome || hi.isSome) <;> simp only [hc, cond_true, cond_false] at hl
      · cases hl
      · cases hl
        simp only [Bool.or_eq_true, Bool.not_eq_true'] at hc
        have hb := fun w => bounds_run (P := P) (isS := true) (n := 0) (cap := 0) hp hops ml mh mm e1 e2 e3 (fun h => hc.resolve_left (by simp [h])) (Nat.le_refl _) (Nat.le_refl _) (Nat.le_refl _) w
        refine ⟨fun w => ?_, trivial⟩
        simp [execOp, ho, h2, C.val, Instr.sliceAt, Instr.slice, run_underlying hu, hb w, run_sizeT hs, L.val, A.val]
    · cases hl
  · cases hl
/-- A slice of an array. -/
def evSliceA (pc : Pc) (n sz : Nat) (x : Operand) (lo hi mx : Option Operand) (s : Tri L) : Option L := match opC pc s x with
  | some (.ptr b o) => match bndN pc s 0 lo, bndN pc s n hi, bndN pc s n mx with
    | some l, some h, some m => bif Nat.ble l h && Nat.ble h m && Nat.ble m n && (!mx.isSome || hi.isSome) then
        some (.a (.c (.slc b (bif Nat.beq m l then o else Nat.add o (Nat.mul l sz)) (Nat.sub h l) (.k (Nat.sub m l))))) else none
    | _, _, _ => none
  | _ => none
theorem evSliceA_ok {t e : TypeId} {x : Operand} {lo hi mx : Option Operand} (ho : o.op = .slice t x lo hi mx) {n : Nat} (hu : P.underlying t = some (.array n e)) {sz : Nat} (hs : sizeT P e = some sz) : PureOk P pc o (evSliceA pc n sz x lo hi mx) := by
  intro s l hl E ρ D ev hp hops
  obtain ⟨mx0, ml, mh, mm⟩ := mem_slice ho
  unfold evSliceA at hl
  split at hl
  · rename_i b o' hx
    obtain ⟨h1, h2⟩ := opC_ok hp hops mx0 hx
    split at hl
    · rename_i l' h' m' e1 e2 e3
      cases hc : Nat.ble l' h' && Nat.ble h' m' && Nat.ble m' n && (!mx.isSome || hi.isSome) <;> simp only [hc, cond_true, cond_false] at hl
      · cases hl
      · cases hl
        simp only [Bool.and_eq_true, Nat.ble_eq, Bool.or_eq_true, Bool.not_eq_true'] at hc
        obtain ⟨⟨⟨c1, c2⟩, c3⟩, c4⟩ := hc
        have hb := fun w => bounds_run (P := P) (isS := false) hp hops ml mh mm e1 e2 e3 (fun h => c4.resolve_left (by simp [h])) c1 c2 c3 w
        refine ⟨fun w => ?_, ⟨h1, by simp only [Cp.val]; show h' - l' ≤ m' - l'; omega, trivial⟩⟩
        have hb' := hb w
        cases hml : Nat.beq m' l'
        · have : m' ≠ l' := Nat.ne_of_beq_eq_false hml
          simp [execOp, ho, h2, C.val, Instr.sliceAt, Instr.slice, run_underlying hu, Instr.sureAddr, Cp.val, hb', run_sizeT hs, this, L.val, A.val, addr_add]
        · have := Nat.eq_of_beq_eq_true hml
          simp [execOp, ho, h2, C.val, Instr.sliceAt, Instr.slice, run_underlying hu, Instr.sureAddr, Cp.val, hb', run_sizeT hs, this, L.val, A.val]
    · cases hl
  · cases hl
/-- A part of a string. -/
def evSliceStr (pc : Pc) (x : Operand) (lo hi : Option Operand) (s : Tri L) : Option L := match opC pc s x with
  | some (.str bs) => match bndN pc s 0 lo, bndN pc s (lenF bs) hi with
    | some l, some h => bif Nat.ble l h && Nat.ble h (lenF bs) then some (.a (.c (.str (takeF (Nat.sub h l) (dropF l bs))))) else none
    | _, _ => none
  | _ => none
theorem evSliceStr_ok {t : TypeId} {x : Operand} {lo hi : Option Operand} (ho : o.op = .slice t x lo hi none) (hu : P.underlying t = some .string) : PureOk P pc o (evSliceStr pc x lo hi) := by
  intro s l hl E ρ D ev hp hops
  obtain ⟨mx0, ml, mh, mm⟩ := mem_slice ho
  unfold evSliceStr at hl
  split at hl
  · rename_i bs hx
    obtain ⟨h1, h2⟩ := opC_ok hp hops mx0 hx
    rw [lenF_eq] at hl
    split at hl
    · rename_i l' h' e1 e2
      cases hc : Nat.ble l' h' && Nat.ble h' bs.length <;> simp only [hc, cond_true, cond_false] at hl
      · cases hl
      · cases hl
        simp only [Bool.and_eq_true, Nat.ble_eq] at hc
        obtain ⟨c1, c2⟩ := hc
        rw [takeF_eq, dropF_eq]
        obtain ⟨b, hb1, hb2⟩ := strOf_data E bs
        have hsz : b.size = bs.length := by
          have := congrArg List.length hb2
          rw [List.length_map, Array.length_toList] at this; exact this
        have hb := fun w => bounds_run (P := P) (isS := false) (mx := none) (n := bs.length) (cap := bs.length) hp hops ml mh (fun _ h => nomatch h) e1 e2 rfl (fun h => by simp at h) c1 c2 (Nat.le_refl _) w
        refine ⟨fun w => ?_, fun t ht => h1 t (List.mem_of_mem_drop (List.mem_of_mem_take ht))⟩
        have hb' := hb w
        simp only [Option.map_none] at hb'
        have hext : Value.string (b.extract l' h') = strOf E ((bs.drop l').take (h' - l')) := by
          unfold strOf
          congr 1
          have : (b.extract l' h').data = (((bs.drop l').take (h' - l')).map (fun t : T => byteOf (t.den E))).toArray := by
            rw [ByteArray.data_extract]
            apply Array.ext'
            rw [Array.toList_extract, List.extract_eq_take_drop, hb2]
            simp [List.map_take, List.map_drop]
          exact congrArg ByteArray.mk this
        simp [execOp, ho, h2, C.val, hb1, Instr.sliceAt, Instr.slice, run_underlying hu, hsz, hb', L.val, A.val, hext]
    · cases hl
  · cases hl

theorem slice_bound {v : Value} {k : IntKind} {m y : Nat} (hv : v = .int k (m : Nat)) (hle : m ≤ y) (c : BoundsCode) (w : World) : (Instr.sliceBound v y c).run P w = .ok m w := by
  have : (m : Int) ≤ (y : Int) := by omega
  simp [Instr.sliceBound, asIntOf, hv, this]
/-- The digits, one behind the other. -/
def digitsT : List T := (List.range 10).map fun i => .lit ((48 + i : Nat) : Int)
theorem digits_at {i : Nat} (hi : i < 10) : digitsT[i]? = some (.lit ((48 + i : Nat) : Int)) := by
  simp [digitsT, hi]
/-- A part of a table of digits that begins at a place that is a term. -/
def sliceTab (pc : Pc) (bs : List T) (u h : T) : Option (List T) :=
  bif (rngP pc u).within 0 9 && h.beq (mk2 .add u (.lit 1)) && eqTl (takeF 10 bs) digitsT then some [mk2 .add u (.lit 48)] else match tabIx u with
  | some (q, o) => bif !o && (rngP pc q).within 0 99 && h.beq (mk2 .add u (.lit 2)) && eqTl bs smallsT then some [mk2 .add (mk2 .tdiv q (.lit 10)) (.lit 48), mk2 .add (mk2 .tmod q (.lit 10)) (.lit 48)] else none
  | none => none
theorem sliceTab_ok {E : Env} (hp : pcOk E pc) {bs ts : List T} {u h : T} (hh : sliceTab pc bs u h = some ts) : ∃ l n : Nat, u.den E = l ∧ h.den E = (l + n : Nat) ∧ l + n ≤ bs.length ∧ ts.map (T.den E) = ((bs.drop l).take n).map (T.den E) ∧ ∀ t ∈ ts, 0 ≤ t.den E ∧ t.den E ≤ 255 := by
  unfold sliceTab at hh
  cases h1 : (rngP pc u).within 0 9 && h.beq (mk2 .add u (.lit 1)) && eqTl (takeF 10 bs) digitsT <;> simp only [h1, cond_true, cond_false] at hh
  · split at hh
    · rename_i q o hq
      cases h2 : !o && (rngP pc q).within 0 99 && h.beq (mk2 .add u (.lit 2)) && eqTl bs smallsT <;> simp only [h2, cond_true, cond_false] at hh
      · cases hh
      · cases hh
        simp only [Bool.and_eq_true, Bool.not_eq_true'] at h2
        obtain ⟨⟨⟨rfl, h3⟩, h4⟩, h5⟩ := h2
        have hr := Iv.within_has h3 (rngP_has q hp)
        have he := eqTl_eq h5
        subst he
        have h4 := T.beq_eq h4
        subst h4
        obtain ⟨i, hi⟩ := Int.eq_ofNat_of_zero_le hr.1
        have hlt : i < 100 := by have := hr.2; omega
        have hd := tabIx_den (E := E) hq
        obtain ⟨s1, s2⟩ := smalls_at hlt
        have hl : smallsT.length = 200 := by decide +kernel
        refine ⟨2 * i, 2, by rw [hd, hi]; simp, by rw [mk2_den, hd, hi]; simp [O2.den, T.den], by omega, ?_, ?_⟩
        · have e1 : (smallsT.drop (2 * i)).take 2 = [.lit ((48 + i / 10 : Nat) : Int), .lit ((48 + i % 10 : Nat) : Int)] := by
            have g1 : (smallsT.drop (2 * i))[0]? = some (.lit ((48 + i / 10 : Nat) : Int)) := by rw [List.getElem?_drop]; exact s1
            have g2 : (smallsT.drop (2 * i))[1]? = some (.lit ((48 + i % 10 : Nat) : Int)) := by rw [List.getElem?_drop]; exact s2
            cases hc : smallsT.drop (2 * i) with
            | nil => rw [hc] at g1; cases g1
            | cons a r => cases r with
              | nil => rw [hc] at g2; cases g2
              | cons b r =>
                rw [hc] at g1 g2
                simp only [List.getElem?_cons_zero, List.getElem?_cons_succ, Option.some.injEq] at g1 g2
                simp [g1, g2]
          rw [e1]
          simp only [List.map_cons, List.map_nil, mk2_den, O2.den, T.den, hi]
          have e2 : ((i : Int).tdiv 10) = ((i / 10 : Nat) : Int) := (Int.ofNat_tdiv i 10).symm
          have e3 : ((i : Int).tmod 10) = ((i % 10 : Nat) : Int) := (Int.ofNat_tmod i 10).symm
          have f1 : ((i / 10 : Nat) : Int) + 48 = ((48 + i / 10 : Nat) : Int) := by omega
          have f2 : ((i % 10 : Nat) : Int) + 48 = ((48 + i % 10 : Nat) : Int) := by omega
          rw [e2, e3, f1, f2]
        · intro t ht
          simp only [List.mem_cons, List.not_mem_nil, or_false] at ht
          have e2 : ((i : Int).tdiv 10) = ((i / 10 : Nat) : Int) := (Int.ofNat_tdiv i 10).symm
          have e3 : ((i : Int).tmod 10) = ((i % 10 : Nat) : Int) := (Int.ofNat_tmod i 10).symm
          rcases ht with rfl | rfl <;> simp only [mk2_den, O2.den, T.den, hi, e2, e3] <;> omega
    · cases hh
  · cases hh
    simp only [Bool.and_eq_true] at h1
    obtain ⟨⟨h3, h4⟩, h5⟩ := h1
    have hr := Iv.within_has h3 (rngP_has u hp)
    have he := eqTl_eq h5
    rw [takeF_eq] at he
    have h4 := T.beq_eq h4
    subst h4
    obtain ⟨i, hi⟩ := Int.eq_ofNat_of_zero_le hr.1
    have hlt : i < 10 := by have := hr.2; omega
    have hl : 10 ≤ bs.length := by
      have := congrArg List.length he
      simp [digitsT] at this; omega
    refine ⟨i, 1, hi, by rw [mk2_den, hi]; simp [O2.den, T.den], by omega, ?_, ?_⟩
    · have g1 : bs[i]? = some (.lit ((48 + i : Nat) : Int)) := by
        have := digits_at hlt
        rw [← he, List.getElem?_take, if_pos hlt] at this; exact this
      have g2 : (bs.drop i)[0]? = some (.lit ((48 + i : Nat) : Int)) := by rw [List.getElem?_drop]; exact g1
      cases hc : bs.drop i with
      | nil => rw [hc] at g2; cases g2
      | cons a r =>
        rw [hc] at g2
        simp only [List.getElem?_cons_zero, Option.some.injEq] at g2
        subst g2
        simp only [List.take_succ_cons, List.take_zero, List.map_cons, List.map_nil, mk2_den, O2.den, T.den, hi]
        congr 1; omega
    · intro t ht
      simp only [List.mem_cons, List.not_mem_nil, or_false] at ht
      subst ht
      simp only [mk2_den, O2.den, T.den, hi]; omega
def evSliceTab (pc : Pc) (x : Operand) (lo hi : Option Operand) (s : Tri L) : Option L := match lo, hi with
  | some y, some z => match opC pc s x, opC pc s y, opC pc s z with
    | some (.str bs), some (.int _ u), some (.int _ h) => match sliceTab pc bs u h with
      | some ts => some (.a (.c (.str ts)))
      | none => none
    | _, _, _ => none
  | _, _ => none
theorem evSliceTab_ok {t : TypeId} {x : Operand} {lo hi : Option Operand} (ho : o.op = .slice t x lo hi none) (hu : P.underlying t = some .string) : PureOk P pc o (evSliceTab pc x lo hi) := by
  intro s l hl E ρ D ev hp hops
  obtain ⟨mx0, ml, mh, mm⟩ := mem_slice ho
  unfold evSliceTab at hl
  split at hl
  · rename_i y z
    split at hl
    · rename_i bs k u k' h hx hy hz
      split at hl
      · rename_i ts hts
        cases hl
        obtain ⟨h1, h2⟩ := opC_ok hp hops mx0 hx
        obtain ⟨_, hyv⟩ := opC_ok hp hops (ml _ rfl) hy
        obtain ⟨_, hzv⟩ := opC_ok hp hops (mh _ rfl) hz
        obtain ⟨i, n, hi1, hi2, hle, hmap, hby⟩ := sliceTab_ok hp hts
        obtain ⟨b, hb1, hb2⟩ := strOf_data E bs
        have hsz : b.size = bs.length := by
          have := congrArg List.length hb2
          rw [List.length_map, Array.length_toList] at this; exact this
        refine ⟨fun w => ?_, hby⟩
        have hext : Value.string (b.extract i (i + n)) = strOf E ts := by
          unfold strOf
          congr 1
          have : (b.extract i (i + n)).data = (ts.map (fun t : T => byteOf (t.den E))).toArray := by
            rw [ByteArray.data_extract]
            apply Array.ext'
            rw [Array.toList_extract, List.extract_eq_take_drop, hb2]
            have e1 : ts.map (fun t : T => byteOf (t.den E)) = (ts.map (T.den E)).map byteOf := by rw [List.map_map]; rfl
            have e2 : bs.map (fun t : T => byteOf (t.den E)) = (bs.map (T.den E)).map byteOf := by rw [List.map_map]; rfl
            show List.take (i + n - i) (List.drop i _) = ts.map _
            rw [e1, hmap, e2]
            simp [List.map_take, List.map_drop]
          exact congrArg ByteArray.mk this
        have hyv' : ev y = .int k i := by rw [hyv]; simp [C.val, hi1]
        have hzv' : ev z = .int k' ((i + n : Nat) : Int) := by rw [hzv]; simp [C.val, hi2]
        have g1 : ∀ c, (Instr.sliceBound (ev z) bs.length c).run P w = .ok (i + n) w := fun c => by
          exact slice_bound hzv' (by omega) c w
        have g2 : ∀ c, (Instr.sliceBound (ev y) (i + n) c).run P w = .ok i w := fun c => by
          exact slice_bound hyv' (by omega) c w
        have hb' : (Instr.sliceBounds false bs.length bs.length (some (ev y)) (some (ev z)) none).run P w = .ok (i, i + n, bs.length) w := by
          simp [Instr.sliceBounds, g1, g2]
        simp [execOp, ho, h2, C.val, hb1, Instr.sliceAt, Instr.slice, run_underlying hu, hsz, hb', L.val, A.val, hext]
      · cases hl
    · cases hl
  · cases hl
def evSliceT (pc : Pc) (x : Operand) (lo hi : Option Operand) (s : Tri L) : Option L := match evSliceStr pc x lo hi s with
  | some l => some l
  | none => evSliceTab pc x lo hi s
theorem evSliceT_ok {t : TypeId} {x : Operand} {lo hi : Option Operand} (ho : o.op = .slice t x lo hi none) (hu : P.underlying t = some .string) : PureOk P pc o (evSliceT pc x lo hi) := by
  intro s l hl
  unfold evSliceT at hl
  split at hl
  · rename_i l' h; cases hl; exact evSliceStr_ok ho hu s _ h
  · exact evSliceTab_ok ho hu s _ hl

/-! 'len', 'cap', the lesser, the greater -/
theorem args1 {c : Call} {x : Operand} (hx : c.args.toList = [x]) : c.args = #[x] := by apply Array.ext'; simpa using hx
theorem args2 {c : Call} {x y : Operand} (hx : c.args.toList = [x, y]) : c.args = #[x, y] := by apply Array.ext'; simpa using hx
def evLenS (pc : Pc) (x : Operand) (s : Tri L) : Option L := match opC pc s x with
  | some (.slc _ _ n _) => some (.a (.c (.int .i64 (.lit (.ofNat n)))))
  | some .nils => some (.a (.c (.int .i64 (.lit (.ofNat 0)))))
  | _ => none
theorem evLenS_ok {c : Call} (ho : o.op = .call c) (hc : c.callee = .builtin .len) {x : Operand} (hx : c.args.toList = [x]) {t e : TypeId} (ht : c.argTypes[0]? = some t) (hu : P.underlying t = some (.slice e)) : PureOk P pc o (evLenS pc x) := by
  intro s l hl E ρ D ev hp hops
  have hm : x ∈ o.op.operands.toList := by simp [ho, Op.operands, Call.operands, args1 hx]
  unfold evLenS at hl
  split at hl
  · rename_i b o' n cp hx'
    cases hl
    obtain ⟨h1, h2⟩ := opC_ok hp hops hm hx'
    exact ⟨fun w => by simp [execOp, ho, resolve, invoke, builtin, hc, args1 hx, Builtin.len_, ht, h2, C.val, run_underlying hu, goInt, L.val, A.val, T.den], trivial⟩
  · rename_i hx'
    cases hl
    obtain ⟨h1, h2⟩ := opC_ok hp hops hm hx'
    exact ⟨fun w => by simp [execOp, ho, resolve, invoke, builtin, hc, args1 hx, Builtin.len_, ht, h2, C.val, run_underlying hu, goInt, L.val, A.val, T.den], trivial⟩
  · cases hl
def evLenT (pc : Pc) (x : Operand) (s : Tri L) : Option L := match opC pc s x with
  | some (.str l) => some (.a (.c (.int .i64 (.lit (.ofNat (lenF l))))))
  | _ => none
theorem evLenT_ok {c : Call} (ho : o.op = .call c) (hc : c.callee = .builtin .len) {x : Operand} (hx : c.args.toList = [x]) {t : TypeId} (ht : c.argTypes[0]? = some t) (hu : P.underlying t = some .string) : PureOk P pc o (evLenT pc x) := by
  intro s l hl E ρ D ev hp hops
  have hm : x ∈ o.op.operands.toList := by simp [ho, Op.operands, Call.operands, args1 hx]
  unfold evLenT at hl
  split at hl
  · rename_i bs hx'
    cases hl
    obtain ⟨h1, h2⟩ := opC_ok hp hops hm hx'
    obtain ⟨b, hb1, hb2⟩ := strOf_data E bs
    have hsz : b.size = bs.length := by
      have := congrArg List.length hb2
      rw [List.length_map, Array.length_toList] at this; exact this
    rw [lenF_eq]
    exact ⟨fun w => by simp [execOp, ho, resolve, invoke, builtin, hc, args1 hx, Builtin.len_, ht, h2, C.val, hb1, hsz, run_underlying hu, goInt, L.val, A.val, T.den], trivial⟩
  · cases hl
def evLenA (n : Nat) (_ : Tri L) : Option L := some (.a (.c (.int .i64 (.lit (.ofNat n)))))
theorem evLenA_ok {c : Call} (ho : o.op = .call c) (hc : c.callee = .builtin .len) {x : Operand} (hx : c.args.toList = [x]) {t e : TypeId} {n : Nat} (ht : c.argTypes[0]? = some t) (hu : P.underlying t = some (.array n e)) : PureOk P pc o (evLenA n) := by
  intro s l hl E ρ D ev hp hops
  cases hl
  exact ⟨fun w => by simp [execOp, ho, resolve, invoke, builtin, hc, args1 hx, Builtin.len_, ht, run_underlying hu, goInt, L.val, A.val, C.val, T.den], trivial⟩
theorem run_getObjM {w : World} {r : Nat} {es : Array MapEntry} {clock : Nat} (hb : w.heap[r]? = some (.map es clock)) : (getObj r).run P w = .ok (.map es clock) w := by simp [getObj, Sem.run, hb]
def evLenM (pc : Pc) (x : Operand) (s : Tri L) (m : Tri B) : Option L := match opC pc s x with
  | some (.map b) => match m.get b with
    | some (.map es _) => some (.a (.c (.int .i64 (.lit (.ofNat (lenF es))))))
    | _ => none
  | some .nilm => some (.a (.c (.int .i64 (.lit (.ofNat 0)))))
  | _ => none
theorem evLenM_ok {c : Call} (ho : o.op = .call c) (hc : c.callee = .builtin .len) {x : Operand} (hx : c.args.toList = [x]) {t k e : TypeId} (ht : c.argTypes[0]? = some t) (hu : P.underlying t = some (.map k e)) : LoadOk P pc o (evLenM pc x) := by
  intro s m l hl E ρ D ev w hp hops hmr
  have hm : x ∈ o.op.operands.toList := by simp [ho, Op.operands, Call.operands, args1 hx]
  unfold evLenM at hl
  split at hl
  · rename_i b hx'
    obtain ⟨h1, h2⟩ := opC_ok hp hops hm hx'
    split at hl
    · rename_i es cl hb
      cases hl
      obtain ⟨g1, g2⟩ := hmr.mem b _ h1 hb
      rw [lenF_eq]
      refine ⟨?_, trivial⟩
      simp [execOp, ho, resolve, invoke, builtin, hc, args1 hx, Builtin.len_, ht, h2, C.val, run_underlying hu, goInt, L.val, A.val, T.den, run_getObjM g1]
    · cases hl
  · rename_i hx'
    cases hl
    obtain ⟨h1, h2⟩ := opC_ok hp hops hm hx'
    exact ⟨by simp [execOp, ho, resolve, invoke, builtin, hc, args1 hx, Builtin.len_, ht, h2, C.val, run_underlying hu, goInt, L.val, A.val, T.den], trivial⟩
  · cases hl
def evCap (pc : Pc) (x : Operand) (s : Tri L) : Option L := match opC pc s x with
  | some (.slc _ _ _ (.k n)) => some (.a (.c (.int .i64 (.lit (.ofNat n)))))
  | some .nils => some (.a (.c (.int .i64 (.lit (.ofNat 0)))))
  | _ => none
theorem evCap_ok {c : Call} (ho : o.op = .call c) (hc : c.callee = .builtin .cap) {x : Operand} (hx : c.args.toList = [x]) {t e : TypeId} (ht : c.argTypes[0]? = some t) (hu : P.underlying t = some (.slice e)) : PureOk P pc o (evCap pc x) := by
  intro s l hl E ρ D ev hp hops
  have hm : x ∈ o.op.operands.toList := by simp [ho, Op.operands, Call.operands, args1 hx]
  unfold evCap at hl
  split at hl
  · rename_i b o' n' n hx'
    cases hl
    obtain ⟨h1, h2⟩ := opC_ok hp hops hm hx'
    exact ⟨fun w => by simp [execOp, ho, resolve, invoke, builtin, hc, args1 hx, Builtin.cap_, ht, h2, C.val, Cp.val, run_underlying hu, goInt, L.val, A.val, T.den], trivial⟩
  · rename_i hx'
    cases hl
    obtain ⟨h1, h2⟩ := opC_ok hp hops hm hx'
    exact ⟨fun w => by simp [execOp, ho, resolve, invoke, builtin, hc, args1 hx, Builtin.cap_, ht, h2, C.val, run_underlying hu, goInt, L.val, A.val, T.den], trivial⟩
  · cases hl
def minT (s t : T) : T := match s with
  | .lit m => match t with
    | .lit n => bif ltF n m then .lit n else .lit m
    | t => mkIte (mk2 .lt t s) t s
  | s => mkIte (mk2 .lt t s) t s
def maxT (s t : T) : T := match s with
  | .lit m => match t with
    | .lit n => bif ltF m n then .lit n else .lit m
    | t => mkIte (mk2 .lt s t) t s
  | s => mkIte (mk2 .lt s t) t s
theorem minT_den (E : Env) (s t : T) : (minT s t).den E = if t.den E < s.den E then t.den E else s.den E := by
  have gen : (mkIte (mk2 .lt t s) t s).den E = if t.den E < s.den E then t.den E else s.den E := by
    rw [den_ite, tr_lt2]; simp only [decide_eq_true_eq]
  unfold minT
  split
  · split
    · rename_i m _ n
      rw [ltF_eq]
      show (bif ltb n m then T.lit n else T.lit m).den E = if n < m then n else m
      cases h : ltb n m
      · rw [ltb_f] at h; rw [if_neg (by omega)]; rfl
      · rw [ltb_t] at h; rw [if_pos h]; rfl
    · exact gen
  · exact gen
theorem maxT_den (E : Env) (s t : T) : (maxT s t).den E = if s.den E < t.den E then t.den E else s.den E := by
  have gen : (mkIte (mk2 .lt s t) t s).den E = if s.den E < t.den E then t.den E else s.den E := by
    rw [den_ite, tr_lt2]; simp only [decide_eq_true_eq]
  unfold maxT
  split
  · split
    · rename_i m _ n
      rw [ltF_eq]
      show (bif ltb m n then T.lit n else T.lit m).den E = if m < n then n else m
      cases h : ltb m n
      · rw [ltb_f] at h; rw [if_neg (by omega)]; rfl
      · rw [ltb_t] at h; rw [if_pos h]; rfl
    · exact gen
  · exact gen
def evMM (pc : Pc) (mx : Bool) (x y : Operand) (s : Tri L) : Option L := match opC pc s x with
  | some (.int k u) => match opC pc s y with
    | some (.int _ v) => some (.a (.c (.int k (bif mx then maxT u v else minT u v))))
    | _ => none
  | _ => none
theorem evMM_ok {c : Call} (ho : o.op = .call c) {mx : Bool} (hc : c.callee = .builtin (bif mx then .max else .min)) {x y : Operand} (hx : c.args.toList = [x, y]) : PureOk P pc o (evMM pc mx x y) := by
  intro s l hl E ρ D ev hp hops
  unfold evMM at hl
  split at hl
  · rename_i k u h1
    split at hl
    · rename_i k' v h2
      cases hl
      have v1 := (opC_ok hp hops (by simp [ho, Op.operands, Call.operands, args2 hx]) h1).2
      have v2 := (opC_ok hp hops (by simp [ho, Op.operands, Call.operands, args2 hx]) h2).2
      refine ⟨fun w => ?_, trivial⟩
      cases mx <;> simp only [cond_true, cond_false] at hc ⊢
      · simp [execOp, ho, resolve, invoke, builtin, hc, args2 hx, Builtin.min_, Builtin.min2, v1, v2, C.val, L.val, A.val, minT_den]
      · simp [execOp, ho, resolve, invoke, builtin, hc, args2 hx, Builtin.max_, Builtin.max2, v1, v2, C.val, L.val, A.val, maxT_den]
    · cases hl
  · cases hl
end
end Go.E3
