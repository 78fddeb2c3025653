/- Part 8b of a checked reader of Go texts in their model form: it runs a function at terms in the place of numbers, and each part proves that its answers hold of the model. -/
import Derived.Test.YtddfbikeaipepaaHy8
namespace Go.Sy

/-! rows of elements: cells, columns -/
theorem colAt_lt [Fs] : ∀ {cols : List Col} {p r : Nat} {c : Col}, colAt cols p = some (c, r) → r < c.m ∧ r ≤ p ∧ p < wid cols ∧ c ∈ cols := by
  intro cols
  induction cols with
  | nil => intro p r c h; simp [colAt] at h
  | cons d l ih =>
    intro p r c h
    simp only [colAt] at h
    cases hp : Nat.blt p d.m <;> simp only [hp, cond_true, cond_false] at h
    · obtain ⟨h1, h2, h3, h4⟩ := ih h
      have : ¬ p < d.m := by rw [← Nat.blt_eq, hp]; exact Bool.false_ne_true
      exact ⟨h1, by omega, by simp only [wid]; omega, List.mem_cons_of_mem _ h4⟩
    · cases h
      rw [Nat.blt_eq] at hp
      exact ⟨hp, Nat.le_refl _, by simp only [wid]; omega, List.mem_cons_self⟩
/-- Further on in the same column. -/
theorem colAt_add [Fs] : ∀ {cols : List Col} {p r k : Nat} {c : Col}, colAt cols p = some (c, r) → r + k < c.m → colAt cols (p + k) = some (c, r + k) := by
  intro cols
  induction cols with
  | nil => intro p r k c h; simp [colAt] at h
  | cons d l ih =>
    intro p r k c h hk
    simp only [colAt] at h ⊢
    cases hp : Nat.blt p d.m <;> simp only [hp, cond_true, cond_false] at h
    · have h0 : ¬ p < d.m := by rw [← Nat.blt_eq, hp]; exact Bool.false_ne_true
      have : Nat.blt (p + k) d.m = false := by rw [← Bool.not_eq_true, Nat.blt_eq]; omega
      rw [this, cond_false]
      have := ih h hk
      rw [show p + k - d.m = p - d.m + k by omega]; exact this
    · cases h
      have : Nat.blt (p + k) d.m = true := by rw [Nat.blt_eq]; exact hk
      rw [this, cond_true]
/-- The first number of a column is where it begins; its cells follow. -/
theorem colAt_some [Fs] : ∀ {cols : List Col} {p : Nat}, p < wid cols → ∃ c r, colAt cols p = some (c, r) := by
  intro cols
  induction cols with
  | nil => intro p h; simp [wid] at h
  | cons d l ih =>
    intro p h
    simp only [colAt, wid] at h ⊢
    cases hp : Nat.blt p d.m <;> simp only [cond_true, cond_false]
    · have h0 : ¬ p < d.m := by rw [← Nat.blt_eq, hp]; exact Bool.false_ne_true
      exact ih (by omega)
    · exact ⟨_, _, rfl⟩

def K.cell : K → T → C
  | .i k, t => .int k t
  | .b, t => .bool t
theorem K.cell_ok [Fs] {E : Env} {ρ : Nat → Rb} {n : Nat} (k : K) {t : T} {x : Int} (h : t.den E = x) : Cr E ρ n (k.cell t) (k.val x) := by
  cases k <;> simp only [K.cell, K.val, Cr, T.tr, h]
/-- Number i * m + r, said short. -/
def ixT (i : T) (m r0 : Nat) (r : T) : T := mk2 .add (bif Nat.beq m 1 then i else mk2 .mul i (.lit m)) (mk2 .add (.lit r0) r)
theorem ixT_den [Fs] (E : Env) (i : T) (m r0 : Nat) (r : T) : (ixT i m r0 r).den E = i.den E * m + (r0 + r.den E) := by
  unfold ixT
  cases h : Nat.beq m 1 <;> simp only [cond_true, cond_false, mk2_den, O2.den, T.den]
  rw [Nat.eq_of_beq_eq_true h]; omega
def isZ : T → Bool
  | .lit n => n == 0
  | _ => false
theorem isZ_den [Fs] {E : Env} {t : T} (h : isZ t = true) : t.den E = 0 := by
  cases t <;> simp [isZ] at h
  subst h; rfl
/-- Is it sure to be below? -/
def below (pc : Pc) (t : T) (n : T) : Bool := match dec pc (mk2 .lt t n) with
  | some true => true
  | _ => false
theorem below_ok [Fs] {E : Env} {pc : Pc} (hp : pcOk E pc) {t n : T} (h : below pc t n = true) : t.den E < n.den E := by
  unfold below at h
  split at h
  · rename_i hd
    have := dec_ok hp hd
    simpa only [T.tr, mk2_den, O2.den, tb_ne, ltb_t] using this
  · cases h
/-- The cell at i * wid + o + r. -/
def rdA (pc : Pc) (cols : List Col) (i : T) (o : Nat) (r : T) : Option C := match colAt cols o with
  | some (c, r0) => bif isZ r || below pc r (.lit ((c.m - r0 : Nat))) then some (c.k.cell (selP pc (ixT i c.m r0 r) c.s)) else none
  | none => none
section
variable {E : Env} {ρ : Nat → Rb} {N : Nat}
theorem ix_nat [Fs] {i r : Int} {m r0 : Nat} (hi : 0 ≤ i) (hr : 0 ≤ r) : ((i.toNat * m + (r0 + r.toNat) : Nat) : Int) = i * m + (r0 + r) := by
  obtain ⟨a, rfl⟩ := Int.eq_ofNat_of_zero_le hi
  obtain ⟨b, rfl⟩ := Int.eq_ofNat_of_zero_le hr
  simp
theorem rdA_ok [Fs] {pc : Pc} (hp : pcOk E pc) {cols : List Col} {n : Int} {cs : Array Value} (hc : Cells E n cols cs) {i r : T} {o : Nat} {x : C} (h : rdA pc cols i o r = some x) (h0 : 0 ≤ i.den E) (h1 : i.den E < n) (h2 : 0 ≤ r.den E) :
    ∃ v, cs[(i.den E).toNat * wid cols + (o + (r.den E).toNat)]? = some v ∧ Cr E ρ N x v := by
  unfold rdA at h
  split at h
  · rename_i c r0 hcol
    cases hb : isZ r || below pc r (.lit ((c.m - r0 : Nat))) <;> simp only [hb, cond_true, cond_false] at h
    · cases h
    · cases h
      have hlt := colAt_lt hcol
      have hr : r0 + (r.den E).toNat < c.m := by
        rw [Bool.or_eq_true] at hb
        rcases hb with hb | hb
        · rw [isZ_den hb]; simpa using hlt.1
        · have := below_ok hp hb
          simp only [T.den] at this
          omega
      have := hc (i.den E).toNat (o + (r.den E).toNat) (r0 + (r.den E).toNat) c (by omega) (colAt_add hcol hr)
      refine ⟨_, this, c.k.cell_ok ?_⟩
      rw [selP_den hp, ixT_den, ix_nat h0 h2]
  · cases h
/-- Cells one behind the other. -/
def rdAs (pc : Pc) (cols : List Col) (i : T) : Nat → Nat → Option (List C)
  | _, 0 => some []
  | o, n + 1 => match rdA pc cols i o (.lit 0), rdAs pc cols i (o + 1) n with
    | some x, some r => some (x :: r)
    | _, _ => none
theorem rdAs_ok [Fs] {pc : Pc} (hp : pcOk E pc) {cols : List Col} {n : Int} {cs : Array Value} (hc : Cells E n cols cs) {i : T} (h0 : 0 ≤ i.den E) (h1 : i.den E < n) : ∀ {k o : Nat} {xs : List C}, rdAs pc cols i o k = some xs →
    xs.length = k ∧ ∀ (j : Nat) (x : C), xs[j]? = some x → ∃ v, cs[(i.den E).toNat * wid cols + (o + j)]? = some v ∧ Cr E ρ N x v := by
  intro k
  induction k with
  | zero => intro o xs h; cases h; exact ⟨rfl, fun j x hj => by simp at hj⟩
  | succ k ih =>
    intro o xs h
    simp only [rdAs] at h
    split at h
    · rename_i x r hx hr
      cases h
      obtain ⟨h3, h4⟩ := ih hr
      refine ⟨by simp [h3], fun j y hj => ?_⟩
      cases j with
      | zero =>
        simp at hj; subst hj
        have := rdA_ok (ρ := ρ) (N := N) hp hc hx h0 h1 (by simp [T.den])
        simpa [T.den] using this
      | succ j =>
        simp at hj
        obtain ⟨v, h5, h6⟩ := h4 j y hj
        exact ⟨v, by rw [← h5]; congr 1; omega, h6⟩
    · cases h
theorem rdAs_F2 [Fs] {pc : Pc} (hp : pcOk E pc) {cols : List Col} {n : Int} {cs : Array Value} (hc : Cells E n cols cs) {i : T} (h0 : 0 ≤ i.den E) (h1 : i.den E < n) {k o : Nat} {xs : List C} (hk : 0 < k) (h : rdAs pc cols i o k = some xs) :
    (i.den E).toNat * wid cols + o + k ≤ cs.size ∧ F2 (Cr E ρ N) xs (cs.extract ((i.den E).toNat * wid cols + o) ((i.den E).toNat * wid cols + o + k)) := by
  obtain ⟨h2, h3⟩ := rdAs_ok (ρ := ρ) (N := N) hp hc h0 h1 h
  have hle : (i.den E).toNat * wid cols + o + k ≤ cs.size := by
    obtain ⟨k, rfl⟩ : ∃ k', k = k' + 1 := ⟨k - 1, by omega⟩
    obtain ⟨v, h4, _⟩ := h3 k xs[k] (List.getElem?_eq_getElem (by omega))
    have := (Array.getElem?_eq_some_iff.1 h4).1
    omega
  refine ⟨hle, by rw [Array.size_extract, h2]; omega, fun j z hj => ?_⟩
  obtain ⟨v, h4, h5⟩ := h3 j z hj
  refine ⟨v, ?_, h5⟩
  have hi := (List.getElem?_eq_some_iff.1 hj).1
  rw [Array.getElem?_extract, if_pos (by omega), ← h4]
  congr 1; omega
end

theorem ext_ext [Fs] {cs : Array Value} {o a n : Nat} (h : o + a + n ≤ cs.size) : cs.extract (o + a) (o + a + n) = (cs.extract o cs.size).extract a (a + n) := by
  rw [Array.extract_extract, show min (o + (a + n)) cs.size = o + a + n by omega]
theorem ext_all [Fs] {cs : Array Value} : cs.extract 0 cs.size = cs := by simp
/-! the operations -/
/-- Where an address lies in a row: element, place in it, how much further. -/
def posA (z : Nat) (ev : Bool) : C → Option (Nat × T × Nat × T)
  | .ptr b o => bif ev then some (b, .lit 0, o, .lit 0) else none
  | .pti b o ix sz _ => bif Nat.beq sz 1 && ev then some (b, .lit 0, o, ix) else none
  | .pta b z' i o r => bif Nat.beq z z' then some (b, i, o, r) else none
  | _ => none
theorem posA_ok [Fs] {E : Env} {ρ : Nat → Rb} {N z : Nat} {x : C} {v : Value} {b o : Nat} {i r : T} {ev : Bool} (h : posA z ev x = some (b, i, o, r)) (he : ev = true → (ρ b).o = 0) (hv : Cr E ρ N x v) :
    b < N ∧ 0 ≤ i.den E ∧ 0 ≤ r.den E ∧ v = .pointer (some ⟨(ρ b).g, (ρ b).o + (i.den E).toNat * z + o + (r.den E).toNat, none⟩) := by
  unfold posA at h
  split at h
  · cases ev <;> simp only [cond_true, cond_false] at h <;> cases h
    exact ⟨hv.1, by simp [T.den], by simp [T.den], by rw [hv.2, he rfl]; simp [T.den]⟩
  · rename_i sz _
    cases hs : Nat.beq sz 1 && ev <;> simp only [hs, cond_true, cond_false] at h
    · cases h
    · cases h
      rw [Bool.and_eq_true] at hs
      obtain ⟨h1, h2, h3, h4⟩ := hv
      rw [Nat.eq_of_beq_eq_true hs.1] at h4
      exact ⟨h1, by simp [T.den], h2, by rw [h4, he hs.2]; simp [T.den]⟩
  · rename_i b' z' i' o' r'
    cases hs : Nat.beq z z' <;> simp only [hs, cond_true, cond_false] at h
    · cases h
    · cases h
      rw [Nat.eq_of_beq_eq_true hs]
      exact hv
  · cases h
theorem posA_nn [Fs] {E : Env} {ρ : Nat → Rb} {N z : Nat} {x : C} {v : Value} {b o : Nat} {i r : T} {ev : Bool} (h : posA z ev x = some (b, i, o, r)) (hv : Cr E ρ N x v) : 0 ≤ i.den E := by
  unfold posA at h
  split at h
  · cases ev <;> simp only [cond_true, cond_false] at h <;> cases h
    simp [T.den]
  · rename_i sz _
    cases hs : Nat.beq sz 1 && ev <;> simp only [hs, cond_true, cond_false] at h <;> cases h
    simp [T.den]
  · rename_i b' z' i' o' r'
    cases hs : Nat.beq z z' <;> simp only [hs, cond_true, cond_false] at h <;> cases h
    exact hv.2.1
  · cases h
def blockOf : C → Option Nat
  | .ptr b _ => some b
  | .pti b _ _ _ _ => some b
  | .pta b _ _ _ _ => some b
  | _ => none
/-- What an operation on a row finds: the block's type, length, columns, where. -/
def findA (st : St) (x : C) : Option (Nat × TypeId × T × List Col × T × Nat × T) := match blockOf x with
  | some b => match st.m[b]? with
    | some (.arr ty n cols) => match posA (wid cols) (Nat.beq (Nat.mod ty 2) 0) x with
      | some (b', i, o, r) => bif Nat.beq b b' && below st.pc i n then some (b, ty, n, cols, i, o, r) else none
      | none => none
    | _ => none
  | none => none
def evLoadA (P : Program) (st : St) (t : TypeId) (x : Operand) : Option OpR :=
  match opC st x with
  | some y => match findA st y with
    | some (_, _, _, cols, i, o, r) => match isAggT P t with
      | some true => match sizeT P t with
        | some (n + 1) => bif isZ r then match rdAs st.pc cols i o (n + 1) with
          | some zs => some ⟨.a (.agg zs), st.m, []⟩
          | none => none
          else none
        | _ => none
      | some false => match rdA st.pc cols i o r with
        | some z => some ⟨.a (.c z), st.m, []⟩
        | none => none
      | none => none
    | none => none
  | none => none
/-- Worlds where the old blocks are as they were. -/
def Keeps (w w' : World) : Prop := ∀ k, k < w.heap.size → w'.heap[k]? = w.heap[k]?
theorem Keeps.refl [Fs] (w : World) : Keeps w w := fun _ _ => rfl
/-- An operation that leaves the world alone: one value, in every world where the old blocks are as they were. -/
def OpL (P : Program) (X : Cx) (ρ : Nat → Rb) (st : St) (a : Act) (w : World) (o : Oper) (r : OpR) : Prop :=
  r.m = st.m ∧ ((∀ t ∈ r.rq, t.tr X.E = true) → ∃ v, (∀ w', Keeps w w' → (execOp a.eval o).run P w' = .ok (.value v) w') ∧ Lr X.E ρ st.m.length r.l v)
section ops
variable {P : Program} {X : Cx} {ρ : Nat → Rb} {st : St} {a : Act} {w : World} {o : Oper}
theorem OpQ.opL [Fs] {r : OpR} (h : OpQ P X ρ st a o r) : OpL P X ρ st a w o r := ⟨h.1, fun hq => let ⟨v, h1, h2⟩ := h.2 hq; ⟨v, fun w' _ => h1 w', h2⟩⟩
theorem OpL.ok [Fs] (h : Rel X ρ st a w) {r : OpR} (hl : OpL P X ρ st a w o r) : OpOk P X ρ st a w o r := fun hrq =>
  let ⟨v, h1, h2⟩ := hl.2 hrq
  ⟨v, w, ρ, .inl (h1 w (Keeps.refl w)), by rw [hl.1]; exact h2, by rw [hl.1]; exact h.mr, fun _ _ => rfl, by rw [hl.1]; exact Nat.le_refl _⟩
theorem findA_ok [Fs] (h : Rel X ρ st a w) {x : Operand} {y : C} (hy : opC st x = some y) {b : Nat} {ty : TypeId} {n : T} {cols : List Col} {i r : T} {o' : Nat} (hf : findA st y = some (b, ty, n, cols, i, o', r)) :
    st.m[b]? = some (.arr ty n cols) ∧ (∃ cs t fr, w.heap[(ρ b).g]? = some (.cells cs t fr) ∧ (Nat.beq (Nat.mod ty 2) 1 = false → t = Nat.div ty 2 ∧ fr = (0, 0) ∧ (ρ b).o = 0) ∧ cs.size = (ρ b).z ∧ (ρ b).o + (n.den X.E).toNat * wid cols ≤ cs.size ∧ Cells X.E (n.den X.E) cols (cs.extract (ρ b).o cs.size)) ∧
    b < st.m.length ∧ 0 ≤ i.den X.E ∧ i.den X.E < n.den X.E ∧ 0 ≤ r.den X.E ∧ a.eval x = .pointer (some ⟨(ρ b).g, (ρ b).o + (i.den X.E).toNat * wid cols + o' + (r.den X.E).toNat, none⟩) := by
  unfold findA at hf
  split at hf
  · rename_i b1 hb1
    split at hf
    · rename_i ty' n' cols' hm
      split at hf
      · rename_i b2 i' o2 r' hp
        cases hc : Nat.beq b1 b2 && below st.pc i' n' <;> simp only [hc, cond_true, cond_false] at hf
        · cases hf
        · cases hf
          rw [Bool.and_eq_true] at hc
          have he := Nat.eq_of_beq_eq_true hc.1
          subst he
          have hlt := below_ok h.pc hc.2
          obtain ⟨h5, h6⟩ := h.mr.mem _ _ hm
          have h0 := posA_nn hp (opC_ok h.toSRel hy)
          have h7 := h6 (by omega)
          obtain ⟨h1, h2, h3, h4⟩ := posA_ok hp (fun he => let ⟨_, _, _, _, q, _⟩ := h7; (q (ro_of he)).2.2) (opC_ok h.toSRel hy)
          exact ⟨hm, h7, h1, h2, hlt, h3, h4⟩
      · cases hf
    · cases hf
  · cases hf
theorem evLoadA_ok [Fs] (h : Rel X ρ st a w) {t : TypeId} {x : Operand} (ho : o.op = .load t x) {r : OpR} (hr : evLoadA P st t x = some r) : OpL P X ρ st a w o r := by
  unfold evLoadA at hr
  split at hr
  · rename_i y hy
    split at hr
    · rename_i b ty n cols i o' r' hf
      obtain ⟨hm, ⟨cs, tt, fr, hg, hro, hsz, hle, hcs⟩, hb, h0, h1, h2, hv⟩ := findA_ok h hy hf
      have hlt := (Array.getElem?_eq_some_iff.1 hg).1
      split at hr
      · rename_i hagg
        split at hr
        · rename_i k hs
          cases hz : isZ r' <;> simp only [hz, cond_true, cond_false] at hr
          · cases hr
          · split at hr
            · rename_i zs hzs
              cases hr
              have hz0 := isZ_den (E := X.E) hz
              obtain ⟨h3, h4⟩ := rdAs_F2 (ρ := ρ) (N := st.m.length) h.pc hcs h0 h1 (Nat.succ_pos k) hzs
              refine ⟨rfl, fun _ => ⟨.agg _, fun w' hk => ?_, _, rfl, h4⟩⟩
              have h3' : (ρ b).o + ((i.den X.E).toNat * wid cols + o') + (k + 1) ≤ cs.size := by
                rw [Array.size_extract] at h3; omega
              have hld := run_loadVar_agg (P := P) (w := w') ((hk _ hlt).trans hg) hagg hs h3'
              rw [ext_ext h3'] at hld
              rw [hz0, show (ρ b).o + (i.den X.E).toNat * wid cols + o' + (0 : Int).toNat = (ρ b).o + ((i.den X.E).toNat * wid cols + o') by simp; omega] at hv
              simp only [execOp, ho, hv, Instr.loadAt, Instr.sureAddr, Sem.run_bind, Sem.run_pure, Result.andThen_ok, hld]
            · cases hr
        · cases hr
      · rename_i hagg
        split at hr
        · rename_i z hz
          cases hr
          obtain ⟨v, h3, h4⟩ := rdA_ok (ρ := ρ) (N := st.m.length) h.pc hcs hz h0 h1 h2
          refine ⟨rfl, fun _ => ⟨v, fun w' hk => ?_, h4⟩⟩
          have hld := run_loadVar_cell (P := P) (w := w') ((hk _ hlt).trans hg) hagg (v := v) (o := (ρ b).o + (i.den X.E).toNat * wid cols + o' + (r'.den X.E).toNat) (by
            rw [← h3]
            have hq := (Array.getElem?_eq_some_iff.1 h3).1
            rw [Array.size_extract] at hq
            rw [Array.getElem?_extract, if_pos (by omega)]
            congr 1; omega)
          simp [execOp, ho, hv, Instr.loadAt, Instr.sureAddr, hld]
        · cases hr
      · cases hr
    · cases hr
  · cases hr
end ops
end Go.Sy
