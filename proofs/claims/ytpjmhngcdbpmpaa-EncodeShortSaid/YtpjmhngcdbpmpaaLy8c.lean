/- Part 8c of a checked reader of Go texts in their model form: it runs a function at terms in the place of numbers, and each part proves that its answers hold of the model. -/
import Derived.Test.YtpjmhngcdbpmpaaLy8
namespace Go.Sy

/-! rows: writing -/
def updCol (f : Col → Nat → Option Col) : List Col → Nat → Option (List Col)
  | [], _ => none
  | c :: l, p => bif Nat.blt p c.m then (f c p).map (· :: l) else (updCol f l (p - c.m)).map (c :: ·)
theorem updCol_at [Fs] {f : Col → Nat → Option Col} (hf : ∀ c p d, f c p = some d → d.m = c.m) : ∀ {cols cols' : List Col} {p : Nat}, updCol f cols p = some cols' →
    ∃ c r d, colAt cols p = some (c, r) ∧ f c r = some d ∧ wid cols' = wid cols ∧ ∀ p', colAt cols' p' = if p - r ≤ p' ∧ p' < p - r + c.m then some (d, p' - (p - r)) else colAt cols p' := by
  intro cols
  induction cols with
  | nil => intro cols' p h; simp [updCol] at h
  | cons c l ih =>
    intro cols' p h
    simp only [updCol] at h
    cases hp : Nat.blt p c.m <;> simp only [hp, cond_true, cond_false, Option.map_eq_some_iff] at h
    · obtain ⟨l', h1, rfl⟩ := h
      obtain ⟨c1, r, d, h2, h3, h4, h5⟩ := ih h1
      have h0 : ¬ p < c.m := by rw [← Nat.blt_eq, hp]; exact Bool.false_ne_true
      have hr := (colAt_lt h2).2.1
      refine ⟨c1, r, d, by simp only [colAt, hp, cond_false, h2], h3, by simp only [wid, h4], fun p' => ?_⟩
      simp only [colAt]
      cases hp' : Nat.blt p' c.m <;> simp only [cond_true, cond_false]
      · have h0' : ¬ p' < c.m := by rw [← Nat.blt_eq, hp']; exact Bool.false_ne_true
        rw [h5]
        by_cases hc : p - c.m - r ≤ p' - c.m ∧ p' - c.m < p - c.m - r + c1.m
        · rw [if_pos hc, if_pos (by omega)]; congr 2; omega
        · rw [if_neg hc, if_neg (by omega)]
      · rw [Nat.blt_eq] at hp'
        rw [if_neg (by omega)]
    · obtain ⟨d, h1, rfl⟩ := h
      have hm := hf _ _ _ h1
      rw [Nat.blt_eq] at hp
      refine ⟨c, p, d, by simp only [colAt, show Nat.blt p c.m = true by rw [Nat.blt_eq]; exact hp, cond_true], h1, by simp only [wid, hm], fun p' => ?_⟩
      simp only [colAt, hm, Nat.sub_self, Nat.zero_le, true_and, Nat.zero_add, Nat.sub_zero]
      cases hp' : Nat.blt p' c.m <;> simp only [cond_true, cond_false]
      · rw [if_neg (by rw [← Nat.blt_eq, hp']; exact Bool.false_ne_true)]
      · rw [Nat.blt_eq] at hp'; rw [if_pos hp']
def putCol (pc : Pc) (i r : T) (y : C) (c : Col) (r0 : Nat) : Option Col :=
  bif isZ r || below pc r (.lit ((c.m - r0 : Nat))) then
    match c.k, y with
    | .i k, .int k' t => if k = k' then some { c with s := .upd c.s (ixT i c.m r0 r) t } else none
    | .b, .bool t => some { c with s := .upd c.s (ixT i c.m r0 r) t }
    | _, _ => none
  else none
def wrA (pc : Pc) (cols : List Col) (i : T) (o : Nat) (r : T) (y : C) : Option (List Col) := updCol (putCol pc i r y) cols o
section
variable {E : Env} {ρ : Nat → Rb} {N : Nat}
theorem putCol_ok [Fs] {pc : Pc} (hp : pcOk E pc) {i r : T} {y : C} {c d : Col} {r0 : Nat} (h : putCol pc i r y c r0 = some d) (hr0 : r0 < c.m) (_ : 0 ≤ r.den E) {v : Value} (hv : Cr E ρ N y v) :
    d.m = c.m ∧ d.k = c.k ∧ r0 + (r.den E).toNat < c.m ∧ ∃ t : T, v = c.k.val (t.den E) ∧ d.s = .upd c.s (ixT i c.m r0 r) t := by
  unfold putCol at h
  cases hb : isZ r || below pc r (.lit ((c.m - r0 : Nat))) <;> simp only [hb, cond_true, cond_false] at h
  · cases h
  · have hlt : r0 + (r.den E).toNat < c.m := by
      rw [Bool.or_eq_true] at hb
      rcases hb with hb | hb
      · rw [isZ_den hb]; simpa using hr0
      · have := below_ok hp hb
        simp only [T.den] at this
        omega
    split at h
    · rename_i k k' t hk
      split at h
      · rename_i he
        subst he; cases h
        refine ⟨rfl, rfl, hlt, t, ?_, rfl⟩
        rw [hk]; exact hv
      · cases h
    · rename_i t hk
      cases h
      refine ⟨rfl, rfl, hlt, t, ?_, rfl⟩
      rw [hk]; exact hv
    · cases h
theorem putCol_m [Fs] {pc : Pc} {i r : T} {y : C} {c d : Col} {r0 : Nat} (h : putCol pc i r y c r0 = some d) : d.m = c.m := by
  unfold putCol at h
  cases hb : isZ r || below pc r (.lit ((c.m - r0 : Nat))) <;> simp only [hb, cond_true, cond_false] at h
  · cases h
  · split at h
    · split at h
      · cases h; rfl
      · cases h
    · cases h; rfl
    · cases h
theorem row_inj [Fs] {z i i' p p' : Nat} (hp : p < z) (hp' : p' < z) (h : i * z + p = i' * z + p') : i = i' ∧ p = p' := by
  have key : ∀ {i i' p p' : Nat}, p < z → i < i' → i * z + p ≠ i' * z + p' := by
    intro i i' p p' hp hlt he
    have : (i + 1) * z ≤ i' * z := Nat.mul_le_mul_right _ hlt
    rw [Nat.add_mul] at this; omega
  rcases Nat.lt_trichotomy i i' with hlt | rfl | hlt
  · exact absurd h (key hp hlt)
  · exact ⟨rfl, by omega⟩
  · exact absurd h.symm (key hp' hlt)
theorem wrA_ok [Fs] {pc : Pc} (hp : pcOk E pc) {cols cols' : List Col} {n : Int} {cs : Array Value} (hc : Cells E n cols cs) {i r : T} {o : Nat} {y : C} (h : wrA pc cols i o r y = some cols') (h0 : 0 ≤ i.den E) (h2 : 0 ≤ r.den E)
    {v : Value} (hv : Cr E ρ N y v) (hsz : (i.den E).toNat * wid cols + (o + (r.den E).toNat) < cs.size) :
    wid cols' = wid cols ∧ o + (r.den E).toNat < wid cols ∧ Cells E n cols' (cs.setIfInBounds ((i.den E).toNat * wid cols + (o + (r.den E).toNat)) v) := by
  obtain ⟨c, r0, d, h3, h4, h5, h6⟩ := updCol_at (fun _ _ _ h => putCol_m h) h
  obtain ⟨g1, g2, g3, g4⟩ := colAt_lt h3
  obtain ⟨e1, e2, e3, t, e4, e5⟩ := putCol_ok hp h4 g1 h2 hv
  have hcol := colAt_add h3 e3
  have g5 := (colAt_lt hcol).2.2.1
  refine ⟨h5, g5, fun i' p' r' c' hi' hc' => ?_⟩
  rw [h5]
  rw [h6] at hc'
  split at hc'
  · rename_i hin
    cases hc'
    have hpw : p' < wid cols := by
      have := colAt_add h3 (k := p' - o) (by omega)
      by_cases hpo : p' ≤ o
      · omega
      · have := (colAt_lt this).2.2.1; omega
    have hcp : colAt cols p' = some (c, p' - (o - r0)) := by
      by_cases hpo : o ≤ p'
      · have := colAt_add h3 (k := p' - o) (by omega)
        rw [show o + (p' - o) = p' by omega] at this
        rw [this]; congr 2; omega
      · -- before the place, in the same column
        have key : ∀ {cols : List Col} {o p' r0 : Nat} {c : Col}, colAt cols o = some (c, r0) → o - r0 ≤ p' → p' < o → colAt cols p' = some (c, p' - (o - r0)) := by
          intro cols
          induction cols with
          | nil => intro o p' r0 c h; simp [colAt] at h
          | cons d l ih =>
            intro o p' r0 c h ha hb
            simp only [colAt] at h ⊢
            cases hq : Nat.blt o d.m <;> simp only [hq, cond_true, cond_false] at h
            · have h0 : ¬ o < d.m := by rw [← Nat.blt_eq, hq]; exact Bool.false_ne_true
              have hr := (colAt_lt h).2.1
              have : Nat.blt p' d.m = false := by rw [← Bool.not_eq_true, Nat.blt_eq]; omega
              rw [this, cond_false, ih h (by omega) (by omega)]
              congr 2; omega
            · cases h
              rw [Nat.blt_eq] at hq
              have : Nat.blt p' d.m = true := by rw [Nat.blt_eq]; omega
              rw [this, cond_true]; congr 2; omega
        exact key h3 hin.1 (by omega)
    have hold := hc i' p' _ c hi' hcp
    rw [e1, e2, e5]
    simp only [T.row, ixT_den]
    rw [← ix_nat h0 h2]
    by_cases hsame : i' = (i.den E).toNat ∧ p' - (o - r0) = r0 + (r.den E).toNat
    · obtain ⟨rfl, hq⟩ := hsame
      rw [if_pos (by rw [hq])]
      have hpe : p' = o + (r.den E).toNat := by omega
      rw [hpe, Array.getElem?_setIfInBounds]
      simp [hsz, e4]
    · rw [if_neg]
      · rw [Array.getElem?_setIfInBounds_ne]
        · exact hold
        · intro he
          obtain ⟨q1, q2⟩ := row_inj g5 hpw he
          exact hsame ⟨q1.symm, by omega⟩
      · intro he
        have he' : i' * c.m + (p' - (o - r0)) = (i.den E).toNat * c.m + (r0 + (r.den E).toNat) := by exact_mod_cast he
        obtain ⟨q1, q2⟩ := row_inj (by omega) e3 he'
        exact hsame ⟨q1, q2⟩
  · rename_i hin
    have hp' := (colAt_lt hc').2.2.1
    rw [Array.getElem?_setIfInBounds_ne]
    · exact hc i' p' r' c' hi' hc'
    · intro he
      obtain ⟨q1, q2⟩ := row_inj g5 hp' he
      exact hin (by omega)
def wrAs (pc : Pc) (i : T) : List Col → Nat → List C → Option (List Col)
  | cols, _, [] => some cols
  | cols, o, y :: ys => match wrA pc cols i o (.lit 0) y with
    | some cols' => wrAs pc i cols' (o + 1) ys
    | none => none
/-- Values laid over cells. -/
def lay (cs : Array Value) (b : Nat) : List Value → Array Value
  | [] => cs
  | v :: vs => lay (cs.setIfInBounds b v) (b + 1) vs
theorem lay_size [Fs] : ∀ {vs : List Value} {cs : Array Value} {b : Nat}, (lay cs b vs).size = cs.size := by
  intro vs
  induction vs with
  | nil => intro cs b; rfl
  | cons v vs ih => intro cs b; simp only [lay, ih, Array.size_setIfInBounds]
theorem lay_get [Fs] : ∀ {vs : List Value} {cs : Array Value} {b q : Nat}, b + vs.length ≤ cs.size → (lay cs b vs)[q]? = if b ≤ q ∧ q < b + vs.length then vs[q - b]? else cs[q]? := by
  intro vs
  induction vs with
  | nil => intro cs b q _; simp only [lay, List.length_nil]; rw [if_neg (by omega)]
  | cons v vs ih =>
    intro cs b q hb
    simp only [List.length_cons] at hb
    simp only [lay]
    rw [ih (by simp; omega)]
    by_cases h1 : b + 1 ≤ q ∧ q < b + 1 + vs.length
    · rw [if_pos h1, if_pos (by simp; omega), show q - b = (q - (b + 1)) + 1 by omega]; simp
    · rw [if_neg h1]
      by_cases h2 : q = b
      · subst h2
        rw [if_pos (by simp)]
        simp [show q < cs.size by omega]
      · rw [if_neg (by simp; omega), Array.getElem?_setIfInBounds_ne (fun e => h2 e.symm)]
theorem lay_eq [Fs] {cs : Array Value} {b : Nat} {vs : Array Value} (h : b + vs.size ≤ cs.size) : lay cs b vs.toList = (cs.toList.take b).toArray ++ vs ++ (cs.toList.drop (b + vs.size)).toArray := by
  apply Array.ext_getElem?
  intro q
  rw [lay_get (by simpa using h)]
  simp only [Array.length_toList]
  by_cases h1 : b ≤ q ∧ q < b + vs.size
  · rw [if_pos h1, Array.getElem?_append, if_pos (by simp; omega), Array.getElem?_append, if_neg (by simp; omega)]
    have e : q - (cs.toList.take b).toArray.size = q - b := by simp; omega
    rw [e]; simp
  · rw [if_neg h1]
    by_cases h2 : q < b
    · rw [Array.getElem?_append, if_pos (by simp; omega), Array.getElem?_append, if_pos (by simp; omega)]
      simp [h2]
    · rw [Array.getElem?_append, if_neg (by simp; omega)]
      simp only [List.getElem?_toArray, List.getElem?_drop]
      rw [show b + vs.size + (q - ((cs.toList.take b).toArray ++ vs).size) = q by simp; omega]
      simp
theorem wrAs_ok [Fs] {pc : Pc} (hp : pcOk E pc) {n : Int} {i : T} (h0 : 0 ≤ i.den E) : ∀ {ys : List C} {vs : List Value} {cols cols' : List Col} {cs : Array Value} {o : Nat}, wrAs pc i cols o ys = some cols' → Cells E n cols cs → vs.length = ys.length →
    (∀ (j : Nat) (y : C), ys[j]? = some y → ∃ v, vs[j]? = some v ∧ Cr E ρ N y v) → (i.den E).toNat * wid cols + o + ys.length ≤ cs.size →
    wid cols' = wid cols ∧ Cells E n cols' (lay cs ((i.den E).toNat * wid cols + o) vs) := by
  intro ys
  induction ys with
  | nil =>
    intro vs cols cols' cs o h hc hl _ _
    cases h
    cases vs with
    | nil => exact ⟨rfl, hc⟩
    | cons => simp at hl
  | cons y ys ih =>
    intro vs cols cols' cs o h hc hl hv hsz
    cases vs with
    | nil => simp at hl
    | cons v vs =>
      simp only [wrAs] at h
      split at h
      · rename_i cols1 h1
        obtain ⟨v', hv1, hv2⟩ := hv 0 y rfl
        simp at hv1; subst hv1
        simp only [List.length_cons] at hsz
        obtain ⟨g1, g2, g3⟩ := wrA_ok hp hc h1 h0 (by simp [T.den]) hv2 (by simp [T.den]; omega)
        simp only [T.den, Int.toNat_zero, Nat.add_zero] at g3
        obtain ⟨k1, k2⟩ := ih h g3 (by simpa using hl) (fun j z hz => by simpa using hv (j + 1) z (by simpa using hz)) (by rw [g1]; simp; omega)
        refine ⟨k1.trans g1, ?_⟩
        rw [g1] at k2
        simp only [lay]
        rw [show (i.den E).toNat * wid cols + o + 1 = (i.den E).toNat * wid cols + (o + 1) by omega]
        exact k2
      · cases h
end
def evStoreA (P : Program) (st : St) (t : TypeId) (x y : Operand) : Option OpR :=
  match opC st x, cellsOf (opA st y), sizeT P t with
  | some q, some ys, some n => match findA st q with
    | some (b, ty, k, cols, i, o, r) => bif Nat.beq n ys.length && Nat.ble (o + n) (wid cols) && Nat.beq (Nat.mod ty 2) 0 then
        match ys with
        | [y] => match wrA st.pc cols i o r y with
          | some cols' => some ⟨.a .dead, st.m.set b (.arr ty k cols'), []⟩
          | none => none
        | ys => bif isZ r then match wrAs st.pc i cols o ys with
          | some cols' => some ⟨.a .dead, st.m.set b (.arr ty k cols'), []⟩
          | none => none
          else none
      else none
    | none => none
  | _, _, _ => none
section ops
variable {P : Program} {X : Cx} {ρ : Nat → Rb} {st : St} {a : Act} {w : World} {o : Oper}
theorem elem_lt [Fs] {i n z p : Nat} (hi : i < n) (hp : p < z) : i * z + p < n * z := by
  have : (i + 1) * z ≤ n * z := Nat.mul_le_mul_right _ hi
  rw [Nat.add_mul] at this; omega
theorem elem_le [Fs] {i n z p : Nat} (hi : i < n) (hp : p ≤ z) : i * z + p ≤ n * z := by
  have : (i + 1) * z ≤ n * z := Nat.mul_le_mul_right _ hi
  rw [Nat.add_mul] at this; omega
theorem evStoreA_ok [Fs] (h : Rel X ρ st a w) {t : TypeId} {x y : Operand} (ho : o.op = .store t x y) {r : OpR} (hr : evStoreA P st t x y = some r) : OpOk P X ρ st a w o r := by
  unfold evStoreA at hr
  split at hr
  · rename_i q ys n hq hys hs
    have hy := cellsOf_ok hys (opA_ok h.toSRel y)
    have h1c : ∀ v ∈ (a.eval y).cells, v.oneCell' = true := hy.all fun _ _ => Cr_one
    split at hr
    · rename_i b ty k cols i o' r' hf
      obtain ⟨hm, ⟨cs, tt, fr, hg, hro', hsz, hle, hcs⟩, hb, h0, h1, h2, hv⟩ := findA_ok h hq hf
      cases hn : Nat.beq n ys.length && Nat.ble (o' + n) (wid cols) && Nat.beq (Nat.mod ty 2) 0 <;> simp only [hn, cond_true, cond_false] at hr
      · cases hr
      · rw [Bool.and_eq_true] at hn
        obtain ⟨hn, hro⟩ := hn
        obtain ⟨rfl, rfl, ho0⟩ := hro' (ro_of hro)
        rw [ho0, Nat.zero_add] at hle hv
        rw [ho0, ext_all] at hcs
        rw [Bool.and_eq_true, Nat.ble_eq] at hn
        have hnl := Nat.eq_of_beq_eq_true hn.1
        have hvs : (a.eval y).cells.size = n := by rw [hy.1, hnl]
        have hin : (i.den X.E).toNat < (k.den X.E).toNat := by omega
        -- what the store does
        have fin : ∀ (cols' : List Col) (off : Nat), wid cols' = wid cols → (execOp a.eval o).run P w = .ok .skip (w.setRow (ρ b).g (lay cs off (a.eval y).cells.toList)) →
            Cells X.E (k.den X.E) cols' (lay cs off (a.eval y).cells.toList) → OpOk P X ρ st a w o ⟨.a .dead, st.m.set b (.arr ty k cols'), []⟩ := by
          intro cols' off hw hrun hc'
          refine fun _ => ⟨undef, _, ρ, .inr ⟨hrun, rfl⟩, trivial, h.mr.setB hm (show 0 < k.den X.E by omega) (ro_of hro) (ro_of hro) hg (show 0 < k.den X.E by omega) (fun o ho => ⟨by omega, fun _ => ⟨_, _, _, ho, fun _ => ⟨rfl, rfl, ho0⟩, by rw [lay_size]; exact hsz, by rw [lay_size, hw, ho0, Nat.zero_add]; exact hle, by rw [ho0, ext_all]; exact hc'⟩⟩), fun _ _ => rfl, by simp⟩
        have run : ∀ off, off = (i.den X.E).toNat * wid cols + o' + (r'.den X.E).toNat → off + n ≤ cs.size → (execOp a.eval o).run P w = .ok .skip (w.setRow (ρ b).g (lay cs off (a.eval y).cells.toList)) := by
          intro off hoff hle'
          rw [← hoff] at hv
          rw [lay_eq (by rw [hvs]; exact hle'), hvs]
          simp [execOp, ho, hv, Instr.storeAt, Instr.sureAddr, run_storeVar_at hg hs hvs hle' h1c]
        split at hr
        · rename_i y1
          split at hr
          · rename_i cols' hw
            cases hr
            obtain ⟨v1, hv1, hv2⟩ := hy.2 0 y1 rfl
            have hn1 : n = 1 := by rw [hnl]; rfl
            have hsz1 : (i.den X.E).toNat * wid cols + (o' + (r'.den X.E).toNat) < cs.size := by
              obtain ⟨c, r0, d, h3, h4, h5, h6⟩ := updCol_at (fun _ _ _ h => putCol_m h) hw
              obtain ⟨_, _, e3, _⟩ := putCol_ok h.pc h4 (colAt_lt h3).1 h2 hv2
              have g5 := (colAt_lt (colAt_add h3 e3)).2.2.1
              have := elem_le (z := wid cols) (p := o' + (r'.den X.E).toNat + 1) hin (by omega)
              omega
            obtain ⟨g1, g2, g3⟩ := wrA_ok h.pc hcs hw h0 h2 hv2 hsz1
            have hcl : (a.eval y).cells.toList = [v1] := by
              have hl : (a.eval y).cells.toList.length = 1 := by rw [Array.length_toList, hvs, hn1]
              match hL : (a.eval y).cells.toList, hl with
              | [u], _ =>
                have : (a.eval y).cells[0]? = some u := by rw [← Array.getElem?_toList, hL]; rfl
                rw [this] at hv1; cases hv1; rfl
            refine fin cols' ((i.den X.E).toNat * wid cols + (o' + (r'.den X.E).toNat)) g1 (run _ (by omega) (by omega)) ?_
            rw [hcl]; exact g3
          · cases hr
        · cases hz : isZ r' <;> simp only [hz, cond_true, cond_false] at hr
          · cases hr
          · split at hr
            · rename_i cols' hw
              cases hr
              have hz0 := isZ_den (E := X.E) hz
              have hsz1 : (i.den X.E).toNat * wid cols + o' + n ≤ cs.size := by
                have := elem_le (z := wid cols) (p := o' + n) hin hn.2
                omega
              obtain ⟨g1, g2⟩ := wrAs_ok (ρ := ρ) (N := st.m.length) h.pc h0 hw hcs (vs := (a.eval y).cells.toList) (by simpa using hy.1) (fun j z hz => by simpa using hy.2 j z hz) (by rw [← hnl]; exact hsz1)
              exact fin cols' _ g1 (run _ (by rw [hz0]; simp) hsz1) g2
            · cases hr
    · cases hr
  · cases hr
end ops
end Go.Sy
namespace Go.Sy

/-! rows: addresses, lengths, parts, new ones -/
/-- A slice of a row: block, stride, first element, length. -/
def rowOf : C → Option (Nat × Nat × T × T)
  | .slr b z o n => some (b, z, o, n)
  | .sln b z n => some (b, z, .lit 0, n)
  | _ => none
section
variable {E : Env} {ρ : Nat → Rb} {N : Nat}
theorem rowOf_ok [Fs] {x : C} {b z : Nat} {o n : T} {v : Value} (h : rowOf x = some (b, z, o, n)) (hv : Cr E ρ N x v) : Cr E ρ N (.slr b z o n) v := by
  unfold rowOf at h
  split at h
  · cases h; exact hv
  · cases h
    obtain ⟨h1, h2, a, cap, h3, h4, _, h5, h6⟩ := hv
    exact ⟨h1, by simp [T.den], h2, a, cap, h3, h4, fun hk => by rw [(h6 hk).1, (h6 hk).2.2]; simp [T.den]⟩
  · cases h
end
def ptaOf : C → Option (Nat × Nat × T × Nat × T)
  | .pta b z i o r => some (b, z, i, o, r)
  | _ => none
theorem ptaOf_eq [Fs] {x : C} {b z o : Nat} {i r : T} (h : ptaOf x = some (b, z, i, o, r)) : x = .pta b z i o r := by
  unfold ptaOf at h
  split at h
  · cases h; rfl
  · cases h
def evIndexAddrA (P : Program) (st : St) (t : TypeId) (x ix : Operand) : Option OpR :=
  match opC st ix, opC st x with
  | some (.int _ i), some y => match P.underlying t with
    | some (.slice e) => match sizeT P e, rowOf y with
      | some sz, some (b, z, o, n) => bif Nat.beq sz z then some ⟨.a (.c (.pta b z (mk2 .add o i) 0 (.lit 0))), st.m, [mk2 .le (.lit 0) i, mk2 .lt i n]⟩ else none
      | _, _ => none
    | some (.array len e) => match sizeT P e, ptaOf y with
      | some sz, some (b, z, j, o, r) => bif Nat.beq sz 1 && isZ r then some ⟨.a (.c (.pta b z j o i)), st.m, [mk2 .le (.lit 0) i, mk2 .lt i (.lit len)]⟩ else none
      | _, _ => none
    | _ => none
  | _, _ => none
def evFieldA (P : Program) (st : St) (s : TypeId) (x : Operand) (f : Nat) : Option OpR :=
  match P.underlying s with
  | some (.struct fs) => match fs[f]?, opC st x with
    | some fd, some (.pta b z i o r) => match sizeT P fd.type with
      | some (_ + 1) => some ⟨.a (.c (.pta b z i (o + fd.offset) r)), st.m, []⟩
      | _ => none
    | _, _ => none
  | _ => none
def evNilA (st : St) (x : Operand) : Option OpR :=
  match opC st x with
  | some (.pta b z i o r) => some ⟨.a (.c (.pta b z i o r)), st.m, []⟩
  | _ => none
def evLenA (P : Program) (st : St) (t : TypeId) (x : Operand) : Option OpR :=
  match P.underlying t, opC st x with
  | some (.slice _), some y => match rowOf y with
    | some (_, _, _, n) => some ⟨.a (.c (.int .i64 n)), st.m, []⟩
    | none => none
  | some .string, some (.str n _) => some ⟨.a (.c (.int .i64 n)), st.m, []⟩
  | _, _ => none
section ops
variable {P : Program} {X : Cx} {ρ : Nat → Rb} {st : St} {a : Act} {w : World} {o : Oper}
theorem le_of [Fs] {E : Env} {s t : T} (h : (mk2 .le s t).tr E = true) : s.den E ≤ t.den E := by
  simpa only [T.tr, mk2_den, O2.den, tb_ne, leb_t] using h
theorem lt_of [Fs] {E : Env} {s t : T} (h : (mk2 .lt s t).tr E = true) : s.den E < t.den E := by
  simpa only [T.tr, mk2_den, O2.den, tb_ne, ltb_t] using h
theorem evIndexAddrA_ok [Fs] (h : SRel X ρ st a) {t : TypeId} {x ix : Operand} (ho : o.op = .indexAddr t x ix) {r : OpR} (hr : evIndexAddrA P st t x ix = some r) : OpQ P X ρ st a o r := by
  unfold evIndexAddrA at hr
  split at hr
  · rename_i k i y hi hx
    have hiv := opC_ok h hi
    simp only [Cr] at hiv
    split at hr
    · rename_i e hu
      split at hr
      · rename_i sz b z o' n hs hrow
        cases hz : Nat.beq sz z <;> simp only [hz, cond_true, cond_false] at hr
        · cases hr
        · cases hr
          have hz' := Nat.eq_of_beq_eq_true hz
          subst hz'
          obtain ⟨h1, h2, h3, ad, cap, h4, h5, h6⟩ := rowOf_ok hrow (opC_ok h hx)
          refine OpQ.pure (v := .pointer (some ⟨(ρ b).g, (ρ b).o + ((o'.den X.E + i.den X.E)).toNat * sz, none⟩)) fun w hq => ?_
          have q1 := le_of (hq _ List.mem_cons_self)
          have q2 := lt_of (hq _ (List.mem_cons_of_mem _ List.mem_cons_self))
          simp only [T.den] at q1
          refine ⟨?_, h1, by simp only [mk2_den, O2.den]; omega, by simp [T.den], by simp [mk2_den, O2.den, T.den]⟩
          have e1 : ad = some ⟨(ρ b).g, (ρ b).o + (o'.den X.E).toNat * sz, none⟩ := h6 (by omega)
          subst e1
          have e2 : (ρ b).o + (o'.den X.E + i.den X.E).toNat * sz = (ρ b).o + (o'.den X.E).toNat * sz + (i.den X.E).toNat * sz := by
            rw [Int.toNat_add h2 q1, Nat.add_mul, Nat.add_assoc]
          have e3 : i.den X.E < ((n.den X.E).toNat : Int) := by omega
          generalize (n.den X.E).toNat = N1 at h4 e3
          simp [execOp, ho, h4, hiv, Instr.indexAt, asIntOf, run_underlying hu, run_sizeT hs, q1, e3, addr_add, e2]
      · cases hr
    · rename_i len e hu
      split at hr
      · rename_i sz b z j o' r' hs hy
        cases hz : Nat.beq sz 1 && isZ r' <;> simp only [hz, cond_true, cond_false] at hr
        · cases hr
        · cases hr
          rw [Bool.and_eq_true] at hz
          have hz1 := Nat.eq_of_beq_eq_true hz.1
          subst hz1
          have hz2 := isZ_den (E := X.E) hz.2
          have hx' := opC_ok h hx
          rw [ptaOf_eq hy] at hx'
          obtain ⟨h1, h2, h3, h4⟩ := hx'
          refine OpQ.pure (v := .pointer (some ⟨(ρ b).g, (ρ b).o + (j.den X.E).toNat * z + o' + (i.den X.E).toNat, none⟩)) fun w hq => ?_
          have q1 := le_of (hq _ List.mem_cons_self)
          have q2 := lt_of (hq _ (List.mem_cons_of_mem _ List.mem_cons_self))
          simp only [T.den] at q1 q2
          refine ⟨?_, h1, h2, q1, rfl⟩
          rw [hz2] at h4
          simp [execOp, ho, h4, hiv, Instr.indexAt, asIntOf, Instr.sureAddr, run_underlying hu, run_sizeT hs, q1, q2, addr_add]
      · cases hr
    · cases hr
  · cases hr
theorem evFieldA_ok [Fs] (h : SRel X ρ st a) {s : TypeId} {x : Operand} {f : Nat} (ho : o.op = .fieldAddr s x f) {r : OpR} (hr : evFieldA P st s x f = some r) : OpQ P X ρ st a o r := by
  unfold evFieldA at hr
  split at hr
  · rename_i fs hu
    split at hr
    · rename_i fd b z i o' r' hf hx
      split at hr
      case h_2 => cases hr
      rename_i k hs
      cases hr
      obtain ⟨h1, h2, h3, h4⟩ := opC_ok h hx
      refine OpQ.pure (v := .pointer (some ⟨(ρ b).g, (ρ b).o + (i.den X.E).toNat * z + (o' + fd.offset) + (r'.den X.E).toNat, none⟩)) fun w _ => ⟨?_, h1, h2, h3, rfl⟩
      have e : (ρ b).o + (i.den X.E).toNat * z + o' + (r'.den X.E).toNat + fd.offset = (ρ b).o + (i.den X.E).toNat * z + (o' + fd.offset) + (r'.den X.E).toNat := by omega
      simp [execOp, ho, h4, Instr.fieldAt, Instr.sureAddr, fieldPlace, run_underlying hu, hf, run_sizeT hs, addr_add, e]
    · cases hr
  · cases hr
theorem evNilA_ok [Fs] (h : SRel X ρ st a) {x : Operand} (ho : o.op = .nilCheck x) {r : OpR} (hr : evNilA st x = some r) : OpQ P X ρ st a o r := by
  unfold evNilA at hr
  split at hr
  · rename_i b z i o' r' hx
    cases hr
    have hv := opC_ok h hx
    refine OpQ.pure (v := a.eval x) fun w _ => ⟨?_, hv⟩
    simp [execOp, ho, hv.2.2.2]
  · cases hr
theorem evLenA_ok [Fs] (h : SRel X ρ st a) {t : TypeId} {x : Operand} {c : Call} (ho : o.op = .call c) (hc : c.callee = .builtin .len) (hx : c.args.toList = [x]) (ht : c.argTypes[0]? = some t) {r : OpR} (hr : evLenA P st t x = some r) : OpQ P X ρ st a o r := by
  have hcall : ∀ w, (execOp a.eval o).run P w = ((Builtin.len_ c.argTypes o.type #[a.eval x]).run P w).andThen fun v w' => .ok (.value v) w' := by
    have : c.args = #[x] := by apply Array.ext'; simpa using hx
    intro w; simp [execOp, ho, resolve, invoke, builtin, hc, this]
  unfold evLenA at hr
  split at hr
  · rename_i e y hu hy
    split at hr
    · rename_i b z o' n hrow
      cases hr
      obtain ⟨h1, h2, h3, ad, cap, h4, h5, h6⟩ := rowOf_ok hrow (opC_ok h hy)
      refine OpQ.pure (v := .int .i64 (n.den X.E)) fun w _ => ⟨?_, rfl⟩
      rw [hcall]
      have : (((n.den X.E).toNat : Nat) : Int) = n.den X.E := by omega
      simp [Builtin.len_, ht, h4, run_underlying hu, goInt, this]
    · cases hr
  · rename_i n s hu hy
    cases hr
    obtain ⟨b, h1, h2, h3⟩ := opC_ok h hy
    refine OpQ.pure (v := .int .i64 (n.den X.E)) fun w _ => ⟨?_, rfl⟩
    rw [hcall]
    simp [Builtin.len_, ht, h1, run_underlying hu, goInt, h2]
  · cases hr

/-- A part of a slice, of a string. -/
def evSlice (P : Program) (st : St) (t : TypeId) (x : Operand) (lo hi : Option Operand) : Option OpR :=
  match (match lo with | some l => (match opC st l with | some (.int _ i) => some i | _ => none) | none => some (.lit 0)), opC st x with
  | some l, some y => match P.underlying t with
    | some (.slice e) => match sizeT P e, rowOf y with
      | some sz, some (b, z, o, n) => match (match hi with | some h => (match opC st h with | some (.int _ i) => some i | _ => none) | none => some n) with
        | some h => bif Nat.beq sz z then some ⟨.a (.c (.slr b z (mk2 .add o l) (mk2 .sub h l))), st.m, [mk2 .le (.lit 0) l, mk2 .le l h, mk2 .le h n]⟩ else none
        | none => none
      | _, _ => none
    | _ => none
  | _, _ => none
theorem sliceBound_run [Fs] {k : IntKind} {i : Int} {y : Nat} {code : BoundsCode} {w : World} (h0 : 0 ≤ i) (h1 : i ≤ y) : (Instr.sliceBound (.int k i) y code).run P w = .ok i.toNat w := by
  simp [Instr.sliceBound, asIntOf, h0, h1]
theorem evSlice_ok [Fs] (h : SRel X ρ st a) {t : TypeId} {x : Operand} {lo hi : Option Operand} (ho : o.op = .slice t x lo hi none) {r : OpR} (hr : evSlice P st t x lo hi = some r) : OpQ P X ρ st a o r := by
  unfold evSlice at hr
  split at hr
  · rename_i l y hl hy
    split at hr
    · rename_i e hu
      split at hr
      · rename_i sz b z o' n hs hrow
        split at hr
        · rename_i hh hhi
          cases hz : Nat.beq sz z <;> simp only [hz, cond_true, cond_false] at hr
          · cases hr
          · cases hr
            have hz' := Nat.eq_of_beq_eq_true hz
            subst hz'
            obtain ⟨h1, h2, h3, ad, cap, h4, h5, h6⟩ := rowOf_ok hrow (opC_ok h hy)
            refine ⟨rfl, fun hq => ?_⟩
            have q1 := le_of (hq _ List.mem_cons_self)
            have q2 := le_of (hq _ (List.mem_cons_of_mem _ List.mem_cons_self))
            have q3 := le_of (hq _ (List.mem_cons_of_mem _ (List.mem_cons_of_mem _ List.mem_cons_self)))
            simp only [T.den] at q1
            have hlv : (lo = none ∧ l.den X.E = 0) ∨ ∃ p k, lo = some p ∧ a.eval p = .int k (l.den X.E) := by
              cases lo with
              | none => left; simp at hl; subst hl; exact ⟨rfl, rfl⟩
              | some p =>
                right
                simp only at hl
                split at hl
                · rename_i k i hp
                  cases hl
                  exact ⟨p, k, rfl, opC_ok h hp⟩
                · cases hl
            have hhv : (hi = none ∧ hh.den X.E = n.den X.E) ∨ ∃ p k, hi = some p ∧ a.eval p = .int k (hh.den X.E) := by
              cases hi with
              | none => left; simp at hhi; subst hhi; exact ⟨rfl, rfl⟩
              | some p =>
                right
                simp only at hhi
                split at hhi
                · rename_i k i hp
                  cases hhi
                  exact ⟨p, k, rfl, opC_ok h hp⟩
                · cases hhi
            have hb : ∀ w, (Instr.sliceBounds true (n.den X.E).toNat cap (lo.map a.eval) (hi.map a.eval) none).run P w = .ok ((l.den X.E).toNat, (hh.den X.E).toNat, cap) w := by
              intro w
              have s1 : ∀ k, (Instr.sliceBound (.int k (l.den X.E)) (hh.den X.E).toNat .sliceB).run P w = .ok (l.den X.E).toNat w := fun k => sliceBound_run q1 (by omega)
              have s2 : ∀ k, (Instr.sliceBound (.int k (hh.den X.E)) cap .sliceAcap).run P w = .ok (hh.den X.E).toNat w := fun k => sliceBound_run (by omega) (by omega)
              rcases hlv with ⟨rfl, hl0⟩ | ⟨p, k, rfl, hp⟩ <;> rcases hhv with ⟨rfl, hh0⟩ | ⟨p', k', rfl, hp'⟩
              · simp [Instr.sliceBounds, hl0, hh0]
              · simp [Instr.sliceBounds, hl0, hp', s2]
              · rw [hh0] at s1
                simp [Instr.sliceBounds, hp, s1, hh0]
              · simp [Instr.sliceBounds, hp, hp', s1, s2]
            refine ⟨.slice (if cap = (l.den X.E).toNat then ad else ad.map (·.add ((l.den X.E).toNat * sz))) ((hh.den X.E).toNat - (l.den X.E).toNat) (cap - (l.den X.E).toNat), fun w => ?_, ?_⟩
            · simp [execOp, ho, Instr.sliceAt, Instr.slice, run_underlying hu, h4, hb, run_sizeT hs]
            · refine ⟨h1, by simp only [mk2_den, O2.den]; omega, by simp only [mk2_den, O2.den]; omega, _, _, by simp only [mk2_den, O2.den]; rw [show (hh.den X.E - l.den X.E).toNat = (hh.den X.E).toNat - (l.den X.E).toNat by omega], ?_, ?_⟩
              · simp only [mk2_den, O2.den]; omega
              · intro hk
                simp only [mk2_den, O2.den] at hk ⊢
                have e1 : ad = some ⟨(ρ b).g, (ρ b).o + (o'.den X.E).toNat * sz, none⟩ := h6 (by omega)
                rw [if_neg (by omega), e1]
                simp only [Option.map_some, addr_add, Int.toNat_add h2 q1, Nat.add_mul, Nat.add_assoc]
        · cases hr
      · cases hr
    · cases hr
  · cases hr

/-- Columns of noughts. -/
def zcols : List C → Option (List Col)
  | [] => some []
  | .int k (.lit n) :: r => (zcols r).map (⟨.i k, 1, .lit n⟩ :: ·)
  | .bool (.lit n) :: r => (zcols r).map (⟨.b, 1, .lit n⟩ :: ·)
  | _ :: _ => none
theorem zcols_ok [Fs] {E : Env} {N : Nat} : ∀ {xs : List C} {cols : List Col}, zcols xs = some cols → wid cols = xs.length ∧ ∀ (p r : Nat) (c : Col), colAt cols p = some (c, r) → ∃ x, xs[p]? = some x ∧ ∀ v, Cr E ρ N x v → ∀ j, v = c.k.val (c.s.row E j) := by
  intro xs
  induction xs with
  | nil => intro cols h; cases h; exact ⟨rfl, fun p r c h => by simp [colAt] at h⟩
  | cons x r ih =>
    intro cols h
    have step : ∀ (k : K) (n : Int) (cs : List Col), zcols r = some cs → cols = ⟨k, 1, .lit n⟩ :: cs → (∀ v, Cr E ρ N x v → v = k.val n) → wid cols = (x :: r).length ∧ ∀ (p r' : Nat) (c : Col), colAt cols p = some (c, r') → ∃ y, (x :: r)[p]? = some y ∧ ∀ v, Cr E ρ N y v → ∀ j, v = c.k.val (c.s.row E j) := by
      intro k n cs hcs hc hv
      subst hc
      obtain ⟨h1, h2⟩ := ih hcs
      refine ⟨by simp [wid, h1]; omega, fun p r' c hp => ?_⟩
      simp only [colAt] at hp
      cases hb : Nat.blt p 1 <;> simp only [hb, cond_true, cond_false] at hp
      · have h0 : ¬ p < 1 := by rw [← Nat.blt_eq, hb]; exact Bool.false_ne_true
        obtain ⟨y, h3, h4⟩ := h2 _ _ _ hp
        exact ⟨y, by rw [show p = (p - 1) + 1 by omega]; simpa using h3, h4⟩
      · cases hp
        rw [Nat.blt_eq] at hb
        obtain rfl : p = 0 := by omega
        exact ⟨x, rfl, fun v hx j => by rw [hv v hx]; rfl⟩
    unfold zcols at h
    split at h
    · rename_i he; cases he
    · rename_i k n r' he
      cases he
      rw [Option.map_eq_some_iff] at h
      obtain ⟨cs, h1, h2⟩ := h
      exact step (.i k) n cs h1 h2.symm fun v hv => hv
    · rename_i n r' he
      cases he
      rw [Option.map_eq_some_iff] at h
      obtain ⟨cs, h1, h2⟩ := h
      exact step .b n cs h1 h2.symm fun v hv => hv
    · cases h
/-- make of a size that isn't known. -/
def evMakeA (P : Program) (st : St) (t : TypeId) (l c : Operand) : Option OpR :=
  match P.underlying t with
  | some (.slice e) => match sizeT P e, zeroOf P e, P.info? e with
    | some sz, some z, some inf => match opC st l, opC st c, zcols z with
      | some (.int _ n), some (.int _ k), some cols => bif n.beq k && Nat.ble inf.bytes 65536 && Nat.beq sz z.length && Nat.blt 0 sz then
          some ⟨.a (.c (.sln st.m.length sz n)), st.m ++ [.arr (Nat.mul 2 e) n cols], [mk2 .le (.lit 0) n, mk2 .le n (.lit 16777216)]⟩ else none
      | _, _, _ => none
    | _, _, _ => none
  | _ => none
theorem evMakeA_ok [Fs] (h : Rel X ρ st a w) {t : TypeId} {l c : Operand} (ho : o.op = .makeSlice t l c) {r : OpR} (hr : evMakeA P st t l c = some r) : OpOk P X ρ st a w o r := by
  unfold evMakeA at hr
  split at hr
  · rename_i e hu
    split at hr
    · rename_i sz z inf hs hz hinf
      split at hr
      · rename_i k1 n k2 k cols hl hc hzc
        cases hq : n.beq k && Nat.ble inf.bytes 65536 && Nat.beq sz z.length && Nat.blt 0 sz <;> simp only [hq, cond_true, cond_false] at hr
        · cases hr
        · simp only [Bool.and_eq_true, Nat.ble_eq, Nat.blt_eq] at hq
          obtain ⟨⟨⟨hnk, hby⟩, hsz⟩, hpos⟩ := hq
          have hnk := T.beq_eq hnk
          subst hnk
          have hsz := Nat.eq_of_beq_eq_true hsz
          cases hr
          have hlv := opC_ok h.toSRel hl
          have hcv := opC_ok h.toSRel hc
          simp only [Cr] at hlv hcv
          obtain ⟨zv, h1, h2⟩ := zeroOf_ok hz
          have hzz := h2 X.E ρ st.m.length
          obtain ⟨hw, hcols⟩ := zcols_ok (E := X.E) (ρ := ρ) (N := st.m.length) hzc
          intro hq
          have q1 := le_of (hq _ List.mem_cons_self)
          have q2 := le_of (hq _ (List.mem_cons_of_mem _ List.mem_cons_self))
          simp only [T.den] at q1 q2
          generalize hN : (n.den X.E).toNat = N0 at *
          have hN' : n.den X.E = N0 := by omega
          have w1 : IntKind.i64.wrap (n.den X.E) = N0 := by rw [hN']; exact IntWalk.i64_in _ (by omega)
          have hmul : inf.bytes * N0 ≤ 65536 * 16777216 := Nat.mul_le_mul hby (by omega)
          have hb1 : ¬ (281474976710656 : Int) < inf.bytes * (N0 : Int) := by
            have h' : ((inf.bytes * N0 : Nat) : Int) = inf.bytes * (N0 : Int) := by simp
            rw [← h']; omega
          have hrun : (execOp a.eval o).run P w = .ok (.value (.slice (some ⟨w.heap.size, 0, none⟩) N0 N0)) (w.alloc (.cells ((Array.range (N0 * sz)).map fun i => zv.cells[i % zv.cells.size]!) e (0, 0))) := by
            by_cases hz0 : N0 = 0
            · subst hz0
              simp only [Int.ofNat_zero] at *
              simp [execOp, ho, hlv, hcv, Instr.makeSlice, run_underlying hu, asInt, asIntOf, typeInfo, hinf, hN']
              rw [show IntKind.i64.wrap 0 = 0 from rfl]
              have e0 : ∀ f : Nat → Value, Array.map f (Array.range 0) = #[] := fun f => by apply Array.ext'; simp
              simp [run_sizeT hs, newRow, e0]
            · have c4 : ¬ N0 * sz = 0 := by
                intro hh
                rcases Nat.mul_eq_zero.1 hh with hh | hh <;> omega
              have c1 : ¬ ((N0 : Int) < 0) := by omega
              have c2 : ¬ (n.den X.E < 0) := by omega
              simp [execOp, ho, hlv, hcv, Instr.makeSlice, run_underlying hu, asInt, asIntOf, typeInfo, hinf, w1, hb1, c1, c2]
              rw [run_sizeT hs]
              simp only [Result.andThen_ok]
              simp [c4, h1, newRow]
          refine ⟨.slice (some ⟨w.heap.size, 0, none⟩) N0 N0, _, upd ρ st.m.length ⟨w.heap.size, _, 0⟩, .inl hrun, ?_, h.mr.allocB (b := .arr (Nat.mul 2 e) n cols) (fun ρ' n' o' hn' hρ' ho' => ⟨by omega, fun hk => ⟨_, _, _, ho', fun _ => ⟨(tyw e).symm, rfl, rfl⟩, rfl, ?_, ?_⟩⟩), fun i hi => upd_ne _ _ (Nat.ne_of_lt hi), by simp⟩
          · refine ⟨by simp, by omega, _, _, by rw [hN], by omega, by simp only [maxLen]; omega, fun hk => by omega, fun hk => ?_⟩
            simp only [upd_same]
            exact ⟨trivial, by simp, trivial⟩
          · rw [hN, hw, ← hsz]; simp
          · rw [ext_all]
            intro i p r' c' hi hc'
            obtain ⟨x, hx1, hx2⟩ := hcols p r' c' hc'
            have hp := (colAt_lt hc').2.2.1
            rw [hw] at hp ⊢
            obtain ⟨v, hv1, hv2⟩ := hzz.2 p x hx1
            have hmod : (i * z.length + p) % zv.cells.size = p := by
              rw [hzz.1, Nat.mul_comm, Nat.mul_add_mod, Nat.mod_eq_of_lt hp]
            have hlt : i * z.length + p < N0 * sz := by
              rw [hsz]; exact elem_lt (by omega) hp
            rw [← hx2 v hv2]
            simp only [Array.getElem?_map, Array.getElem?_range, hlt, if_true, Option.map_some, hmod]
            rw [getElem!_def, hv1]
      · cases hr
    · cases hr
  · cases hr
end ops
end Go.Sy
