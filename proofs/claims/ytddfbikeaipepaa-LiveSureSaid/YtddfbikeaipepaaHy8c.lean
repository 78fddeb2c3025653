/- Part 8c of a checked reader of Go texts in their model form: it runs a function at terms in the place of numbers, and each part proves that its answers hold of the model. -/
import Derived.Test.YtddfbikeaipepaaHy8b
namespace Go.Sy

/-! rows: writing -/
def updCol (f : Col → Nat → Option Col) : List Col → Nat → Option (List Col)
  | [], _ => none
  | c :: l, p => bif Nat.blt p c.m then (f c p).map (· :: l) else (updCol f l (p - c.m)).map (c :: ·)
theorem updCol_at [Fs] {f : Col → Nat → Option Col} (hf : ∀ c p d, f c p = some d → d.m = c.m) : ∀ {cols cols' : List Col} {p : Nat}, updCol f cols p = some cols' →
    ∃ c r d, colAt cols p = some (c, r) ∧ f c r = some d ∧ wid cols' = wid cols ∧ ∀ p', colAt cols' p' = if p - r ≤ p' ∧ p' < p - r + c.m then some (d, p' - (p - r)) else colAt cols p' := by
  intro cols
  induction cols with
  | nil => intro cols' p h; simp [updCol] at h
  | cons c l ih =>
    intro cols' p h
    simp only [updCol] at h
    cases hp : Nat.blt p c.m <;> simp only [hp, cond_true, cond_false, Option.map_eq_some_iff] at h
    · obtain ⟨l', h1, rfl⟩ := h
      obtain ⟨c1, r, d, h2, h3, h4, h5⟩ := ih h1
      have h0 : ¬ p < c.m := by rw [← Nat.blt_eq, hp]; exact Bool.false_ne_true
      have hr := (colAt_lt h2).2.1
      refine ⟨c1, r, d, by simp only [colAt, hp, cond_false, h2], h3, by simp only [wid, h4], fun p' => ?_⟩
      simp only [colAt]
      cases hp' : Nat.blt p' c.m <;> simp only [cond_true, cond_false]
      · have h0' : ¬ p' < c.m := by rw [← Nat.blt_eq, hp']; exact Bool.false_ne_true
        rw [h5]
        by_cases hc : p - c.m - r ≤ p' - c.m ∧ p' - c.m < p - c.m - r + c1.m
        · rw [if_pos hc, if_pos (by omega)]; congr 2; omega
        · rw [if_neg hc, if_neg (by omega)]
      · rw [Nat.blt_eq] at hp'
        rw [if_neg (by omega)]
    · obtain ⟨d, h1, rfl⟩ := h
      have hm := hf _ _ _ h1
      rw [Nat.blt_eq] at hp
      refine ⟨c, p, d, by simp only [colAt, show Nat.blt p c.m = true by rw [Nat.blt_eq]; exact hp, cond_true], h1, by simp only [wid, hm], fun p' => ?_⟩
      simp only [colAt, hm, Nat.sub_self, Nat.zero_le, true_and, Nat.zero_add, Nat.sub_zero]
      cases hp' : Nat.blt p' c.m <;> simp only [cond_true, cond_false]
      · rw [if_neg (by rw [← Nat.blt_eq, hp']; exact Bool.false_ne_true)]
      · rw [Nat.blt_eq] at hp'; rw [if_pos hp']
def putCol (pc : Pc) (i r : T) (y : C) (c : Col) (r0 : Nat) : Option Col :=
  bif isZ r || below pc r (.lit ((c.m - r0 : Nat))) then
    match c.k, y with
    | .i k, .int k' t => if k = k' then some { c with s := .upd c.s (ixT i c.m r0 r) t } else none
    | .b, .bool t => some { c with s := .upd c.s (ixT i c.m r0 r) t }
    | _, _ => none
  else none
def wrA (pc : Pc) (cols : List Col) (i : T) (o : Nat) (r : T) (y : C) : Option (List Col) := updCol (putCol pc i r y) cols o
section
variable {E : Env} {ρ : Nat → Rb} {N : Nat}
theorem putCol_ok [Fs] {pc : Pc} (hp : pcOk E pc) {i r : T} {y : C} {c d : Col} {r0 : Nat} (h : putCol pc i r y c r0 = some d) (hr0 : r0 < c.m) (_ : 0 ≤ r.den E) {v : Value} (hv : Cr E ρ N y v) :
    d.m = c.m ∧ d.k = c.k ∧ r0 + (r.den E).toNat < c.m ∧ ∃ t : T, v = c.k.val (t.den E) ∧ d.s = .upd c.s (ixT i c.m r0 r) t := by
  unfold putCol at h
  cases hb : isZ r || below pc r (.lit ((c.m - r0 : Nat))) <;> simp only [hb, cond_true, cond_false] at h
  · cases h
  · have hlt : r0 + (r.den E).toNat < c.m := by
      rw [Bool.or_eq_true] at hb
      rcases hb with hb | hb
      · rw [isZ_den hb]; simpa using hr0
      · have := below_ok hp hb
        simp only [T.den] at this
        omega
    split at h
    · rename_i k k' t hk
      split at h
      · rename_i he
        subst he; cases h
        refine ⟨rfl, rfl, hlt, t, ?_, rfl⟩
        rw [hk]; exact hv
      · cases h
    · rename_i t hk
      cases h
      refine ⟨rfl, rfl, hlt, t, ?_, rfl⟩
      rw [hk]; exact hv
    · cases h
theorem putCol_m [Fs] {pc : Pc} {i r : T} {y : C} {c d : Col} {r0 : Nat} (h : putCol pc i r y c r0 = some d) : d.m = c.m := by
  unfold putCol at h
  cases hb : isZ r || below pc r (.lit ((c.m - r0 : Nat))) <;> simp only [hb, cond_true, cond_false] at h
  · cases h
  · split at h
    · split at h
      · cases h; rfl
      · cases h
    · cases h; rfl
    · cases h
theorem row_inj [Fs] {z i i' p p' : Nat} (hp : p < z) (hp' : p' < z) (h : i * z + p = i' * z + p') : i = i' ∧ p = p' := by
  have key : ∀ {i i' p p' : Nat}, p < z → i < i' → i * z + p ≠ i' * z + p' := by
    intro i i' p p' hp hlt he
    have : (i + 1) * z ≤ i' * z := Nat.mul_le_mul_right _ hlt
    rw [Nat.add_mul] at this; omega
  rcases Nat.lt_trichotomy i i' with hlt | rfl | hlt
  · exact absurd h (key hp hlt)
  · exact ⟨rfl, by omega⟩
  · exact absurd h.symm (key hp' hlt)
theorem wrA_ok [Fs] {pc : Pc} (hp : pcOk E pc) {cols cols' : List Col} {n : Int} {cs : Array Value} (hc : Cells E n cols cs) {i r : T} {o : Nat} {y : C} (h : wrA pc cols i o r y = some cols') (h0 : 0 ≤ i.den E) (h2 : 0 ≤ r.den E)
    {v : Value} (hv : Cr E ρ N y v) (hsz : (i.den E).toNat * wid cols + (o + (r.den E).toNat) < cs.size) :
    wid cols' = wid cols ∧ o + (r.den E).toNat < wid cols ∧ Cells E n cols' (cs.setIfInBounds ((i.den E).toNat * wid cols + (o + (r.den E).toNat)) v) := by
  obtain ⟨c, r0, d, h3, h4, h5, h6⟩ := updCol_at (fun _ _ _ h => putCol_m h) h
  obtain ⟨g1, g2, g3, g4⟩ := colAt_lt h3
  obtain ⟨e1, e2, e3, t, e4, e5⟩ := putCol_ok hp h4 g1 h2 hv
  have hcol := colAt_add h3 e3
  have g5 := (colAt_lt hcol).2.2.1
  refine ⟨h5, g5, fun i' p' r' c' hi' hc' => ?_⟩
  rw [h5]
  rw [h6] at hc'
  split at hc'
  · rename_i hin
    cases hc'
    have hpw : p' < wid cols := by
      have := colAt_add h3 (k := p' - o) (by omega)
      by_cases hpo : p' ≤ o
      · omega
      · have := (colAt_lt this).2.2.1; omega
    have hcp : colAt cols p' = some (c, p' - (o - r0)) := by
      by_cases hpo : o ≤ p'
      · have := colAt_add h3 (k := p' - o) (by omega)
        rw [show o + (p' - o) = p' by omega] at this
        rw [this]; congr 2; omega
      · -- before the place, in the same column
        have key : ∀ {cols : List Col} {o p' r0 : Nat} {c : Col}, colAt cols o = some (c, r0) → o - r0 ≤ p' → p' < o → colAt cols p' = some (c, p' - (o - r0)) := by
          intro cols
          induction cols with
          | nil => intro o p' r0 c h; simp [colAt] at h
          | cons d l ih =>
            intro o p' r0 c h ha hb
            simp only [colAt] at h ⊢
            cases hq : Nat.blt o d.m <;> simp only [hq, cond_true, cond_false] at h
            · have h0 : ¬ o < d.m := by rw [← Nat.blt_eq, hq]; exact Bool.false_ne_true
              have hr := (colAt_lt h).2.1
              have : Nat.blt p' d.m = false := by rw [← Bool.not_eq_true, Nat.blt_eq]; omega
              rw [this, cond_false, ih h (by omega) (by omega)]
              congr 2; omega
            · cases h
              rw [Nat.blt_eq] at hq
              have : Nat.blt p' d.m = true := by rw [Nat.blt_eq]; omega
              rw [this, cond_true]; congr 2; omega
        exact key h3 hin.1 (by omega)
    have hold := hc i' p' _ c hi' hcp
    rw [e1, e2, e5]
    simp only [T.row, ixT_den]
    rw [← ix_nat h0 h2]
    by_cases hsame : i' = (i.den E).toNat ∧ p' - (o - r0) = r0 + (r.den E).toNat
    · obtain ⟨rfl, hq⟩ := hsame
      rw [if_pos (by rw [hq])]
      have hpe : p' = o + (r.den E).toNat := by omega
      rw [hpe, Array.getElem?_setIfInBounds]
      simp [hsz, e4]
    · rw [if_neg]
      · rw [Array.getElem?_setIfInBounds_ne]
        · exact hold
        · intro he
          obtain ⟨q1, q2⟩ := row_inj g5 hpw he
          exact hsame ⟨q1.symm, by omega⟩
      · intro he
        have he' : i' * c.m + (p' - (o - r0)) = (i.den E).toNat * c.m + (r0 + (r.den E).toNat) := by exact_mod_cast he
        obtain ⟨q1, q2⟩ := row_inj (by omega) e3 he'
        exact hsame ⟨q1, q2⟩
  · rename_i hin
    have hp' := (colAt_lt hc').2.2.1
    rw [Array.getElem?_setIfInBounds_ne]
    · exact hc i' p' r' c' hi' hc'
    · intro he
      obtain ⟨q1, q2⟩ := row_inj g5 hp' he
      exact hin (by omega)
def wrAs (pc : Pc) (i : T) : List Col → Nat → List C → Option (List Col)
  | cols, _, [] => some cols
  | cols, o, y :: ys => match wrA pc cols i o (.lit 0) y with
    | some cols' => wrAs pc i cols' (o + 1) ys
    | none => none
/-- Values laid over cells. -/
def lay (cs : Array Value) (b : Nat) : List Value → Array Value
  | [] => cs
  | v :: vs => lay (cs.setIfInBounds b v) (b + 1) vs
theorem lay_size [Fs] : ∀ {vs : List Value} {cs : Array Value} {b : Nat}, (lay cs b vs).size = cs.size := by
  intro vs
  induction vs with
  | nil => intro cs b; rfl
  | cons v vs ih => intro cs b; simp only [lay, ih, Array.size_setIfInBounds]
theorem lay_get [Fs] : ∀ {vs : List Value} {cs : Array Value} {b q : Nat}, b + vs.length ≤ cs.size → (lay cs b vs)[q]? = if b ≤ q ∧ q < b + vs.length then vs[q - b]? else cs[q]? := by
  intro vs
  induction vs with
  | nil => intro cs b q _; simp only [lay, List.length_nil]; rw [if_neg (by omega)]
  | cons v vs ih =>
    intro cs b q hb
    simp only [List.length_cons] at hb
    simp only [lay]
    rw [ih (by simp; omega)]
    by_cases h1 : b + 1 ≤ q ∧ q < b + 1 + vs.length
    · rw [if_pos h1, if_pos (by simp; omega), show q - b = (q - (b + 1)) + 1 by omega]; simp
    · rw [if_neg h1]
      by_cases h2 : q = b
      · subst h2
        rw [if_pos (by simp)]
        simp [show q < cs.size by omega]
      · rw [if_neg (by simp; omega), Array.getElem?_setIfInBounds_ne (fun e => h2 e.symm)]
theorem lay_eq [Fs] {cs : Array Value} {b : Nat} {vs : Array Value} (h : b + vs.size ≤ cs.size) : lay cs b vs.toList = (cs.toList.take b).toArray ++ vs ++ (cs.toList.drop (b + vs.size)).toArray := by
  apply Array.ext_getElem?
  intro q
  rw [lay_get (by simpa using h)]
  simp only [Array.length_toList]
  by_cases h1 : b ≤ q ∧ q < b + vs.size
  · rw [if_pos h1, Array.getElem?_append, if_pos (by simp; omega), Array.getElem?_append, if_neg (by simp; omega)]
    have e : q - (cs.toList.take b).toArray.size = q - b := by simp; omega
    rw [e]; simp
  · rw [if_neg h1]
    by_cases h2 : q < b
    · rw [Array.getElem?_append, if_pos (by simp; omega), Array.getElem?_append, if_pos (by simp; omega)]
      simp [h2]
    · rw [Array.getElem?_append, if_neg (by simp; omega)]
      simp only [List.getElem?_toArray, List.getElem?_drop]
      rw [show b + vs.size + (q - ((cs.toList.take b).toArray ++ vs).size) = q by simp; omega]
      simp
theorem wrAs_ok [Fs] {pc : Pc} (hp : pcOk E pc) {n : Int} {i : T} (h0 : 0 ≤ i.den E) : ∀ {ys : List C} {vs : List Value} {cols cols' : List Col} {cs : Array Value} {o : Nat}, wrAs pc i cols o ys = some cols' → Cells E n cols cs → vs.length = ys.length →
    (∀ (j : Nat) (y : C), ys[j]? = some y → ∃ v, vs[j]? = some v ∧ Cr E ρ N y v) → (i.den E).toNat * wid cols + o + ys.length ≤ cs.size →
    wid cols' = wid cols ∧ Cells E n cols' (lay cs ((i.den E).toNat * wid cols + o) vs) := by
  intro ys
  induction ys with
  | nil =>
    intro vs cols cols' cs o h hc hl _ _
    cases h
    cases vs with
    | nil => exact ⟨rfl, hc⟩
    | cons => simp at hl
  | cons y ys ih =>
    intro vs cols cols' cs o h hc hl hv hsz
    cases vs with
    | nil => simp at hl
    | cons v vs =>
      simp only [wrAs] at h
      split at h
      · rename_i cols1 h1
        obtain ⟨v', hv1, hv2⟩ := hv 0 y rfl
        simp at hv1; subst hv1
        simp only [List.length_cons] at hsz
        obtain ⟨g1, g2, g3⟩ := wrA_ok hp hc h1 h0 (by simp [T.den]) hv2 (by simp [T.den]; omega)
        simp only [T.den, Int.toNat_zero, Nat.add_zero] at g3
        obtain ⟨k1, k2⟩ := ih h g3 (by simpa using hl) (fun j z hz => by simpa using hv (j + 1) z (by simpa using hz)) (by rw [g1]; simp; omega)
        refine ⟨k1.trans g1, ?_⟩
        rw [g1] at k2
        simp only [lay]
        rw [show (i.den E).toNat * wid cols + o + 1 = (i.den E).toNat * wid cols + (o + 1) by omega]
        exact k2
      · cases h
end
def evStoreA (P : Program) (st : St) (t : TypeId) (x y : Operand) : Option OpR :=
  match opC st x, cellsOf (opA st y), sizeT P t with
  | some q, some ys, some n => match findA st q with
    | some (b, ty, k, cols, i, o, r) => bif Nat.beq n ys.length && Nat.ble (o + n) (wid cols) && Nat.beq (Nat.mod ty 2) 0 then
        match ys with
        | [y] => match wrA st.pc cols i o r y with
          | some cols' => some ⟨.a .dead, st.m.set b (.arr ty k cols'), []⟩
          | none => none
        | ys => bif isZ r then match wrAs st.pc i cols o ys with
          | some cols' => some ⟨.a .dead, st.m.set b (.arr ty k cols'), []⟩
          | none => none
          else none
      else none
    | none => none
  | _, _, _ => none
section ops
variable {P : Program} {X : Cx} {ρ : Nat → Rb} {st : St} {a : Act} {w : World} {o : Oper}
theorem elem_lt [Fs] {i n z p : Nat} (hi : i < n) (hp : p < z) : i * z + p < n * z := by
  have : (i + 1) * z ≤ n * z := Nat.mul_le_mul_right _ hi
  rw [Nat.add_mul] at this; omega
theorem elem_le [Fs] {i n z p : Nat} (hi : i < n) (hp : p ≤ z) : i * z + p ≤ n * z := by
  have : (i + 1) * z ≤ n * z := Nat.mul_le_mul_right _ hi
  rw [Nat.add_mul] at this; omega
theorem evStoreA_ok [Fs] (h : Rel X ρ st a w) {t : TypeId} {x y : Operand} (ho : o.op = .store t x y) {r : OpR} (hr : evStoreA P st t x y = some r) : OpOk P X ρ st a w o r := by
  unfold evStoreA at hr
  split at hr
  · rename_i q ys n hq hys hs
    have hy := cellsOf_ok hys (opA_ok h.toSRel y)
    have h1c : ∀ v ∈ (a.eval y).cells, v.oneCell' = true := hy.all fun _ _ => Cr_one
    split at hr
    · rename_i b ty k cols i o' r' hf
      obtain ⟨hm, ⟨cs, tt, fr, hg, hro', hsz, hle, hcs⟩, hb, h0, h1, h2, hv⟩ := findA_ok h hq hf
      cases hn : Nat.beq n ys.length && Nat.ble (o' + n) (wid cols) && Nat.beq (Nat.mod ty 2) 0 <;> simp only [hn, cond_true, cond_false] at hr
      · cases hr
      · rw [Bool.and_eq_true] at hn
        obtain ⟨hn, hro⟩ := hn
        obtain ⟨rfl, rfl, ho0⟩ := hro' (ro_of hro)
        rw [ho0, Nat.zero_add] at hle hv
        rw [ho0, ext_all] at hcs
        rw [Bool.and_eq_true, Nat.ble_eq] at hn
        have hnl := Nat.eq_of_beq_eq_true hn.1
        have hvs : (a.eval y).cells.size = n := by rw [hy.1, hnl]
        have hin : (i.den X.E).toNat < (k.den X.E).toNat := by omega
        -- what the store does
        have fin : ∀ (cols' : List Col) (off : Nat), wid cols' = wid cols → (execOp a.eval o).run P w = .ok .skip (w.setRow (ρ b).g (lay cs off (a.eval y).cells.toList)) →
            Cells X.E (k.den X.E) cols' (lay cs off (a.eval y).cells.toList) → OpOk P X ρ st a w o ⟨.a .dead, st.m.set b (.arr ty k cols'), []⟩ := by
          intro cols' off hw hrun hc'
          refine fun _ => ⟨undef, _, ρ, .inr ⟨hrun, rfl⟩, trivial, h.mr.setB hm (show 0 < k.den X.E by omega) (ro_of hro) (ro_of hro) hg (show 0 < k.den X.E by omega) (fun o ho => ⟨by omega, fun _ => ⟨_, _, _, ho, fun _ => ⟨rfl, rfl, ho0⟩, by rw [lay_size]; exact hsz, by rw [lay_size, hw, ho0, Nat.zero_add]; exact hle, by rw [ho0, ext_all]; exact hc'⟩⟩), fun _ _ => rfl, by simp⟩
        have run : ∀ off, off = (i.den X.E).toNat * wid cols + o' + (r'.den X.E).toNat → off + n ≤ cs.size → (execOp a.eval o).run P w = .ok .skip (w.setRow (ρ b).g (lay cs off (a.eval y).cells.toList)) := by
          intro off hoff hle'
          rw [← hoff] at hv
          rw [lay_eq (by rw [hvs]; exact hle'), hvs]
          simp [execOp, ho, hv, Instr.storeAt, Instr.sureAddr, run_storeVar_at hg hs hvs hle' h1c]
        split at hr
        · rename_i y1
          split at hr
          · rename_i cols' hw
            cases hr
            obtain ⟨v1, hv1, hv2⟩ := hy.2 0 y1 rfl
            have hn1 : n = 1 := by rw [hnl]; rfl
            have hsz1 : (i.den X.E).toNat * wid cols + (o' + (r'.den X.E).toNat) < cs.size := by
              obtain ⟨c, r0, d, h3, h4, h5, h6⟩ := updCol_at (fun _ _ _ h => putCol_m h) hw
              obtain ⟨_, _, e3, _⟩ := putCol_ok h.pc h4 (colAt_lt h3).1 h2 hv2
              have g5 := (colAt_lt (colAt_add h3 e3)).2.2.1
              have := elem_le (z := wid cols) (p := o' + (r'.den X.E).toNat + 1) hin (by omega)
              omega
            obtain ⟨g1, g2, g3⟩ := wrA_ok h.pc hcs hw h0 h2 hv2 hsz1
            have hcl : (a.eval y).cells.toList = [v1] := by
              have hl : (a.eval y).cells.toList.length = 1 := by rw [Array.length_toList, hvs, hn1]
              match hL : (a.eval y).cells.toList, hl with
              | [u], _ =>
                have : (a.eval y).cells[0]? = some u := by rw [← Array.getElem?_toList, hL]; rfl
                rw [this] at hv1; cases hv1; rfl
            refine fin cols' ((i.den X.E).toNat * wid cols + (o' + (r'.den X.E).toNat)) g1 (run _ (by omega) (by omega)) ?_
            rw [hcl]; exact g3
          · cases hr
        · cases hz : isZ r' <;> simp only [hz, cond_true, cond_false] at hr
          · cases hr
          · split at hr
            · rename_i cols' hw
              cases hr
              have hz0 := isZ_den (E := X.E) hz
              have hsz1 : (i.den X.E).toNat * wid cols + o' + n ≤ cs.size := by
                have := elem_le (z := wid cols) (p := o' + n) hin hn.2
                omega
              obtain ⟨g1, g2⟩ := wrAs_ok (ρ := ρ) (N := st.m.length) h.pc h0 hw hcs (vs := (a.eval y).cells.toList) (by simpa using hy.1) (fun j z hz => by simpa using hy.2 j z hz) (by rw [← hnl]; exact hsz1)
              exact fin cols' _ g1 (run _ (by rw [hz0]; simp) hsz1) g2
            · cases hr
    · cases hr
  · cases hr
end ops
end Go.Sy
