/- Part 13 of a checked reader of Go texts in their model form: it runs a function at terms in the place of numbers, and each part proves that its answers hold of the model. -/
import Derived.Test.YtjblhcepokioeaaKy12b
namespace Go.Sy

/-! two ways made one: 'c': which of them it was -/
def mgC (c : T) (x y : C) : C := bif x.beq y then x else match pickC c x y with
  | some z => z
  | none => .any
def mgCs (c : T) : List C → List C → List C
  | x :: xs, y :: ys => mgC c x y :: mgCs c xs ys
  | _, _ => []
def mgA (c : T) : A → A → A
  | .c x, .c y => bif x.beq y then .c x else match pickC c x y with
    | some z => .c z
    | none => .dead
  | .agg xs, .agg ys => bif xs.length == ys.length then .agg (mgCs c xs ys) else .dead
  | .rows xs, .rows ys => bif listB Col.beq xs ys then .rows xs else .dead
  | _, _ => .dead
def mgAs (c : T) : List A → List A → List A
  | x :: xs, y :: ys => mgA c x y :: mgAs c xs ys
  | _, _ => []
def mgL (c : T) : L → L → L
  | .a x, .a y => .a (mgA c x y)
  | .tup xs, .tup ys => bif xs.length == ys.length then .tup (mgAs c xs ys) else .a .dead
  | .gd d x, .gd e y => bif d.beq e && x.beq y then .gd d x else .a .dead
  | _, _ => .a .dead
def mgCols (c : T) : List Col → List Col → Option (List Col)
  | [], [] => some []
  | x :: xs, y :: ys => bif decide (x.k = y.k) && Nat.beq x.m y.m then (mgCols c xs ys).map ({ x with s := mkIteR c x.s y.s } :: ·) else none
  | _, _ => none
def mgB0 (c : T) : Bk → Bk → Bk
  | .cells t xs, .cells u ys => bif t == u && xs.length == ys.length then .cells t (mgCs c xs ys) else .dead
  | .arr t n xs, .arr u k ys => bif t == u then match mgCols c xs ys with
    | some zs => .arr t (mkIte c n k) zs
    | none => .dead
    else .dead
  | _, _ => .dead
def mgB (c : T) (x y : Bk) : Bk := bif x.beq y then x else mgB0 c x y
def mgM (c : T) : List Bk → List Bk → List Bk
  | x :: xs, y :: ys => mgB c x y :: mgM c xs ys
  | [], ys => ys.map fun _ => .dead
  | xs, [] => xs.map fun _ => .dead

section
variable {E : Env} {ρ : Nat → Rb} {n : Nat} {c : T}
/-- The one that it was. -/
def sel {α : Type} (c : T) (E : Env) (x y : α) : α := if c.tr E = true then x else y
theorem mgC_ok [Fs] {x y : C} {v : Value} (h : Cr E ρ n (sel c E x y) v) : Cr E ρ n (mgC c x y) v := by
  unfold mgC
  cases hb : x.beq y
  · simp only [cond_false]
    split
    · rename_i z hz
      have := pickC_ok (E := E) (ρ := ρ) (n := n) (u := v) (v := v) hz (fun ht => by simpa [sel, ht] using h) (fun ht => by simpa [sel, ht] using h)
      simpa using this
    · exact Cr_one h
  · have := C.beq_eq hb
    subst this
    simpa [sel] using h
theorem mgCs_length [Fs] : ∀ {xs ys : List C}, xs.length = ys.length → (mgCs c xs ys).length = xs.length := by
  intro xs
  induction xs with
  | nil => intro ys h; rfl
  | cons x xs ih => intro ys h; cases ys with
    | nil => simp at h
    | cons y ys => simp only [mgCs, List.length_cons]; rw [ih (by simpa using h)]
theorem mgCs_get [Fs] : ∀ {xs ys : List C} {i : Nat} {z : C}, (mgCs c xs ys)[i]? = some z → ∃ x y, xs[i]? = some x ∧ ys[i]? = some y ∧ z = mgC c x y := by
  intro xs
  induction xs with
  | nil => intro ys i z h; simp [mgCs] at h
  | cons x xs ih => intro ys i z h; cases ys with
    | nil => simp [mgCs] at h
    | cons y ys => cases i with
      | zero => simp [mgCs] at h; exact ⟨x, y, rfl, rfl, h.symm⟩
      | succ i => simp [mgCs] at h; obtain ⟨x', y', h1, h2, h3⟩ := ih h; exact ⟨x', y', by simpa using h1, by simpa using h2, h3⟩
theorem mgCs_ok [Fs] {xs ys : List C} {vs : Array Value} (hl : xs.length = ys.length) (h : F2 (Cr E ρ n) (sel c E xs ys) vs) : F2 (Cr E ρ n) (mgCs c xs ys) vs := by
  have hl' : (sel c E xs ys).length = xs.length := by unfold sel; split <;> omega
  refine ⟨by rw [mgCs_length hl, h.1, hl'], fun i z hz => ?_⟩
  obtain ⟨x, y, h1, h2, rfl⟩ := mgCs_get hz
  obtain ⟨v, h3, h4⟩ := h.2 i (sel c E x y) (by unfold sel; split <;> assumption)
  exact ⟨v, h3, mgC_ok h4⟩
theorem mgA_ok [Fs] {x y : A} {v : Value} (h : Ar E ρ n (sel c E x y) v) : Ar E ρ n (mgA c x y) v := by
  cases x with
  | c x => cases y with
    | c y =>
      have h' : Cr E ρ n (sel c E x y) v := by unfold sel at h ⊢; split at h <;> simp_all [Ar]
      simp only [mgA]
      cases hb : x.beq y
      · simp only [cond_false]
        split
        · rename_i z hz
          have := pickC_ok (E := E) (ρ := ρ) (n := n) (u := v) (v := v) hz (fun ht => by simpa [sel, ht] using h') (fun ht => by simpa [sel, ht] using h')
          show Cr E ρ n z v
          simpa using this
        · trivial
      · have := C.beq_eq hb
        subst this
        show Cr E ρ n x v
        simpa [sel] using h'
    | _ => trivial
  | agg xs => cases y with
    | agg ys =>
      simp only [mgA]
      cases hl : xs.length == ys.length
      · trivial
      · rw [beq_iff_eq] at hl
        have : ∃ cs, v = .agg cs ∧ F2 (Cr E ρ n) (sel c E xs ys) cs := by
          unfold sel at h ⊢; split at h <;> simp_all [Ar]
        obtain ⟨cs, rfl, h2⟩ := this
        exact ⟨cs, rfl, mgCs_ok hl h2⟩
    | _ => trivial
  | rows xs => cases y with
    | rows ys =>
      simp only [mgA]
      cases hl : listB Col.beq xs ys
      · trivial
      · have e := listB_eq (fun _ _ => Col.beq_eq) hl
        subst e
        have : sel c E (A.rows xs) (A.rows xs) = .rows xs := by unfold sel; split <;> rfl
        rw [this] at h
        exact h
    | _ => trivial
  | dead => cases y <;> trivial
theorem mgAs_length [Fs] : ∀ {xs ys : List A}, xs.length = ys.length → (mgAs c xs ys).length = xs.length := by
  intro xs
  induction xs with
  | nil => intro ys h; rfl
  | cons x xs ih => intro ys h; cases ys with
    | nil => simp at h
    | cons y ys => simp only [mgAs, List.length_cons]; rw [ih (by simpa using h)]
theorem mgAs_get [Fs] : ∀ {xs ys : List A} {i : Nat} {z : A}, (mgAs c xs ys)[i]? = some z → ∃ x y, xs[i]? = some x ∧ ys[i]? = some y ∧ z = mgA c x y := by
  intro xs
  induction xs with
  | nil => intro ys i z h; simp [mgAs] at h
  | cons x xs ih => intro ys i z h; cases ys with
    | nil => simp [mgAs] at h
    | cons y ys => cases i with
      | zero => simp [mgAs] at h; exact ⟨x, y, rfl, rfl, h.symm⟩
      | succ i => simp [mgAs] at h; obtain ⟨x', y', h1, h2, h3⟩ := ih h; exact ⟨x', y', by simpa using h1, by simpa using h2, h3⟩
theorem mgL_ok [Fs] {x y : L} {v : Value} (h : Lr E ρ n (sel c E x y) v) : Lr E ρ n (mgL c x y) v := by
  cases x with
  | a x => cases y with
    | a y => exact mgA_ok (by unfold sel at h ⊢; split at h <;> simp_all [Lr])
    | _ => trivial
  | tup xs => cases y with
    | tup ys =>
      simp only [mgL]
      cases hl : xs.length == ys.length
      · trivial
      · rw [beq_iff_eq] at hl
        have : ∃ cs, v = .tuple cs ∧ F2 (Ar E ρ n) (sel c E xs ys) cs := by
          unfold sel at h ⊢; split at h <;> simp_all [Lr]
        obtain ⟨cs, rfl, h2⟩ := this
        have hl' : (sel c E xs ys).length = xs.length := by unfold sel; split <;> omega
        refine ⟨cs, rfl, by rw [mgAs_length hl, h2.1, hl'], fun i z hz => ?_⟩
        obtain ⟨x, y, h3, h4, rfl⟩ := mgAs_get hz
        obtain ⟨v, h5, h6⟩ := h2.2 i (sel c E x y) (by unfold sel; split <;> assumption)
        exact ⟨v, h5, mgA_ok h6⟩
    | _ => trivial
  | gd d x => cases y with
    | gd e y =>
      simp only [mgL]
      cases hb : d.beq e && x.beq y
      · trivial
      · rw [Bool.and_eq_true] at hb
        have h1 := T.beq_eq hb.1
        have h2 := A.beq_eq hb.2
        subst h1; subst h2
        simpa [sel] using h
    | _ => trivial
theorem mgCols_ok [Fs] : ∀ {xs ys zs : List Col}, mgCols c xs ys = some zs → wid zs = wid (sel c E xs ys) ∧ ∀ p, (colAt zs p).map (fun q => (q.1.k, q.1.m, q.1.s.row E, q.2)) = (colAt (sel c E xs ys) p).map (fun q => (q.1.k, q.1.m, q.1.s.row E, q.2)) := by
  intro xs
  induction xs with
  | nil => intro ys zs h; cases ys <;> simp [mgCols] at h; subst h; exact ⟨by simp [sel], fun p => by simp [sel]⟩
  | cons x xs ih =>
    intro ys zs h
    cases ys with
    | nil => simp [mgCols] at h
    | cons y ys =>
      simp only [mgCols] at h
      cases hb : decide (x.k = y.k) && Nat.beq x.m y.m <;> simp only [hb, cond_true, cond_false] at h
      · cases h
      · rw [Option.map_eq_some_iff] at h
        obtain ⟨l, h1, rfl⟩ := h
        rw [Bool.and_eq_true, decide_eq_true_eq] at hb
        have hm := Nat.eq_of_beq_eq_true hb.2
        obtain ⟨g1, g2⟩ := ih h1
        have e : sel c E (x :: xs) (y :: ys) = sel c E x y :: sel c E xs ys := by unfold sel; split <;> rfl
        have em : (sel c E x y).m = x.m := by unfold sel; split <;> simp [hm]
        have ek : (sel c E x y).k = x.k := by unfold sel; split <;> simp [hb.1]
        have es : (mkIteR c x.s y.s).row E = (sel c E x y).s.row E := by rw [mkIteR_row]; unfold sel; split <;> rfl
        rw [e]
        refine ⟨by simp only [wid, g1, em], fun p => ?_⟩
        simp only [colAt, em]
        cases Nat.blt p x.m <;> simp only [cond_true, cond_false]
        · exact g2 _
        · simp only [Option.map_some, em, ek, es]
theorem Br.same_cols [Fs] {t : TypeId} {k k' : T} {xs ys : List Col} {z : Rb} {o : Option Obj} (hk : k'.den E = k.den E) (hw : wid ys = wid xs) (hc : ∀ p, (colAt ys p).map (fun q => (q.1.k, q.1.m, q.1.s.row E, q.2)) = (colAt xs p).map (fun q => (q.1.k, q.1.m, q.1.s.row E, q.2)))
    (h : Br E ρ n z (.arr t k xs) o) : Br E ρ n z (.arr t k' ys) o := by
  simp only [Br, hk, hw] at h ⊢
  refine ⟨h.1, fun h0 => ?_⟩
  obtain ⟨cs, t, fr, h1, hro, h2, h3, h4⟩ := h.2 h0
  refine ⟨cs, t, fr, h1, hro, h2, h3, fun i p r d hi hd => ?_⟩
  have := hc p
  rw [hd] at this
  simp only [Option.map_some] at this
  obtain ⟨⟨d', r'⟩, h5, h6⟩ := Option.map_eq_some_iff.1 this.symm
  simp only [Prod.mk.injEq] at h6
  obtain ⟨e1, e2, e3, rfl⟩ := h6
  rw [hw, ← e1, ← e2, ← e3]
  exact h4 i p r' d' hi h5
theorem mgB0_ok [Fs] {x y : Bk} {z : Rb} {o : Option Obj} (h : Br E ρ n z (sel c E x y) o) : Br E ρ n z (mgB0 c x y) o := by
  cases x with
  | cells t xs => cases y with
    | cells u ys =>
      simp only [mgB0]
      cases hb : t == u && xs.length == ys.length
      · trivial
      · rw [Bool.and_eq_true, beq_iff_eq, beq_iff_eq] at hb
        obtain ⟨rfl, hl⟩ := hb
        have : ∃ cs, o = some (.cells cs (Nat.div t 2) (0, 0)) ∧ F2 (Cr E ρ n) (sel c E xs ys) cs := by
          unfold sel at h ⊢; split at h <;> simp_all [Br]
        obtain ⟨cs, h1, h2⟩ := this
        exact ⟨cs, h1, mgCs_ok hl h2⟩
    | _ => trivial
  | arr t k xs => cases y with
    | arr u k' ys =>
      simp only [mgB0]
      cases hb : t == u
      · trivial
      · rw [beq_iff_eq] at hb
        subst hb
        simp only [cond_true]
        split
        · rename_i zs hz
          obtain ⟨g1, g2⟩ := mgCols_ok (E := E) hz
          have e : sel c E (Bk.arr t k xs) (Bk.arr t k' ys) = .arr t (sel c E k k') (sel c E xs ys) := by unfold sel; split <;> rfl
          rw [e] at h
          refine Br.same_cols ?_ g1 g2 h
          rw [den_ite]; unfold sel; split <;> rfl
        · trivial
    | _ => trivial
  | dead => cases y <;> trivial
theorem mgB_ok [Fs] {x y : Bk} {z : Rb} {o : Option Obj} (h : Br E ρ n z (sel c E x y) o) : Br E ρ n z (mgB c x y) o := by
  unfold mgB
  cases hb : x.beq y
  · exact mgB0_ok h
  · have := Bk.beq_eq hb
    subst this
    simpa [sel] using h
theorem mgB_ro [Fs] {x y : Bk} (h : (mgB c x y).there E) (hr : (mgB c x y).ro = false) : (sel c E x y).ro = false := by
  unfold mgB at h hr
  cases hb : x.beq y <;> simp only [hb, cond_true, cond_false] at h hr
  · cases x with
    | cells t xs => cases y with
      | cells u ys =>
        simp only [mgB0] at h hr
        cases hb : t == u && xs.length == ys.length <;> simp only [hb, cond_true, cond_false] at h hr
        · exact h.elim
        · rw [Bool.and_eq_true] at hb
          have e := beq_iff_eq.1 hb.1
          subst e
          unfold sel; split <;> exact hr
      | _ => exact h.elim
    | arr t k xs => cases y with
      | arr u k' ys =>
        simp only [mgB0] at h hr
        cases hb : t == u <;> simp only [hb, cond_true, cond_false] at h hr
        · exact h.elim
        · have e := beq_iff_eq.1 hb
          subst e
          split at h
          · rename_i zs hz
            simp only [hz] at hr
            unfold sel; split <;> exact hr
          · exact h.elim
      | _ => exact h.elim
    | dead => exact h.elim
  · have e := Bk.beq_eq hb
    subst e
    unfold sel; split <;> exact hr
theorem mgB_there [Fs] {x y : Bk} (h : (mgB c x y).there E) : (sel c E x y).there E := by
  unfold mgB at h
  cases hb : x.beq y <;> simp only [hb, cond_true, cond_false] at h
  · cases x with
    | cells t xs => cases y with
      | cells u ys => unfold sel; split <;> trivial
      | _ => exact h.elim
    | arr t k xs => cases y with
      | arr u k' ys =>
        simp only [mgB0] at h
        cases hb : t == u <;> simp only [hb, cond_true, cond_false] at h
        · exact h.elim
        · split at h
          · have h' : 0 < (mkIte c k k').den E := h
            rw [den_ite] at h'
            unfold sel
            split at h' <;> rename_i ht
            · rw [if_pos ht]; exact h'
            · rw [if_neg ht]; exact h'
          · exact h.elim
      | _ => exact h.elim
    | dead => cases y <;> exact h.elim
  · have := Bk.beq_eq hb
    subst this
    simpa [sel] using h
theorem mgM_length [Fs] : ∀ {xs ys : List Bk}, (mgM c xs ys).length = max xs.length ys.length := by
  intro xs
  induction xs with
  | nil => intro ys; simp [mgM]
  | cons x xs ih => intro ys; cases ys with
    | nil => simp [mgM]
    | cons y ys => simp only [mgM, List.length_cons, ih]; omega
theorem mgM_get [Fs] : ∀ {xs ys : List Bk} {i : Nat} {z : Bk}, (mgM c xs ys)[i]? = some z → z = .dead ∨ ∃ x y, xs[i]? = some x ∧ ys[i]? = some y ∧ z = mgB c x y := by
  intro xs
  induction xs with
  | nil =>
    intro ys i z h
    simp only [mgM, List.getElem?_map, Option.map_eq_some_iff] at h
    obtain ⟨_, _, rfl⟩ := h; exact .inl rfl
  | cons x xs ih => intro ys i z h; cases ys with
    | nil =>
      simp only [mgM, List.getElem?_map, Option.map_eq_some_iff] at h
      obtain ⟨_, _, rfl⟩ := h; exact .inl rfl
    | cons y ys => cases i with
      | zero => simp [mgM] at h; exact .inr ⟨x, y, rfl, rfl, h.symm⟩
      | succ i =>
        simp [mgM] at h
        rcases ih h with h | ⟨x', y', h1, h2, h3⟩
        · exact .inl h
        · exact .inr ⟨x', y', by simpa using h1, by simpa using h2, h3⟩
end

def mgT (c : T) : Tr → Tr → Tr
  | .nd x l r, .nd y l' r' => bif (Tr.nd x l r).beq (.nd y l' r') then .nd x l r else .nd (mgL c x y) (mgT c l l') (mgT c r r')
  | _, _ => .nil
theorem mgT_get [Fs] {c : T} : ∀ {xs ys : Tr} {i : Nat} {z : L}, (mgT c xs ys).get i = some z → ∃ x y, xs.get i = some x ∧ ys.get i = some y ∧ (z = mgL c x y ∨ (x = y ∧ z = x)) := by
  intro xs
  induction xs with
  | nil => intro ys i z h; simp [mgT, Tr.get] at h
  | nd x l r ihl ihr => intro ys i z h; cases ys with
    | nil => simp [mgT, Tr.get] at h
    | nd y l' r' =>
      rw [mgT] at h
      cases hb : (Tr.nd x l r).beq (.nd y l' r') <;> simp only [hb, cond_true, cond_false] at h
      case true =>
        rw [← Tr.beq_eq hb]
        exact ⟨z, z, h, h, .inr ⟨rfl, rfl⟩⟩
      simp only [Tr.get_nd] at h ⊢
      by_cases h0 : i = 0
      · simp only [if_pos h0, Option.some.injEq] at h ⊢; exact ⟨x, y, rfl, rfl, .inl h.symm⟩
      · by_cases h1 : i % 2 = 1
        · simp only [if_neg h0, if_pos h1] at h ⊢; exact ihl h
        · simp only [if_neg h0, if_neg h1] at h ⊢; exact ihr h
def mgS (c : T) (base : Pc) (k : Kn) (a b : St) : St := ⟨mgT c a.s b.s, mgM c a.m b.m, base, k⟩
theorem mgS_ok [Fs] {X : Cx} {ρ : Nat → Rb} {c : T} {base : Pc} {k : Kn} {s1 s2 : St} {a : Act} {w : World} (hb : pcOk X.E base) (hk : ∀ d ∈ k.ds, d.ok X.E) (h : Rel X ρ (sel c X.E s1 s2) a w) : Rel X ρ (mgS c base k s1 s2) a w := by
  have hlen : (sel c X.E s1 s2).m.length ≤ (mgM c s1.m s2.m).length := by
    rw [mgM_length]; unfold sel; split <;> omega
  have hs : (sel c X.E s1 s2).s = sel c X.E s1.s s2.s := by unfold sel; split <;> rfl
  have hm : ∀ (i : Nat) (x y : Bk), s1.m[i]? = some x → s2.m[i]? = some y → (sel c X.E s1 s2).m[i]? = some (sel c X.E x y) := by
    intro i x y h1 h2; unfold sel; split <;> assumption
  refine ⟨⟨fun i z hz => ?_, hb, hk, h.F⟩, h.dfr, ⟨fun i b hi => ?_, fun i j bi bj hi hj hbi hbj heq => ?_, Nat.le_trans h.mr.len hlen, h.mr.old, fun i b hn hi hro hbl => ?_, h.mr.fr⟩⟩
  · obtain ⟨x, y, h1, h2, hz⟩ := mgT_get hz
    obtain ⟨v, h3, h4⟩ := h.slots i (sel c X.E x y) (by rw [hs]; unfold sel; split <;> assumption)
    rcases hz with rfl | ⟨rfl, rfl⟩
    · exact ⟨v, h3, Lr.mono (fun _ _ => rfl) hlen (mgL_ok h4)⟩
    · exact ⟨v, h3, Lr.mono (fun _ _ => rfl) hlen (by simpa [sel] using h4)⟩
  · rcases mgM_get hi with rfl | ⟨x, y, h1, h2, rfl⟩
    · trivial
    · exact Br.mono (fun _ _ => rfl) hlen (mgB_ok (h.mr.mem i _ (hm i x y h1 h2)))
  · rcases mgM_get hi with rfl | ⟨x, y, h1, h2, rfl⟩
    · exact hbi.elim
    · rcases mgM_get hj with rfl | ⟨x', y', h1', h2', rfl⟩
      · exact hbj.elim
      · exact h.mr.inj i j _ _ (hm i x y h1 h2) (hm j x' y' h1' h2') (mgB_there hbi) (mgB_there hbj) heq
  · rcases mgM_get hi with rfl | ⟨x, y, h1, h2, rfl⟩
    · exact hbl.elim
    · exact h.mr.new i _ hn (hm i x y h1 h2) (mgB_ro hbl hro) (mgB_there hbl)

/-- The facts as one term. -/
def conj0 : Pc → T
  | [] => .lit 1
  | [(t, b)] => bif b then t else mkNot t
  | (t, b) :: rest => mk2 .and (tbT (bif b then t else mkNot t)) (tbT (conj0 rest))
theorem conj0_tr [Fs] {E : Env} : ∀ {pc : Pc}, (conj0 pc).tr E = true ↔ pcOk E pc := by
  intro pc
  induction pc with
  | nil => simp [conj0, T.tr, T.den, pcOk]
  | cons p pc ih =>
    obtain ⟨t, b⟩ := p
    have h1 : (bif b then t else mkNot t).tr E = true ↔ t.tr E = b := by
      cases b <;> simp [tr_mkNot]
    cases pc with
    | nil => simp only [conj0, h1]; simp [pcOk]
    | cons q pc =>
      simp only [conj0]
      rw [tr_and2, Bool.and_eq_true, h1, ih]
      simp [pcOk_cons]
def conj (pc : Pc) : T := (conj0 pc).tidy
theorem conj_tr [Fs] {E : Env} {pc : Pc} : (conj pc).tr E = true ↔ pcOk E pc := by rw [conj, tr_tidy]; exact conj0_tr
/-- Do two lists of facts shut one another out? -/
def contra (b : Pc) (p : T × Bool) : Bool := match dec b p.1 with
  | some r => r != p.2
  | none => false
def exclQ (a b : Pc) : Bool := a.any fun p => b.any fun q => (bif p.2 then !q.2 else q.2) && p.1.beq q.1
/-- A truth by the facts alone, without reckoning. -/
def lookF (t : T) : Pc → Option Bool
  | [] => none
  | (u, b) :: r => bif t.beq u then some b else lookF t r
def dec0 (pc : Pc) : T → Option Bool
  | .un .not a => match dec0 pc a with
    | some b => some (!b)
    | none => none
  | .bin .or a b => match dec0 pc a with
    | some true => some true
    | x => match dec0 pc b with
      | some true => some true
      | some false => match x with
        | some false => some false
        | _ => lookF (.bin .or a b) pc
      | none => lookF (.bin .or a b) pc
  | .bin .and a b => match dec0 pc a with
    | some false => some false
    | x => match dec0 pc b with
      | some false => some false
      | some true => match x with
        | some true => some true
        | _ => lookF (.bin .and a b) pc
      | none => lookF (.bin .and a b) pc
  | t => lookF t pc
theorem lookF_ok [Fs] {E : Env} {t : T} {r : Bool} : ∀ {pc : Pc}, pcOk E pc → lookF t pc = some r → t.tr E = r := by
  intro pc
  induction pc with
  | nil => intro _ h; cases h
  | cons p l ih =>
    intro hp h
    obtain ⟨u, b⟩ := p
    simp only [lookF] at h
    cases hb : t.beq u <;> simp only [hb, cond_true, cond_false] at h
    · exact ih (fun q hq => hp q (List.mem_cons_of_mem _ hq)) h
    · cases h
      rw [T.beq_eq hb]
      exact hp (u, r) List.mem_cons_self
theorem dec0_ok [Fs] {E : Env} {pc : Pc} (hp : pcOk E pc) : ∀ {t : T} {r : Bool}, dec0 pc t = some r → t.tr E = r := by
  intro t
  induction t with
  | un o a ih =>
    intro r h
    cases o with
    | not =>
      simp only [dec0] at h
      split at h
      · rename_i b hb
        cases h
        have := ih hb
        simp only [T.tr, T.den, O1.den, tb_ne] at this ⊢
        rw [← this]
        cases hq : a.den E == 0 <;> simp_all [bne]
      · cases h
    | _ => exact lookF_ok hp h
  | bin o a b iha ihb =>
    intro r h
    cases o with
    | or =>
      have e : (T.bin .or a b).tr E = (a.tr E || b.tr E) := by simp only [T.tr, T.den, O2.den, tb_ne]
      simp only [dec0] at h
      split at h
      · rename_i ha; cases h; rw [e, iha ha]; rfl
      · split at h
        · rename_i hb; cases h; rw [e, ihb hb]; simp
        · rename_i hb
          split at h
          · rename_i ha; cases h; rw [e, iha ha, ihb hb]; rfl
          · exact lookF_ok hp h
        · exact lookF_ok hp h
    | and =>
      have e : (T.bin .and a b).tr E = (a.tr E && b.tr E) := by simp only [T.tr, T.den, O2.den, tb_ne]
      simp only [dec0] at h
      split at h
      · rename_i ha; cases h; rw [e, iha ha]; rfl
      · split at h
        · rename_i hb; cases h; rw [e, ihb hb]; simp
        · rename_i hb
          split at h
          · rename_i ha; cases h; rw [e, iha ha, ihb hb]; rfl
          · exact lookF_ok hp h
        · exact lookF_ok hp h
    | _ => exact lookF_ok hp h
  | _ => intro r h; exact lookF_ok hp h
def contra0 (b : Pc) (p : T × Bool) : Bool := match dec0 b p.1 with
  | some r => r != p.2
  | none => false
theorem contra0_ok [Fs] {E : Env} {b : Pc} {p : T × Bool} (h : contra0 b p = true) (hb : pcOk E b) (hp : p.1.tr E = p.2) : False := by
  unfold contra0 at h
  split at h
  · rename_i r hr
    have := dec0_ok hb hr
    rw [hp] at this
    simp [this] at h
  · cases h
def excl (a b : Pc) : Bool := exclQ a b || a.any (contra0 b) || b.any (contra0 a) || a.any (contra b) || b.any (contra a)
theorem contra_ok [Fs] {E : Env} {b : Pc} {p : T × Bool} (h : contra b p = true) (hb : pcOk E b) (hp : p.1.tr E = p.2) : False := by
  unfold contra at h
  split at h
  · rename_i r hr
    have := dec_ok hb hr
    rw [hp] at this
    simp [this] at h
  · cases h
theorem excl_ok [Fs] {E : Env} {a b : Pc} (h : excl a b = true) (ha : pcOk E a) (hb : pcOk E b) : False := by
  unfold excl at h
  simp only [Bool.or_eq_true, List.any_eq_true] at h
  rcases h with (((h | ⟨p, h1, h2⟩) | ⟨p, h1, h2⟩) | ⟨p, h1, h2⟩) | ⟨p, h1, h2⟩
  · simp only [exclQ, List.any_eq_true, Bool.and_eq_true] at h
    obtain ⟨p, h1, q, h2, h3, h4⟩ := h
    have e1 := ha p h1
    have e2 := hb q h2
    rw [T.beq_eq h4, e2] at e1
    rw [e1] at h3
    cases hp : p.2 <;> simp [hp] at h3
  · exact contra0_ok h2 hb (ha p h1)
  · exact contra0_ok h2 ha (hb p h1)
  · exact contra_ok h2 hb (ha p h1)
  · exact contra_ok h2 ha (hb p h1)

/-- Nothing is lost by the merging: of cells that both ways knew, and of the slots. -/
def C.isAny : C → Bool
  | .any => true
  | _ => false
def keepCs : List C → List C → Bool
  | x :: xs, z :: zs => (x.isAny || !z.isAny) && keepCs xs zs
  | _, _ => true
def keepA : A → A → Bool
  | .dead, _ => true
  | .c x, .c z => x.isAny || !z.isAny
  | .agg xs, .agg zs => keepCs xs zs
  | .rows _, .rows _ => true
  | _, _ => false
def keepL (x y z : L) : Bool :=
  match x, y, z with
  | .a .dead, _, _ => true
  | _, .a .dead, _ => true
  | .a x, .a _, .a z => keepA x z
  | .tup _, _, .tup _ => true
  | .gd _ _, _, _ => true
  | _, .gd _ _, _ => true
  | _, _, _ => false
def keepT : Tr → Tr → Tr → Bool
  | .nd x l r, .nd y l' r', .nd z l2 r2 => bif (Tr.nd x l r).beq (.nd y l' r') then true else keepL x y z && keepT l l' l2 && keepT r r' r2
  | _, _, _ => true
def keepB (x y z : Bk) : Bool :=
  match x, y, z with
  | .dead, _, _ => true
  | _, .dead, _ => true
  | .cells _ xs, _, .cells _ zs => keepCs xs zs
  | _, _, _ => false
/-- ('lo': blocks from there on may be lost) -/
def keepM (lo : Nat) : List Bk → List Bk → List Bk → Bool
  | x :: xs, y :: ys, z :: zs => (match lo with | 0 => true | _ + 1 => x.beq y || keepB x y z) && keepM (lo - 1) xs ys zs
  | _, _, _ => true

/-- The plain ways out, with what came up on each. -/
def splitG (k : Nat) : List Out → List (Pc × St) × List Out
  | [] => ([], [])
  | .good .norm st :: r => let q := splitG k r; ((st.pc.take (st.pc.length - k), st) :: q.1, q.2)
  | x :: r => let q := splitG k r; (q.1, x :: q.2)
theorem rel_t [Fs] {X : Cx} {ρ : Nat → Rb} {c : T} {s1 s2 : St} {a : Act} {w : World} (h : c.tr X.E = true) (hr : Rel X ρ s1 a w) : Rel X ρ (sel c X.E s1 s2) a w := by
  unfold sel; rw [if_pos h]; exact hr
theorem rel_f [Fs] {X : Cx} {ρ : Nat → Rb} {c : T} {s1 s2 : St} {a : Act} {w : World} (h : c.tr X.E = false) (hr : Rel X ρ s2 a w) : Rel X ρ (sel c X.E s1 s2) a w := by
  unfold sel; rw [if_neg (by rw [h]; exact Bool.false_ne_true)]; exact hr
theorem mgM_le1 [Fs] {c : T} {xs ys : List Bk} : xs.length ≤ (mgM c xs ys).length := by rw [mgM_length]; omega
theorem mgM_le2 [Fs] {c : T} {xs ys : List Bk} : ys.length ≤ (mgM c xs ys).length := by rw [mgM_length]; omega
def baseOk (base : Pc) (B : List Df) (st : St) : Bool := listB factB (oldOf st.pc base) base && listB Df.beq (oldOf st.k.ds B) B
def mg2 (ok : St → St → St → Bool) (base : Pc) (n n0 : Nat) (B0 B : List Df) (e : Pc) (st r : St) (es : List Pc) : Option (St × List Pc) :=
  bif baseOk base B0 st && listB Df.beq (oldOf st.k.ds B) B && Nat.ble n n0 && Nat.ble n0 st.k.nv then
    bif Nat.beq st.k.nv n0 then
      let z := mgS (conj e) base r.k st r
      bif es.all (fun q => excl e q) && listB Df.beq st.k.ds B && (Nat.beq r.k.nv n0 && listB Df.beq r.k.ds B || st.bel && ordered n0 (newOf r.k.ds B)) && listB Df.beq (oldOf r.k.ds B) B && Nat.ble n0 r.k.nv && ok st r z then some (z, e :: es) else none
    else
      let k := st.k.nv - n0
      let r' := r.up n0 k
      let es' := es.map (pcSub (upS n0 k))
      let N := newOf st.k.ds B
      let M := newOf r'.k.ds B
      let z := mgS (conj e) base ⟨M ++ (N ++ B), r'.k.nv⟩ st r'
      bif es'.all (fun q => excl e q) && st.bel && ordered n0 N && N.all (fun d => Nat.ble d.hi st.k.nv) && ordered st.k.nv M && r.k.ds.all (·.side n0) && B.all (·.bel n0) && pcBel n0 base && listB Df.beq (oldOf r.k.ds B) B && Nat.ble n0 r.k.nv && ok st r' z then some (z, e :: es') else none
  else none
/-- What came up alike in both, and how many letters there are behind it. -/
def commR : List Df → List Df → List Df → Nat → List Df × Nat
  | d :: l, d' :: l', acc, n => bif d.beq d' then commR l l' (d :: acc) d.hi else (acc, n)
  | _, _, acc, n => (acc, n)
def comm (n0 : Nat) (B l l' : List Df) : List Df × Nat := commR (newOf l B).reverse (newOf l' B).reverse B n0
def mgAll (ok : St → St → St → Bool) (base : Pc) (n0 : Nat) (B : List Df) : List (Pc × St) → Option (St × List Pc)
  | [] => none
  | [(e, st)] => bif baseOk base B st then some (st, [e]) else none
  | (e, st) :: rest => match mgAll ok base n0 B rest with
    | some (r, es) => mg2 ok base n0 (comm n0 B st.k.ds r.k.ds).2 B (comm n0 B st.k.ds r.k.ds).1 e st r es
    | none => none
theorem listB_df [Fs] {l B : List Df} (h : listB Df.beq l B = true) : l = B := listB_eq (fun _ _ => Df.beq_eq) h
theorem mgAll_ok [Fs] {X : Cx} {ok : St → St → St → Bool} {base : Pc} {n0 : Nat} {B : List Df} : ∀ {l : List (Pc × St)} {z : St} {es : List Pc}, mgAll ok base n0 B l = some (z, es) → (∀ p ∈ l, p.1 = newOf p.2.pc base) → (∀ p ∈ l, n0 ≤ p.2.k.nv) →
    ∀ p ∈ l, ∀ E ρ a w, Rel (X.at E) ρ p.2 a w → ∃ E', Agree E E' n0 ∧ Rel (X.at E') ρ z a w ∧ pcOk E' base ∧ p.2.m.length ≤ z.m.length ∧ n0 ≤ z.k.nv ∧ ∃ e ∈ es, pcOk E' e := by
  intro l
  induction l with
  | nil => intro z es h; simp [mgAll] at h
  | cons q rest ih =>
    intro z es h hpc hnv p hp E ρ a w hr
    obtain ⟨e, st⟩ := q
    have drops : ∀ {s : St} {E : Env}, baseOk base B s = true → pcOk E s.pc → pcOk E base := by
      intro s E hs hok
      simp only [baseOk, Bool.and_eq_true] at hs
      have := listB_eq (fun _ _ => factB_eq) hs.1
      rw [← this]
      exact fun x hx => hok x (List.mem_of_mem_drop hx)
    have takes : ∀ q ∈ (e, st) :: rest, ∀ E, pcOk E q.2.pc → pcOk E q.1 := by
      intro q hq E hok
      rw [hpc q hq]
      exact fun x hx => hok x (List.mem_of_mem_take hx)
    cases rest with
    | nil =>
      simp only [mgAll] at h
      cases hb : baseOk base B st <;> simp only [hb, cond_true, cond_false] at h
      · cases h
      · cases h
        simp at hp
        subst hp
        exact ⟨E, Agree.refl _ _, hr, drops hb hr.pc, Nat.le_refl _, hnv _ List.mem_cons_self, e, List.mem_cons_self, takes _ List.mem_cons_self E hr.pc⟩
    | cons q2 rest =>
      simp only [mgAll] at h
      split at h
      · rename_i r es0 hrest
        have ih' := ih hrest (fun p hp => hpc p (List.mem_cons_of_mem _ hp)) (fun p hp => hnv p (List.mem_cons_of_mem _ hp))
        revert h
        generalize (comm n0 B st.k.ds r.k.ds).2 = n1
        generalize (comm n0 B st.k.ds r.k.ds).1 = B1
        intro h
        unfold mg2 at h
        dsimp only at h
        cases hb : baseOk base B st && listB Df.beq (oldOf st.k.ds B1) B1 && Nat.ble n0 n1 && Nat.ble n1 st.k.nv <;> simp only [hb, cond_true, cond_false] at h
        · cases h
        rw [Bool.and_eq_true, Bool.and_eq_true, Bool.and_eq_true, Nat.ble_eq, Nat.ble_eq] at hb
        obtain ⟨⟨⟨hbase, hdsB⟩, h01⟩, hn⟩ := hb
        have hdsB : oldOf st.k.ds B1 = B1 := listB_df hdsB
        -- not both
        have noex : ∀ {E' : Env} {es' : List Pc} {e1 : Pc}, es'.all (fun q => excl e q) = true → e1 ∈ es' → pcOk E' e1 → (conj e).tr E' = false := by
          intro E' es' e1 hex he1 h1
          cases hc : (conj e).tr E'
          · rfl
          · rw [List.all_eq_true] at hex
            exact (excl_ok (hex e1 he1) (conj_tr.1 hc) h1).elim
        cases hk0 : Nat.beq st.k.nv n1 <;> simp only [hk0, cond_true, cond_false] at h
        · -- letters came up in the first
          have hk0 : st.k.nv ≠ n1 := fun he => by rw [he, Nat.beq_refl] at hk0; cases hk0
          cases hc : (es0.map (pcSub (upS n1 (st.k.nv - n1)))).all (fun q => excl e q) && st.bel && ordered n1 (newOf st.k.ds B1) && (newOf st.k.ds B1).all (fun d => Nat.ble d.hi st.k.nv) && ordered st.k.nv (newOf (r.up n1 (st.k.nv - n1)).k.ds B1) && r.k.ds.all (·.side n1) && B1.all (·.bel n1) && pcBel n1 base && listB Df.beq (oldOf r.k.ds B1) B1 && Nat.ble n1 r.k.nv && ok st (r.up n1 (st.k.nv - n1)) (mgS (conj e) base ⟨newOf (r.up n1 (st.k.nv - n1)).k.ds B1 ++ (newOf st.k.ds B1 ++ B1), (r.up n1 (st.k.nv - n1)).k.nv⟩ st (r.up n1 (st.k.nv - n1))) <;> simp only [hc, cond_true, cond_false] at h
          · cases h
          simp only [Bool.and_eq_true] at hc
          obtain ⟨⟨⟨⟨⟨⟨⟨⟨⟨⟨c1, c2⟩, c3⟩, c4⟩, c5⟩, c6⟩, c7⟩, c8⟩, c9⟩, c10⟩, c11⟩ := hc
          rw [Nat.ble_eq] at c10
          cases h
          have hst : newOf st.k.ds B1 ++ B1 = st.k.ds := by conv => rhs; rw [← new_old st.k.ds B1, hdsB]
          have hnvz : n0 ≤ (r.up n1 (st.k.nv - n1)).k.nv := by simp only [St.up, Kn.up]; omega
          rcases List.mem_cons.1 hp with rfl | hp
          · obtain ⟨x1, x2, x3⟩ := extL_ok (E := E) c5
            refine ⟨_, x1.mono (Nat.le_trans h01 hn), ?_⟩
            have hr' := hr.agree c2 x1
            have hcj := conj_tr.2 (takes _ List.mem_cons_self _ hr'.pc)
            refine ⟨mgS_ok (drops hbase hr'.pc) (fun d hd => ?_) (rel_t hcj hr'), drops hbase hr'.pc, mgM_le1, hnvz, e, List.mem_cons_self, takes _ List.mem_cons_self _ hr'.pc⟩
            rcases List.mem_append.1 hd with hd | hd
            · exact x2 d hd
            · rw [hst] at hd; exact hr'.ds d hd
          · obtain ⟨E1, g1, g2, g3, g4, g5, e1, he1, g6⟩ := ih' p hp E ρ a w hr
            let E2 : Env := ⟨fun i => if i < n1 then E1.x i else if st.k.nv ≤ i then E1.x (i - (st.k.nv - n1)) else default, E1.F⟩
            obtain ⟨x1, x2, x3⟩ := extL_ok (E := E2) c3
            have hag : Agree E1 (extL E2 (newOf st.k.ds B1)) n1 := ⟨x1.F, fun i hi => by rw [x1.x i hi]; simp only [E2]; rw [if_pos hi]⟩
            have hup : UpOk E1 (extL E2 (newOf st.k.ds B1)) n1 (st.k.nv - n1) := by
              refine ⟨x1.F, fun i => ?_⟩
              unfold up
              cases hi : Nat.blt i n1 <;> simp only [cond_true, cond_false]
              · have hi' : ¬ i < n1 := by rw [← Nat.blt_eq, hi]; exact Bool.false_ne_true
                rw [x3 _ (fun d hd => by
                  rw [List.all_eq_true] at c4
                  have := c4 d hd
                  rw [Nat.ble_eq] at this; omega)]
                simp only [E2]
                rw [if_neg (by omega), if_pos (by omega)]
                congr 1; omega
              · rw [Nat.blt_eq] at hi; exact hag.x i hi
            have hr' := Rel.up hup c6 g2
            have hb' := pcOk_agree hag c8 g3
            have he' : pcOk (extL E2 (newOf st.k.ds B1)) (pcSub (upS n1 (st.k.nv - n1)) e1) := pcOk_sub hup.sub g6
            have hmem : pcSub (upS n1 (st.k.nv - n1)) e1 ∈ es0.map (pcSub (upS n1 (st.k.nv - n1))) := List.mem_map_of_mem he1
            have hcj := noex c1 hmem he'
            refine ⟨_, g1.trans hag h01, mgS_ok hb' (fun d hd => ?_) (rel_f hcj hr'), hb', Nat.le_trans g4 (Nat.le_trans (Nat.le_of_eq (by simp [St.up])) mgM_le2), hnvz, _, List.mem_cons_of_mem _ hmem, he'⟩
            rcases List.mem_append.1 hd with hd | hd
            · exact hr'.ds d (List.mem_of_mem_take hd)
            · rcases List.mem_append.1 hd with hd | hd
              · exact x2 d hd
              · rw [List.all_eq_true] at c7
                refine Df.ok_agree hag (c7 d hd) (g2.ds d ?_)
                have := listB_df c9
                rw [← this] at hd
                exact List.mem_of_mem_drop hd
        · -- none came up in the first
          have hk0 := Nat.eq_of_beq_eq_true hk0
          cases hc : es0.all (fun q => excl e q) && listB Df.beq st.k.ds B1 && (Nat.beq r.k.nv n1 && listB Df.beq r.k.ds B1 || st.bel && ordered n1 (newOf r.k.ds B1)) && listB Df.beq (oldOf r.k.ds B1) B1 && Nat.ble n1 r.k.nv && ok st r (mgS (conj e) base r.k st r) <;> simp only [hc, cond_true, cond_false] at h
          · cases h
          simp only [Bool.and_eq_true] at hc
          obtain ⟨⟨⟨⟨⟨c1, c2⟩, c3⟩, c4⟩, c5⟩, c6⟩ := hc
          rw [Nat.ble_eq] at c5
          cases h
          have hst := listB_df c2
          have hrB := listB_df c4
          rcases List.mem_cons.1 hp with rfl | hp
          · -- the letters of the others are given their meanings
            have main : ∃ E', Agree E E' n0 ∧ Rel (X.at E') ρ st a w ∧ ∀ d ∈ r.k.ds, d.ok E' := by
              rw [Bool.or_eq_true, Bool.and_eq_true, Bool.and_eq_true] at c3
              rcases c3 with ⟨_, c3⟩ | ⟨c3, c3'⟩
              · refine ⟨E, Agree.refl _ _, hr, ?_⟩
                rw [listB_df c3, ← hst]; exact hr.ds
              · obtain ⟨x1, x2, x3⟩ := extL_ok (E := E) c3'
                have hr' := hr.agree c3 (by rw [hk0]; exact x1)
                refine ⟨_, x1.mono h01, hr', fun d hd => ?_⟩
                rw [← new_old r.k.ds B1, hrB] at hd
                rcases List.mem_append.1 hd with hd | hd
                · exact x2 d hd
                · rw [← hst] at hd; exact hr'.ds d hd
            obtain ⟨E', h1, h2, h3⟩ := main
            have hcj := conj_tr.2 (takes _ List.mem_cons_self _ h2.pc)
            exact ⟨E', h1, mgS_ok (drops hbase h2.pc) h3 (rel_t hcj h2), drops hbase h2.pc, mgM_le1, Nat.le_trans h01 c5, e, List.mem_cons_self, takes _ List.mem_cons_self _ h2.pc⟩
          · obtain ⟨E1, g1, g2, g3, g4, g5, e1, he1, g6⟩ := ih' p hp E ρ a w hr
            have hcj := noex c1 he1 g6
            exact ⟨E1, g1, mgS_ok g3 g2.ds (rel_f hcj g2), g3, Nat.le_trans g4 mgM_le2, Nat.le_trans h01 c5, e1, List.mem_cons_of_mem _ he1, g6⟩
      · cases h
theorem splitG_ok [Fs] {k : Nat} : ∀ {l : List Out}, (∀ p ∈ (splitG k l).1, p.1 = p.2.pc.take (p.2.pc.length - k)) ∧ (∀ st, Out.good .norm st ∈ l → ∃ p ∈ (splitG k l).1, p.2 = st) ∧ (∀ o ∈ l, (∀ st, o ≠ .good .norm st) → o ∈ (splitG k l).2) := by
  intro l
  induction l with
  | nil => exact ⟨fun p hp => (nomatch hp), fun st h => (nomatch h), fun o h => (nomatch h)⟩
  | cons x r ih =>
    obtain ⟨h1, h2, h3⟩ := ih
    unfold splitG
    split
    · rename_i he; cases he
    · rename_i st r' he
      cases he
      refine ⟨fun p hp => ?_, fun st' hst => ?_, fun o ho hne => ?_⟩
      · rcases List.mem_cons.1 hp with rfl | hp
        · rfl
        · exact h1 p hp
      · rcases List.mem_cons.1 hst with he | hst
        · cases he; exact ⟨_, List.mem_cons_self, rfl⟩
        · obtain ⟨p, hp, e⟩ := h2 st' hst; exact ⟨p, List.mem_cons_of_mem _ hp, e⟩
      · rcases List.mem_cons.1 ho with rfl | ho
        · exact (hne st rfl).elim
        · exact h3 o ho hne
    · rename_i y r' hne' he
      cases he
      refine ⟨h1, fun st' hst => ?_, fun o ho hne => ?_⟩
      · rcases List.mem_cons.1 hst with he | hst
        · exact (hne' st' he.symm).elim
        · exact h2 st' hst
      · rcases List.mem_cons.1 ho with rfl | ho
        · exact List.mem_cons_self
        · exact List.mem_cons_of_mem _ (h3 o ho hne)
def Out.fc {β : Type} (o : Out) (k : Out → β) : β := match o with
  | .good .norm st => st.fc fun st => k (.good .norm st)
  | .good .ret st => st.fc fun st => k (.good .ret st)
  | .good (.exit id) st => fcN id fun id => st.fc fun st => k (.good (.exit id) st)
  | .bad pc ds => fcPc pc fun pc => fcLs Df.fc ds fun ds => k (.bad pc ds)
theorem Out.fc_eq [Fs] {β : Type} (o : Out) (k : Out → β) : o.fc k = k o := by
  cases o with
  | bad pc ds => simp only [Out.fc, fcPc_eq]; exact fcLs_eq Df.fc_eq _ _
  | good e st => cases e <;> simp only [Out.fc, St.fc_eq, fcN_eq]
/-- The slots alone. -/
def Out.fcT {β : Type} (o : Out) (k : Out → β) : β := match o with
  | .good .norm st => st.s.fc fun s => k (.good .norm ⟨s, st.m, st.pc, st.k⟩)
  | x => k x
theorem Out.fcT_eq [Fs] {β : Type} (o : Out) (k : Out → β) : o.fcT k = k o := by
  unfold Out.fcT; split <;> simp only [Tr.fc_eq]
/-- One of several. -/
def disj : List Pc → T
  | [] => .lit 0
  | [e] => conj e
  | e :: r => tidyO (conj e) (disj r)
theorem disj_tr [Fs] {E : Env} {e : Pc} : ∀ {es : List Pc}, e ∈ es → pcOk E e → (disj es).tr E = true := by
  intro es
  induction es with
  | nil => intro h; cases h
  | cons d r ih =>
    intro hm he
    cases r with
    | nil =>
      rcases List.mem_cons.1 hm with rfl | hm
      · exact conj_tr.2 he
      · cases hm
    | cons d' r =>
      simp only [disj] at ih ⊢
      rw [tr_tidyO]
      rcases List.mem_cons.1 hm with rfl | hm
      · rw [conj_tr.2 he]; rfl
      · rw [ih hm he, Bool.or_true]
/-- Which of the ways it was is known to be one of them, where that is told in short. -/
def St.oneOf (z : St) (es : List Pc) : St := bif Nat.ble es.length 3 && es.all (fun e => Nat.ble e.length 4 && e.all fun p => p.1.few 1) then
    (disj es).fc fun d => bif d.few 3 && !d.isNum then { z with pc := addF d true z.pc } else z
  else z
theorem Rel.oneOf [Fs] {X : Cx} {ρ : Nat → Rb} {z : St} {a : Act} {w : World} (h : Rel X ρ z a w) {es : List Pc} {e : Pc} (he : e ∈ es) (hp : pcOk X.E e) : Rel X ρ (z.oneOf es) a w := by
  unfold St.oneOf
  cases Nat.ble es.length 3 && es.all (fun e => Nat.ble e.length 4 && e.all fun p => p.1.few 1) <;> simp only [cond_true, cond_false]
  · exact h
  rw [T.fc_eq]
  cases (disj es).few 3 && !(disj es).isNum <;> simp only [cond_true, cond_false]
  · exact h
  · exact ⟨⟨h.slots, pcOk_addF.2 ⟨disj_tr he hp, h.pc⟩, h.ds, h.F⟩, h.dfr, h.mr⟩
theorem St.oneOf_m [Fs] (z : St) (es : List Pc) : (z.oneOf es).m = z.m ∧ (z.oneOf es).k = z.k := by
  unfold St.oneOf
  cases Nat.ble es.length 3 && es.all (fun e => Nat.ble e.length 4 && e.all fun p => p.1.few 1)
  · exact ⟨rfl, rfl⟩
  rw [cond_true, T.fc_eq]
  cases (disj es).few 3 && !(disj es).isNum
  · exact ⟨rfl, rfl⟩
  · exact ⟨rfl, rfl⟩
/-- Several plain ways out are made one, where nothing is lost by it. -/
def merge0 (ok : St → St → St → Bool) (st0 : St) (l : List Out) : List Out :=
  let q := splitG st0.pc.length l
  match q.1 with
  | _ :: _ :: _ => bif q.1.all (fun p => Nat.ble st0.k.nv p.2.k.nv) then match mgAll ok st0.pc st0.k.nv st0.k.ds q.1 with
    | some (z, es) => .good .norm (z.oneOf es) :: q.2
    | none => l
    else l
  | _ => l
theorem merge0_ok [Fs] {X : Cx} {ρ : Nat → Rb} {n : Nat} {Q : Exit → Act → World → Prop} {ok : St → St → St → Bool} {st0 : St} {l : List Out} (h : ∀ o ∈ merge0 ok st0 l, Sat X ρ n st0.k.nv Q o) : ∀ o ∈ l, Sat X ρ n st0.k.nv Q o := by
  unfold merge0 at h
  dsimp only at h
  split at h
  · cases hv : (splitG st0.pc.length l).1.all (fun p => Nat.ble st0.k.nv p.2.k.nv) <;> simp only [hv, cond_true, cond_false] at h
    · exact h
    split at h
    · rename_i z es hz
      obtain ⟨h1, h2, h3⟩ := splitG_ok (k := st0.pc.length) (l := l)
      intro o ho
      by_cases hn : ∃ st, o = .good .norm st
      · obtain ⟨st, rfl⟩ := hn
        obtain ⟨p, hp, rfl⟩ := h2 st ho
        intro E' ρ' a' w' L g3
        rw [List.all_eq_true] at hv
        obtain ⟨E2, h4, h5, _, h6, h7, e, he, h8⟩ := mgAll_ok hz h1 (fun p hp => by have := hv p hp; rwa [Nat.ble_eq] at this) p hp E' ρ' a' w' g3
        exact h _ List.mem_cons_self E2 ρ' a' w' ⟨L.E.trans h4 (Nat.le_refl _), L.ρ, by rw [(St.oneOf_m z es).1]; exact Nat.le_trans L.n h6, by rw [(St.oneOf_m z es).2]; exact h7⟩ (Rel.oneOf h5 he h8)
      · exact h o (List.mem_cons_of_mem _ (h3 o ho fun st e => hn ⟨st, e⟩))
    · exact h
  · exact h
/-- Are two ways out the same? -/
def Out.beq : Out → Out → Bool
  | .good .norm a, .good .norm b => a.beq b
  | .good .ret a, .good .ret b => a.beq b
  | .good (.exit i) a, .good (.exit j) b => Nat.beq i j && a.beq b
  | _, _ => false
theorem Out.beq_eq [Fs] {a b : Out} (h : a.beq b = true) : a = b := by
  unfold Out.beq at h
  split at h
  · rw [St.beq_eq h]
  · rw [St.beq_eq h]
  · rw [Bool.and_eq_true] at h
    rw [Nat.eq_of_beq_eq_true h.1, St.beq_eq h.2]
  · cases h
def nubO : List Out → List Out
  | [] => []
  | x :: r => let r' := nubO r; bif r'.any (x.beq ·) then r' else x :: r'
theorem mem_nubO [Fs] {x : Out} : ∀ {l : List Out}, x ∈ l → x ∈ nubO l := by
  intro l
  induction l with
  | nil => intro h; cases h
  | cons y r ih =>
    intro h
    simp only [nubO]
    cases hc : (nubO r).any (y.beq ·) <;> simp only [cond_true, cond_false]
    · rcases List.mem_cons.1 h with rfl | h
      · exact List.mem_cons_self
      · exact List.mem_cons_of_mem _ (ih h)
    · rcases List.mem_cons.1 h with rfl | h
      · rw [List.any_eq_true] at hc
        obtain ⟨z, h1, h2⟩ := hc
        rw [Out.beq_eq h2]; exact h1
      · exact ih h
def merge (ok : St → St → St → Bool) (st0 : St) (l : List Out) : List Out := match l with
  | [] => []
  | [x] => [x]
  | l => fcLs Out.fc l fun l => fcLs Out.fc (merge0 ok st0 (nubO l)) id
theorem merge_ok [Fs] {X : Cx} {ρ : Nat → Rb} {n : Nat} {Q : Exit → Act → World → Prop} {ok : St → St → St → Bool} {st0 : St} {l : List Out} (h : ∀ o ∈ merge ok st0 l, Sat X ρ n st0.k.nv Q o) : ∀ o ∈ l, Sat X ρ n st0.k.nv Q o := by
  unfold merge at h
  split at h
  · exact h
  · exact h
  · simp only [fcLs_eq Out.fc_eq, id] at h
    exact fun o ho => merge0_ok h o (mem_nubO ho)
/-- Nothing that both ways knew is lost; blocks from 'lo' on may be. -/
def okAll (lo : Nat) (a b z : St) : Bool := keepT a.s b.s z.s && keepM lo a.m b.m z.m
def keepAt (a b z : St) (t : Nat) : Bool := match a.s.get t, b.s.get t, z.s.get t with
  | some x, some y, some u => keepL x y u
  | _, _, _ => true
def keepBk (a b z : St) (t : Nat) : Bool := match z.s.get t with
  | some (.a (.c (.ptr p _))) => match a.m[p]?, b.m[p]?, z.m[p]? with
    | some x, some y, some u => keepB x y u
    | _, _, _ => false
  | _ => false
/-- The results are not lost, nor blocks below 'lo'. -/
def okRes (lo : Nat) (rs : List ResultVar) (a b z : St) : Bool := keepM lo a.m b.m z.m && rs.all fun
  | .tmp t => keepAt a b z t
  | .cell t _ => keepAt a b z t && keepBk a b z t

/-- Only these slots. -/
def Tr.blank : Tr → Tr
  | .nil => .nil
  | .nd _ l r => .nd (.a .dead) l.blank r.blank
theorem Tr.get_blank [Fs] : ∀ {t : Tr} {i : Nat} {z : L}, t.blank.get i = some z → z = .a .dead ∧ ∃ x, t.get i = some x := by
  intro t
  induction t with
  | nil => intro i z h; simp [Tr.blank, Tr.get] at h
  | nd x l r ihl ihr =>
    intro i z h
    simp only [Tr.blank, Tr.get_nd] at h ⊢
    by_cases h0 : i = 0
    · simp only [if_pos h0, Option.some.injEq] at h ⊢; exact ⟨h.symm, x, rfl⟩
    · by_cases h1 : i % 2 = 1
      · simp only [if_neg h0, if_pos h1] at h ⊢; exact ihl h
      · simp only [if_neg h0, if_neg h1] at h ⊢; exact ihr h
def onlyF (t : Tr) : List Nat → Tr → Tr
  | [], u => u
  | i :: rs, u => match t.get i with
    | some x => onlyF t rs (u.set i x)
    | none => onlyF t rs u
theorem onlyF_ok [Fs] {r : L → Value → Prop} {t : Tr} {vs : Array Value} (h : S2 r t vs) : ∀ {rs : List Nat} {u : Tr}, S2 r u vs → S2 r (onlyF t rs u) vs := by
  intro rs
  induction rs with
  | nil => intro u hu; exact hu
  | cons i rs ih =>
    intro u hu
    simp only [onlyF]
    split
    · rename_i x hx
      refine ih fun j y hy => ?_
      rw [Tr.get_set] at hy
      split at hy
      · rename_i hij
        subst hij
        rw [Option.map_eq_some_iff] at hy
        obtain ⟨_, _, rfl⟩ := hy
        exact h i x hx
      · exact hu j y hy
    · exact ih hu
def only (rs : List Nat) (t : Tr) : Tr := onlyF t rs t.blank
theorem Rel.only [Fs] {X : Cx} {ρ : Nat → Rb} {st : St} {a : Act} {w : World} (h : Rel X ρ st a w) (rs : List Nat) : Rel X ρ ⟨Go.Sy.only rs st.s, st.m, st.pc, st.k⟩ a w := by
  refine ⟨⟨onlyF_ok h.slots fun i z hz => ?_, h.pc, h.ds, h.F⟩, h.dfr, h.mr⟩
  obtain ⟨rfl, x, hx⟩ := Tr.get_blank hz
  obtain ⟨v, h1, _⟩ := h.slots i x hx
  exact ⟨v, h1, trivial⟩
def rsSlots (rs : List ResultVar) : List Nat := rs.map fun
  | .tmp t => t
  | .cell t _ => t
/-- A body's ways out: what is not a result is forgotten. -/
def trimO (rs : List Nat) : Out → Out
  | .good .ret st => .good .norm ⟨only rs st.s, st.m, st.pc, st.k⟩
  | .good .norm st => .good .norm ⟨only rs st.s, st.m, st.pc, st.k⟩
  | o => o
end Go.Sy
