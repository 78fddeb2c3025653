/- Part 13 of a checked reader of Go texts in their model form: it runs a function at terms in the place of numbers, and each part proves that its answers hold of the model. -/
import Derived.Test.YtpjmhngcdbpmpaaLy12b
import Derived.Recover
namespace Go.Sy

/-! two ways made one: 'c': which of them it was -/
def mgC (c : T) (x y : C) : C := bif x.beq y then x else match pickC c x y with
  | some z => z
  | none => .any
def mgCs (c : T) : List C → List C → List C
  | x :: xs, y :: ys => mgC c x y :: mgCs c xs ys
  | _, _ => []
def mgA (c : T) : A → A → A
  | .c x, .c y => bif x.beq y then .c x else match pickC c x y with
    | some z => .c z
    | none => .dead
  | .agg xs, .agg ys => bif xs.length == ys.length then .agg (mgCs c xs ys) else .dead
  | .rows xs, .rows ys => bif listB Col.beq xs ys then .rows xs else .dead
  | _, _ => .dead
def mgAs (c : T) : List A → List A → List A
  | x :: xs, y :: ys => mgA c x y :: mgAs c xs ys
  | _, _ => []
def mgL (c : T) : L → L → L
  | .a x, .a y => .a (mgA c x y)
  | .tup xs, .tup ys => bif xs.length == ys.length then .tup (mgAs c xs ys) else .a .dead
  | .gd d x, .gd e y => bif d.beq e && x.beq y then .gd d x else .a .dead
  | _, _ => .a .dead
def mgCols (c : T) : List Col → List Col → Option (List Col)
  | [], [] => some []
  | x :: xs, y :: ys => bif decide (x.k = y.k) && Nat.beq x.m y.m then (mgCols c xs ys).map ({ x with s := mkIteR c x.s y.s } :: ·) else none
  | _, _ => none
def mgB0 (c : T) : Bk → Bk → Bk
  | .cells t xs, .cells u ys => bif t == u && xs.length == ys.length then .cells t (mgCs c xs ys) else .dead
  | .arr t n xs, .arr u k ys => bif t == u then match mgCols c xs ys with
    | some zs => .arr t (mkIte c n k) zs
    | none => .dead
    else .dead
  | _, _ => .dead
def mgB (c : T) (x y : Bk) : Bk := bif x.beq y then x else mgB0 c x y
def mgM (c : T) : List Bk → List Bk → List Bk
  | x :: xs, y :: ys => mgB c x y :: mgM c xs ys
  | [], ys => ys.map fun _ => .dead
  | xs, [] => xs.map fun _ => .dead

section
variable {E : Env} {ρ : Nat → Rb} {n : Nat} {c : T}
/-- The one that it was. -/
def sel {α : Type} (c : T) (E : Env) (x y : α) : α := if c.tr E = true then x else y
theorem mgC_ok [Fs] {x y : C} {v : Value} (h : Cr E ρ n (sel c E x y) v) : Cr E ρ n (mgC c x y) v := by
  unfold mgC
  cases hb : x.beq y
  · simp only [cond_false]
    split
    · rename_i z hz
      have := pickC_ok (E := E) (ρ := ρ) (n := n) (u := v) (v := v) hz (fun ht => by simpa [sel, ht] using h) (fun ht => by simpa [sel, ht] using h)
      simpa using this
    · exact Cr_one h
  · have := C.beq_eq hb
    subst this
    simpa [sel] using h
theorem mgCs_length [Fs] : ∀ {xs ys : List C}, xs.length = ys.length → (mgCs c xs ys).length = xs.length := by
  intro xs
  induction xs with
  | nil => intro ys h; rfl
  | cons x xs ih => intro ys h; cases ys with
    | nil => simp at h
    | cons y ys => simp only [mgCs, List.length_cons]; rw [ih (by simpa using h)]
theorem mgCs_get [Fs] : ∀ {xs ys : List C} {i : Nat} {z : C}, (mgCs c xs ys)[i]? = some z → ∃ x y, xs[i]? = some x ∧ ys[i]? = some y ∧ z = mgC c x y := by
  intro xs
  induction xs with
  | nil => intro ys i z h; simp [mgCs] at h
  | cons x xs ih => intro ys i z h; cases ys with
    | nil => simp [mgCs] at h
    | cons y ys => cases i with
      | zero => simp [mgCs] at h; exact ⟨x, y, rfl, rfl, h.symm⟩
      | succ i => simp [mgCs] at h; obtain ⟨x', y', h1, h2, h3⟩ := ih h; exact ⟨x', y', by simpa using h1, by simpa using h2, h3⟩
theorem mgCs_ok [Fs] {xs ys : List C} {vs : Array Value} (hl : xs.length = ys.length) (h : F2 (Cr E ρ n) (sel c E xs ys) vs) : F2 (Cr E ρ n) (mgCs c xs ys) vs := by
  have hl' : (sel c E xs ys).length = xs.length := by unfold sel; split <;> omega
  refine ⟨by rw [mgCs_length hl, h.1, hl'], fun i z hz => ?_⟩
  obtain ⟨x, y, h1, h2, rfl⟩ := mgCs_get hz
  obtain ⟨v, h3, h4⟩ := h.2 i (sel c E x y) (by unfold sel; split <;> assumption)
  exact ⟨v, h3, mgC_ok h4⟩
theorem mgCs_okP [Fs] {xs ys : List C} {vs : Array Value} (hl : xs.length = ys.length) (h : F2p (Cr E ρ n) (sel c E xs ys) vs) : F2p (Cr E ρ n) (mgCs c xs ys) vs := by
  have hl' : (sel c E xs ys).length = xs.length := by unfold sel; split <;> omega
  refine ⟨by rw [mgCs_length hl, ← hl']; exact h.1, fun i z hz => ?_⟩
  obtain ⟨x, y, h1, h2, rfl⟩ := mgCs_get hz
  obtain ⟨v, h3, h4⟩ := h.2 i (sel c E x y) (by unfold sel; split <;> assumption)
  exact ⟨v, h3, mgC_ok h4⟩
theorem mgA_ok [Fs] {x y : A} {v : Value} (h : Ar E ρ n (sel c E x y) v) : Ar E ρ n (mgA c x y) v := by
  cases x with
  | c x => cases y with
    | c y =>
      have h' : Cr E ρ n (sel c E x y) v := by unfold sel at h ⊢; split at h <;> simp_all [Ar]
      simp only [mgA]
      cases hb : x.beq y
      · simp only [cond_false]
        split
        · rename_i z hz
          have := pickC_ok (E := E) (ρ := ρ) (n := n) (u := v) (v := v) hz (fun ht => by simpa [sel, ht] using h') (fun ht => by simpa [sel, ht] using h')
          show Cr E ρ n z v
          simpa using this
        · trivial
      · have := C.beq_eq hb
        subst this
        show Cr E ρ n x v
        simpa [sel] using h'
    | _ => trivial
  | agg xs => cases y with
    | agg ys =>
      simp only [mgA]
      cases hl : xs.length == ys.length
      · trivial
      · rw [beq_iff_eq] at hl
        have : ∃ cs, v = .agg cs ∧ F2 (Cr E ρ n) (sel c E xs ys) cs := by
          unfold sel at h ⊢; split at h <;> simp_all [Ar]
        obtain ⟨cs, rfl, h2⟩ := this
        exact ⟨cs, rfl, mgCs_ok hl h2⟩
    | _ => trivial
  | rows xs => cases y with
    | rows ys =>
      simp only [mgA]
      cases hl : listB Col.beq xs ys
      · trivial
      · have e := listB_eq (fun _ _ => Col.beq_eq) hl
        subst e
        have : sel c E (A.rows xs) (A.rows xs) = .rows xs := by unfold sel; split <;> rfl
        rw [this] at h
        exact h
    | _ => trivial
  | dead => cases y <;> trivial
theorem mgAs_length [Fs] : ∀ {xs ys : List A}, xs.length = ys.length → (mgAs c xs ys).length = xs.length := by
  intro xs
  induction xs with
  | nil => intro ys h; rfl
  | cons x xs ih => intro ys h; cases ys with
    | nil => simp at h
    | cons y ys => simp only [mgAs, List.length_cons]; rw [ih (by simpa using h)]
theorem mgAs_get [Fs] : ∀ {xs ys : List A} {i : Nat} {z : A}, (mgAs c xs ys)[i]? = some z → ∃ x y, xs[i]? = some x ∧ ys[i]? = some y ∧ z = mgA c x y := by
  intro xs
  induction xs with
  | nil => intro ys i z h; simp [mgAs] at h
  | cons x xs ih => intro ys i z h; cases ys with
    | nil => simp [mgAs] at h
    | cons y ys => cases i with
      | zero => simp [mgAs] at h; exact ⟨x, y, rfl, rfl, h.symm⟩
      | succ i => simp [mgAs] at h; obtain ⟨x', y', h1, h2, h3⟩ := ih h; exact ⟨x', y', by simpa using h1, by simpa using h2, h3⟩
theorem mgL_ok [Fs] {x y : L} {v : Value} (h : Lr E ρ n (sel c E x y) v) : Lr E ρ n (mgL c x y) v := by
  cases x with
  | a x => cases y with
    | a y => exact mgA_ok (by unfold sel at h ⊢; split at h <;> simp_all [Lr])
    | _ => trivial
  | tup xs => cases y with
    | tup ys =>
      simp only [mgL]
      cases hl : xs.length == ys.length
      · trivial
      · rw [beq_iff_eq] at hl
        have : ∃ cs, v = .tuple cs ∧ F2 (Ar E ρ n) (sel c E xs ys) cs := by
          unfold sel at h ⊢; split at h <;> simp_all [Lr]
        obtain ⟨cs, rfl, h2⟩ := this
        have hl' : (sel c E xs ys).length = xs.length := by unfold sel; split <;> omega
        refine ⟨cs, rfl, by rw [mgAs_length hl, h2.1, hl'], fun i z hz => ?_⟩
        obtain ⟨x, y, h3, h4, rfl⟩ := mgAs_get hz
        obtain ⟨v, h5, h6⟩ := h2.2 i (sel c E x y) (by unfold sel; split <;> assumption)
        exact ⟨v, h5, mgA_ok h6⟩
    | _ => trivial
  | gd d x => cases y with
    | gd e y =>
      simp only [mgL]
      cases hb : d.beq e && x.beq y
      · trivial
      · rw [Bool.and_eq_true] at hb
        have h1 := T.beq_eq hb.1
        have h2 := A.beq_eq hb.2
        subst h1; subst h2
        simpa [sel] using h
    | _ => trivial
theorem mgCols_ok [Fs] : ∀ {xs ys zs : List Col}, mgCols c xs ys = some zs → wid zs = wid (sel c E xs ys) ∧ ∀ p, (colAt zs p).map (fun q => (q.1.k, q.1.m, q.1.s.row E, q.2)) = (colAt (sel c E xs ys) p).map (fun q => (q.1.k, q.1.m, q.1.s.row E, q.2)) := by
  intro xs
  induction xs with
  | nil => intro ys zs h; cases ys <;> simp [mgCols] at h; subst h; exact ⟨by simp [sel], fun p => by simp [sel]⟩
  | cons x xs ih =>
    intro ys zs h
    cases ys with
    | nil => simp [mgCols] at h
    | cons y ys =>
      simp only [mgCols] at h
      cases hb : decide (x.k = y.k) && Nat.beq x.m y.m <;> simp only [hb, cond_true, cond_false] at h
      · cases h
      · rw [Option.map_eq_some_iff] at h
        obtain ⟨l, h1, rfl⟩ := h
        rw [Bool.and_eq_true, decide_eq_true_eq] at hb
        have hm := Nat.eq_of_beq_eq_true hb.2
        obtain ⟨g1, g2⟩ := ih h1
        have e : sel c E (x :: xs) (y :: ys) = sel c E x y :: sel c E xs ys := by unfold sel; split <;> rfl
        have em : (sel c E x y).m = x.m := by unfold sel; split <;> simp [hm]
        have ek : (sel c E x y).k = x.k := by unfold sel; split <;> simp [hb.1]
        have es : (mkIteR c x.s y.s).row E = (sel c E x y).s.row E := by rw [mkIteR_row]; unfold sel; split <;> rfl
        rw [e]
        refine ⟨by simp only [wid, g1, em], fun p => ?_⟩
        simp only [colAt, em]
        cases Nat.blt p x.m <;> simp only [cond_true, cond_false]
        · exact g2 _
        · simp only [Option.map_some, em, ek, es]
theorem Br.same_cols [Fs] {t : TypeId} {k k' : T} {xs ys : List Col} {z : Rb} {o : Option Obj} (hk : k'.den E = k.den E) (hw : wid ys = wid xs) (hc : ∀ p, (colAt ys p).map (fun q => (q.1.k, q.1.m, q.1.s.row E, q.2)) = (colAt xs p).map (fun q => (q.1.k, q.1.m, q.1.s.row E, q.2)))
    (h : Br E ρ n z (.arr t k xs) o) : Br E ρ n z (.arr t k' ys) o := by
  simp only [Br, hk, hw] at h ⊢
  refine ⟨h.1, fun h0 => ?_⟩
  obtain ⟨cs, t, fr, h1, hro, h2, h3, h4⟩ := h.2 h0
  refine ⟨cs, t, fr, h1, hro, h2, h3, fun i p r d hi hd => ?_⟩
  have := hc p
  rw [hd] at this
  simp only [Option.map_some] at this
  obtain ⟨⟨d', r'⟩, h5, h6⟩ := Option.map_eq_some_iff.1 this.symm
  simp only [Prod.mk.injEq] at h6
  obtain ⟨e1, e2, e3, rfl⟩ := h6
  rw [hw, ← e1, ← e2, ← e3]
  exact h4 i p r' d' hi h5
theorem mgB0_ok [Fs] {x y : Bk} {z : Rb} {o : Option Obj} (h : Br E ρ n z (sel c E x y) o) : Br E ρ n z (mgB0 c x y) o := by
  cases x with
  | cells t xs => cases y with
    | cells u ys =>
      simp only [mgB0]
      cases hb : t == u && xs.length == ys.length
      · trivial
      · rw [Bool.and_eq_true, beq_iff_eq, beq_iff_eq] at hb
        obtain ⟨rfl, hl⟩ := hb
        have : ∃ cs, o = some (.cells cs (Nat.div t 2) (0, 0)) ∧ cs.size = z.z ∧ F2p (Cr E ρ n) (sel c E xs ys) cs := by
          unfold sel at h ⊢; split at h <;> simp_all [Br]
        obtain ⟨cs, h1, hz, h2⟩ := this
        exact ⟨cs, h1, hz, mgCs_okP hl h2⟩
    | _ => trivial
  | arr t k xs => cases y with
    | arr u k' ys =>
      simp only [mgB0]
      cases hb : t == u
      · trivial
      · rw [beq_iff_eq] at hb
        subst hb
        simp only [cond_true]
        split
        · rename_i zs hz
          obtain ⟨g1, g2⟩ := mgCols_ok (E := E) hz
          have e : sel c E (Bk.arr t k xs) (Bk.arr t k' ys) = .arr t (sel c E k k') (sel c E xs ys) := by unfold sel; split <;> rfl
          rw [e] at h
          refine Br.same_cols ?_ g1 g2 h
          rw [den_ite]; unfold sel; split <;> rfl
        · trivial
    | _ => trivial
  | dead => cases y <;> trivial
theorem mgB_ok [Fs] {x y : Bk} {z : Rb} {o : Option Obj} (h : Br E ρ n z (sel c E x y) o) : Br E ρ n z (mgB c x y) o := by
  unfold mgB
  cases hb : x.beq y
  · exact mgB0_ok h
  · have := Bk.beq_eq hb
    subst this
    simpa [sel] using h
theorem mgB_ro [Fs] {x y : Bk} (h : (mgB c x y).there E) (hr : (mgB c x y).ro = false) : (sel c E x y).ro = false := by
  unfold mgB at h hr
  cases hb : x.beq y <;> simp only [hb, cond_true, cond_false] at h hr
  · cases x with
    | cells t xs => cases y with
      | cells u ys =>
        simp only [mgB0] at h hr
        cases hb : t == u && xs.length == ys.length <;> simp only [hb, cond_true, cond_false] at h hr
        · exact h.elim
        · rw [Bool.and_eq_true] at hb
          have e := beq_iff_eq.1 hb.1
          subst e
          unfold sel; split <;> exact hr
      | _ => exact h.elim
    | arr t k xs => cases y with
      | arr u k' ys =>
        simp only [mgB0] at h hr
        cases hb : t == u <;> simp only [hb, cond_true, cond_false] at h hr
        · exact h.elim
        · have e := beq_iff_eq.1 hb
          subst e
          split at h
          · rename_i zs hz
            simp only [hz] at hr
            unfold sel; split <;> exact hr
          · exact h.elim
      | _ => exact h.elim
    | dead => exact h.elim
  · have e := Bk.beq_eq hb
    subst e
    unfold sel; split <;> exact hr
theorem mgB_there [Fs] {x y : Bk} (h : (mgB c x y).there E) : (sel c E x y).there E := by
  unfold mgB at h
  cases hb : x.beq y <;> simp only [hb, cond_true, cond_false] at h
  · cases x with
    | cells t xs => cases y with
      | cells u ys => unfold sel; split <;> trivial
      | _ => exact h.elim
    | arr t k xs => cases y with
      | arr u k' ys =>
        simp only [mgB0] at h
        cases hb : t == u <;> simp only [hb, cond_true, cond_false] at h
        · exact h.elim
        · split at h
          · have h' : 0 < (mkIte c k k').den E := h
            rw [den_ite] at h'
            unfold sel
            split at h' <;> rename_i ht
            · rw [if_pos ht]; exact h'
            · rw [if_neg ht]; exact h'
          · exact h.elim
      | _ => exact h.elim
    | dead => cases y <;> exact h.elim
  · have := Bk.beq_eq hb
    subst this
    simpa [sel] using h
theorem mgM_length [Fs] : ∀ {xs ys : List Bk}, (mgM c xs ys).length = max xs.length ys.length := by
  intro xs
  induction xs with
  | nil => intro ys; simp [mgM]
  | cons x xs ih => intro ys; cases ys with
    | nil => simp [mgM]
    | cons y ys => simp only [mgM, List.length_cons, ih]; omega
theorem mgM_get [Fs] : ∀ {xs ys : List Bk} {i : Nat} {z : Bk}, (mgM c xs ys)[i]? = some z → z = .dead ∨ ∃ x y, xs[i]? = some x ∧ ys[i]? = some y ∧ z = mgB c x y := by
  intro xs
  induction xs with
  | nil =>
    intro ys i z h
    simp only [mgM, List.getElem?_map, Option.map_eq_some_iff] at h
    obtain ⟨_, _, rfl⟩ := h; exact .inl rfl
  | cons x xs ih => intro ys i z h; cases ys with
    | nil =>
      simp only [mgM, List.getElem?_map, Option.map_eq_some_iff] at h
      obtain ⟨_, _, rfl⟩ := h; exact .inl rfl
    | cons y ys => cases i with
      | zero => simp [mgM] at h; exact .inr ⟨x, y, rfl, rfl, h.symm⟩
      | succ i =>
        simp [mgM] at h
        rcases ih h with h | ⟨x', y', h1, h2, h3⟩
        · exact .inl h
        · exact .inr ⟨x', y', by simpa using h1, by simpa using h2, h3⟩
end

def mgT (c : T) : Tr → Tr → Tr
  | .nd x l r, .nd y l' r' => bif (Tr.nd x l r).beq (.nd y l' r') then .nd x l r else .nd (mgL c x y) (mgT c l l') (mgT c r r')
  | _, _ => .nil
theorem mgT_get [Fs] {c : T} : ∀ {xs ys : Tr} {i : Nat} {z : L}, (mgT c xs ys).get i = some z → ∃ x y, xs.get i = some x ∧ ys.get i = some y ∧ (z = mgL c x y ∨ (x = y ∧ z = x)) := by
  intro xs
  induction xs with
  | nil => intro ys i z h; simp [mgT, Tr.get] at h
  | nd x l r ihl ihr => intro ys i z h; cases ys with
    | nil => simp [mgT, Tr.get] at h
    | nd y l' r' =>
      rw [mgT] at h
      cases hb : (Tr.nd x l r).beq (.nd y l' r') <;> simp only [hb, cond_true, cond_false] at h
      case true =>
        rw [← Tr.beq_eq hb]
        exact ⟨z, z, h, h, .inr ⟨rfl, rfl⟩⟩
      simp only [Tr.get_nd] at h ⊢
      by_cases h0 : i = 0
      · simp only [if_pos h0, Option.some.injEq] at h ⊢; exact ⟨x, y, rfl, rfl, .inl h.symm⟩
      · by_cases h1 : i % 2 = 1
        · simp only [if_neg h0, if_pos h1] at h ⊢; exact ihl h
        · simp only [if_neg h0, if_neg h1] at h ⊢; exact ihr h
def mgS (c : T) (base : Pc) (k : Kn) (a b : St) : St := ⟨mgT c a.s b.s, mgM c a.m b.m, base, k⟩
theorem mgS_ok [Fs] {X : Cx} {ρ : Nat → Rb} {c : T} {base : Pc} {k : Kn} {s1 s2 : St} {a : Act} {w : World} (hb : pcOk X.E base) (hk : ∀ d ∈ k.ds, d.ok X.E) (h : Rel X ρ (sel c X.E s1 s2) a w) : Rel X ρ (mgS c base k s1 s2) a w := by
  have hlen : (sel c X.E s1 s2).m.length ≤ (mgM c s1.m s2.m).length := by
    rw [mgM_length]; unfold sel; split <;> omega
  have hs : (sel c X.E s1 s2).s = sel c X.E s1.s s2.s := by unfold sel; split <;> rfl
  have hm : ∀ (i : Nat) (x y : Bk), s1.m[i]? = some x → s2.m[i]? = some y → (sel c X.E s1 s2).m[i]? = some (sel c X.E x y) := by
    intro i x y h1 h2; unfold sel; split <;> assumption
  refine ⟨⟨fun i z hz => ?_, hb, hk, h.F⟩, h.dfr, ⟨fun i b hi => ?_, fun i j bi bj hi hj hbi hbj heq => ?_, Nat.le_trans h.mr.len hlen, h.mr.old, fun i b hn hi hro hbl => ?_, h.mr.fr⟩⟩
  · obtain ⟨x, y, h1, h2, hz⟩ := mgT_get hz
    obtain ⟨v, h3, h4⟩ := h.slots i (sel c X.E x y) (by rw [hs]; unfold sel; split <;> assumption)
    rcases hz with rfl | ⟨rfl, rfl⟩
    · exact ⟨v, h3, Lr.mono (fun _ _ => rfl) hlen (mgL_ok h4)⟩
    · exact ⟨v, h3, Lr.mono (fun _ _ => rfl) hlen (by simpa [sel] using h4)⟩
  · rcases mgM_get hi with rfl | ⟨x, y, h1, h2, rfl⟩
    · trivial
    · exact Br.mono (fun _ _ => rfl) hlen (mgB_ok (h.mr.mem i _ (hm i x y h1 h2)))
  · rcases mgM_get hi with rfl | ⟨x, y, h1, h2, rfl⟩
    · exact hbi.elim
    · rcases mgM_get hj with rfl | ⟨x', y', h1', h2', rfl⟩
      · exact hbj.elim
      · exact h.mr.inj i j _ _ (hm i x y h1 h2) (hm j x' y' h1' h2') (mgB_there hbi) (mgB_there hbj) heq
  · rcases mgM_get hi with rfl | ⟨x, y, h1, h2, rfl⟩
    · exact hbl.elim
    · exact h.mr.new i _ hn (hm i x y h1 h2) (mgB_ro hbl hro) (mgB_there hbl)

/-- The facts as one term. -/
def conj0 : Pc → T
  | [] => .lit 1
  | [(t, b)] => bif b then t else mkNot t
  | (t, b) :: rest => mk2 .and (tbT (bif b then t else mkNot t)) (tbT (conj0 rest))
theorem conj0_tr [Fs] {E : Env} : ∀ {pc : Pc}, (conj0 pc).tr E = true ↔ pcOk E pc := by
  intro pc
  induction pc with
  | nil => simp [conj0, T.tr, T.den, pcOk]
  | cons p pc ih =>
    obtain ⟨t, b⟩ := p
    have h1 : (bif b then t else mkNot t).tr E = true ↔ t.tr E = b := by
      cases b <;> simp [tr_mkNot]
    cases pc with
    | nil => simp only [conj0, h1]; simp [pcOk]
    | cons q pc =>
      simp only [conj0]
      rw [tr_and2, Bool.and_eq_true, h1, ih]
      simp [pcOk_cons]
def conj (pc : Pc) : T := (conj0 pc).tidy
theorem conj_tr [Fs] {E : Env} {pc : Pc} : (conj pc).tr E = true ↔ pcOk E pc := by rw [conj, tr_tidy]; exact conj0_tr
/-- Do two lists of facts shut one another out? -/
def contra (b : Pc) (p : T × Bool) : Bool := match dec b p.1 with
  | some r => r != p.2
  | none => false
def exclQ (a b : Pc) : Bool := a.any fun p => b.any fun q => (bif p.2 then !q.2 else q.2) && p.1.beq q.1
/-- A truth by the facts alone, without reckoning. -/
def lookF (t : T) : Pc → Option Bool
  | [] => none
  | (u, b) :: r => bif t.beq u then some b else lookF t r
def dec0 (pc : Pc) : T → Option Bool
  | .un .not a => match dec0 pc a with
    | some b => some (!b)
    | none => none
  | .bin .or a b => match dec0 pc a with
    | some true => some true
    | x => match dec0 pc b with
      | some true => some true
      | some false => match x with
        | some false => some false
        | _ => lookF (.bin .or a b) pc
      | none => lookF (.bin .or a b) pc
  | .bin .and a b => match dec0 pc a with
    | some false => some false
    | x => match dec0 pc b with
      | some false => some false
      | some true => match x with
        | some true => some true
        | _ => lookF (.bin .and a b) pc
      | none => lookF (.bin .and a b) pc
  | t => lookF t pc
theorem lookF_ok [Fs] {E : Env} {t : T} {r : Bool} : ∀ {pc : Pc}, pcOk E pc → lookF t pc = some r → t.tr E = r := by
  intro pc
  induction pc with
  | nil => intro _ h; cases h
  | cons p l ih =>
    intro hp h
    obtain ⟨u, b⟩ := p
    simp only [lookF] at h
    cases hb : t.beq u <;> simp only [hb, cond_true, cond_false] at h
    · exact ih (fun q hq => hp q (List.mem_cons_of_mem _ hq)) h
    · cases h
      rw [T.beq_eq hb]
      exact hp (u, r) List.mem_cons_self
theorem dec0_ok [Fs] {E : Env} {pc : Pc} (hp : pcOk E pc) : ∀ {t : T} {r : Bool}, dec0 pc t = some r → t.tr E = r := by
  intro t
  induction t with
  | un o a ih =>
    intro r h
    cases o with
    | not =>
      simp only [dec0] at h
      split at h
      · rename_i b hb
        cases h
        have := ih hb
        simp only [T.tr, T.den, O1.den, tb_ne] at this ⊢
        rw [← this]
        cases hq : a.den E == 0 <;> simp_all [bne]
      · cases h
    | _ => exact lookF_ok hp h
  | bin o a b iha ihb =>
    intro r h
    cases o with
    | or =>
      have e : (T.bin .or a b).tr E = (a.tr E || b.tr E) := by simp only [T.tr, T.den, O2.den, tb_ne]
      simp only [dec0] at h
      split at h
      · rename_i ha; cases h; rw [e, iha ha]; rfl
      · split at h
        · rename_i hb; cases h; rw [e, ihb hb]; simp
        · rename_i hb
          split at h
          · rename_i ha; cases h; rw [e, iha ha, ihb hb]; rfl
          · exact lookF_ok hp h
        · exact lookF_ok hp h
    | and =>
      have e : (T.bin .and a b).tr E = (a.tr E && b.tr E) := by simp only [T.tr, T.den, O2.den, tb_ne]
      simp only [dec0] at h
      split at h
      · rename_i ha; cases h; rw [e, iha ha]; rfl
      · split at h
        · rename_i hb; cases h; rw [e, ihb hb]; simp
        · rename_i hb
          split at h
          · rename_i ha; cases h; rw [e, iha ha, ihb hb]; rfl
          · exact lookF_ok hp h
        · exact lookF_ok hp h
    | _ => exact lookF_ok hp h
  | _ => intro r h; exact lookF_ok hp h
def contra0 (b : Pc) (p : T × Bool) : Bool := match dec0 b p.1 with
  | some r => r != p.2
  | none => false
theorem contra0_ok [Fs] {E : Env} {b : Pc} {p : T × Bool} (h : contra0 b p = true) (hb : pcOk E b) (hp : p.1.tr E = p.2) : False := by
  unfold contra0 at h
  split at h
  · rename_i r hr
    have := dec0_ok hb hr
    rw [hp] at this
    simp [this] at h
  · cases h
def excl (a b : Pc) : Bool := exclQ a b || a.any (contra0 b) || b.any (contra0 a) || a.any (contra b) || b.any (contra a)
theorem contra_ok [Fs] {E : Env} {b : Pc} {p : T × Bool} (h : contra b p = true) (hb : pcOk E b) (hp : p.1.tr E = p.2) : False := by
  unfold contra at h
  split at h
  · rename_i r hr
    have := dec_ok hb hr
    rw [hp] at this
    simp [this] at h
  · cases h
theorem excl_ok [Fs] {E : Env} {a b : Pc} (h : excl a b = true) (ha : pcOk E a) (hb : pcOk E b) : False := by
  unfold excl at h
  simp only [Bool.or_eq_true, List.any_eq_true] at h
  rcases h with (((h | ⟨p, h1, h2⟩) | ⟨p, h1, h2⟩) | ⟨p, h1, h2⟩) | ⟨p, h1, h2⟩
  · simp only [exclQ, List.any_eq_true, Bool.and_eq_true] at h
    obtain ⟨p, h1, q, h2, h3, h4⟩ := h
    have e1 := ha p h1
    have e2 := hb q h2
    rw [T.beq_eq h4, e2] at e1
    rw [e1] at h3
    cases hp : p.2 <;> simp [hp] at h3
  · exact contra0_ok h2 hb (ha p h1)
  · exact contra0_ok h2 ha (hb p h1)
  · exact contra_ok h2 hb (ha p h1)
  · exact contra_ok h2 ha (hb p h1)

/-- Nothing is lost by the merging: of cells that both ways knew, and of the slots. -/
def C.isAny : C → Bool
  | .any => true
  | _ => false
def keepCs : List C → List C → Bool
  | x :: xs, z :: zs => (x.isAny || !z.isAny) && keepCs xs zs
  | _, _ => true
def keepA : A → A → Bool
  | .dead, _ => true
  | .c x, .c z => x.isAny || !z.isAny
  | .agg xs, .agg zs => keepCs xs zs
  | .rows _, .rows _ => true
  | _, _ => false
def keepL (x y z : L) : Bool :=
  match x, y, z with
  | .a .dead, _, _ => true
  | _, .a .dead, _ => true
  | .a x, .a _, .a z => keepA x z
  | .tup _, _, .tup _ => true
  | .gd _ _, _, _ => true
  | _, .gd _ _, _ => true
  | _, _, _ => false
def keepT : Tr → Tr → Tr → Bool
  | .nd x l r, .nd y l' r', .nd z l2 r2 => bif (Tr.nd x l r).beq (.nd y l' r') then true else keepL x y z && keepT l l' l2 && keepT r r' r2
  | _, _, _ => true
def keepB (x y z : Bk) : Bool :=
  match x, y, z with
  | .dead, _, _ => true
  | _, .dead, _ => true
  | .cells _ xs, _, .cells _ zs => keepCs xs zs
  | _, _, _ => false
/-- ('lo': blocks from there on may be lost) -/
def keepM (lo : Nat) : List Bk → List Bk → List Bk → Bool
  | x :: xs, y :: ys, z :: zs => (match lo with | 0 => true | _ + 1 => x.beq y || keepB x y z) && keepM (lo - 1) xs ys zs
  | _, _, _ => true

/-- The plain ways out, with what came up on each. -/
def splitG (k : Nat) : List Out → List (Pc × St) × List Out
  | [] => ([], [])
  | .good .norm st :: r => let q := splitG k r; ((st.pc.take (st.pc.length - k), st) :: q.1, q.2)
  | x :: r => let q := splitG k r; (q.1, x :: q.2)
theorem rel_t [Fs] {X : Cx} {ρ : Nat → Rb} {c : T} {s1 s2 : St} {a : Act} {w : World} (h : c.tr X.E = true) (hr : Rel X ρ s1 a w) : Rel X ρ (sel c X.E s1 s2) a w := by
  unfold sel; rw [if_pos h]; exact hr
theorem rel_f [Fs] {X : Cx} {ρ : Nat → Rb} {c : T} {s1 s2 : St} {a : Act} {w : World} (h : c.tr X.E = false) (hr : Rel X ρ s2 a w) : Rel X ρ (sel c X.E s1 s2) a w := by
  unfold sel; rw [if_neg (by rw [h]; exact Bool.false_ne_true)]; exact hr
theorem mgM_le1 [Fs] {c : T} {xs ys : List Bk} : xs.length ≤ (mgM c xs ys).length := by rw [mgM_length]; omega
theorem mgM_le2 [Fs] {c : T} {xs ys : List Bk} : ys.length ≤ (mgM c xs ys).length := by rw [mgM_length]; omega
def baseOk (base : Pc) (B : List Df) (st : St) : Bool := listB factB (oldOf st.pc base) base && listB Df.beq (oldOf st.k.ds B) B
def mg2 (ok : St → St → St → Bool) (base : Pc) (n n0 : Nat) (B0 B : List Df) (e : Pc) (st r : St) (es : List Pc) : Option (St × List Pc) :=
  bif baseOk base B0 st && listB Df.beq (oldOf st.k.ds B) B && Nat.ble n n0 && Nat.ble n0 st.k.nv then
    bif Nat.beq st.k.nv n0 then
      let z := mgS (conj e) base r.k st r
      bif es.all (fun q => excl e q) && listB Df.beq st.k.ds B && (Nat.beq r.k.nv n0 && listB Df.beq r.k.ds B || st.bel && ordered n0 (newOf r.k.ds B)) && listB Df.beq (oldOf r.k.ds B) B && Nat.ble n0 r.k.nv && ok st r z then some (z, e :: es) else none
    else
      let k := st.k.nv - n0
      let r' := r.up n0 k
      let es' := es.map (pcSub (upS n0 k))
      let N := newOf st.k.ds B
      let M := newOf r'.k.ds B
      let z := mgS (conj e) base ⟨M ++ (N ++ B), r'.k.nv⟩ st r'
      bif es'.all (fun q => excl e q) && st.bel && ordered n0 N && N.all (fun d => Nat.ble d.hi st.k.nv) && ordered st.k.nv M && r.k.ds.all (·.side n0) && B.all (·.bel n0) && pcBel n0 base && listB Df.beq (oldOf r.k.ds B) B && Nat.ble n0 r.k.nv && ok st r' z then some (z, e :: es') else none
  else none
/-- What came up alike in both, and how many letters there are behind it. -/
def commR : List Df → List Df → List Df → Nat → List Df × Nat
  | d :: l, d' :: l', acc, n => bif d.beq d' then commR l l' (d :: acc) d.hi else (acc, n)
  | _, _, acc, n => (acc, n)
def comm (n0 : Nat) (B l l' : List Df) : List Df × Nat := commR (newOf l B).reverse (newOf l' B).reverse B n0
def mgAll (ok : St → St → St → Bool) (base : Pc) (n0 : Nat) (B : List Df) : List (Pc × St) → Option (St × List Pc)
  | [] => none
  | [(e, st)] => bif baseOk base B st then some (st, [e]) else none
  | (e, st) :: rest => match mgAll ok base n0 B rest with
    | some (r, es) => mg2 ok base n0 (comm n0 B st.k.ds r.k.ds).2 B (comm n0 B st.k.ds r.k.ds).1 e st r es
    | none => none
theorem listB_df [Fs] {l B : List Df} (h : listB Df.beq l B = true) : l = B := listB_eq (fun _ _ => Df.beq_eq) h
theorem mgAll_ok [Fs] {X : Cx} {ok : St → St → St → Bool} {base : Pc} {n0 : Nat} {B : List Df} : ∀ {l : List (Pc × St)} {z : St} {es : List Pc}, mgAll ok base n0 B l = some (z, es) → (∀ p ∈ l, p.1 = newOf p.2.pc base) → (∀ p ∈ l, n0 ≤ p.2.k.nv) →
    ∀ p ∈ l, ∀ E ρ a w, Rel (X.at E) ρ p.2 a w → ∃ E', Agree E E' n0 ∧ Rel (X.at E') ρ z a w ∧ pcOk E' base ∧ p.2.m.length ≤ z.m.length ∧ n0 ≤ z.k.nv ∧ ∃ e ∈ es, pcOk E' e := by
  intro l
  induction l with
  | nil => intro z es h; simp [mgAll] at h
  | cons q rest ih =>
    intro z es h hpc hnv p hp E ρ a w hr
    obtain ⟨e, st⟩ := q
    have drops : ∀ {s : St} {E : Env}, baseOk base B s = true → pcOk E s.pc → pcOk E base := by
      intro s E hs hok
      simp only [baseOk, Bool.and_eq_true] at hs
      have := listB_eq (fun _ _ => factB_eq) hs.1
      rw [← this]
      exact fun x hx => hok x (List.mem_of_mem_drop hx)
    have takes : ∀ q ∈ (e, st) :: rest, ∀ E, pcOk E q.2.pc → pcOk E q.1 := by
      intro q hq E hok
      rw [hpc q hq]
      exact fun x hx => hok x (List.mem_of_mem_take hx)
    cases rest with
    | nil =>
      simp only [mgAll] at h
      cases hb : baseOk base B st <;> simp only [hb, cond_true, cond_false] at h
      · cases h
      · cases h
        simp at hp
        subst hp
        exact ⟨E, Agree.refl _ _, hr, drops hb hr.pc, Nat.le_refl _, hnv _ List.mem_cons_self, e, List.mem_cons_self, takes _ List.mem_cons_self E hr.pc⟩
    | cons q2 rest =>
      simp only [mgAll] at h
      split at h
      · rename_i r es0 hrest
        have ih' := ih hrest (fun p hp => hpc p (List.mem_cons_of_mem _ hp)) (fun p hp => hnv p (List.mem_cons_of_mem _ hp))
        revert h
        generalize (comm n0 B st.k.ds r.k.ds).2 = n1
        generalize (comm n0 B st.k.ds r.k.ds).1 = B1
        intro h
        unfold mg2 at h
        dsimp only at h
        cases hb : baseOk base B st && listB Df.beq (oldOf st.k.ds B1) B1 && Nat.ble n0 n1 && Nat.ble n1 st.k.nv <;> simp only [hb, cond_true, cond_false] at h
        · cases h
        rw [Bool.and_eq_true, Bool.and_eq_true, Bool.and_eq_true, Nat.ble_eq, Nat.ble_eq] at hb
        obtain ⟨⟨⟨hbase, hdsB⟩, h01⟩, hn⟩ := hb
        have hdsB : oldOf st.k.ds B1 = B1 := listB_df hdsB
        -- not both
        have noex : ∀ {E' : Env} {es' : List Pc} {e1 : Pc}, es'.all (fun q => excl e q) = true → e1 ∈ es' → pcOk E' e1 → (conj e).tr E' = false := by
          intro E' es' e1 hex he1 h1
          cases hc : (conj e).tr E'
          · rfl
          · rw [List.all_eq_true] at hex
            exact (excl_ok (hex e1 he1) (conj_tr.1 hc) h1).elim
        cases hk0 : Nat.beq st.k.nv n1 <;> simp only [hk0, cond_true, cond_false] at h
        · -- letters came up in the first
          have hk0 : st.k.nv ≠ n1 := fun he => by rw [he, Nat.beq_refl] at hk0; cases hk0
          cases hc : (es0.map (pcSub (upS n1 (st.k.nv - n1)))).all (fun q => excl e q) && st.bel && ordered n1 (newOf st.k.ds B1) && (newOf st.k.ds B1).all (fun d => Nat.ble d.hi st.k.nv) && ordered st.k.nv (newOf (r.up n1 (st.k.nv - n1)).k.ds B1) && r.k.ds.all (·.side n1) && B1.all (·.bel n1) && pcBel n1 base && listB Df.beq (oldOf r.k.ds B1) B1 && Nat.ble n1 r.k.nv && ok st (r.up n1 (st.k.nv - n1)) (mgS (conj e) base ⟨newOf (r.up n1 (st.k.nv - n1)).k.ds B1 ++ (newOf st.k.ds B1 ++ B1), (r.up n1 (st.k.nv - n1)).k.nv⟩ st (r.up n1 (st.k.nv - n1))) <;> simp only [hc, cond_true, cond_false] at h
          · cases h
          simp only [Bool.and_eq_true] at hc
          obtain ⟨⟨⟨⟨⟨⟨⟨⟨⟨⟨c1, c2⟩, c3⟩, c4⟩, c5⟩, c6⟩, c7⟩, c8⟩, c9⟩, c10⟩, c11⟩ := hc
          rw [Nat.ble_eq] at c10
          cases h
          have hst : newOf st.k.ds B1 ++ B1 = st.k.ds := by conv => rhs; rw [← new_old st.k.ds B1, hdsB]
          have hnvz : n0 ≤ (r.up n1 (st.k.nv - n1)).k.nv := by simp only [St.up, Kn.up]; omega
          rcases List.mem_cons.1 hp with rfl | hp
          · obtain ⟨x1, x2, x3⟩ := extL_ok (E := E) c5
            refine ⟨_, x1.mono (Nat.le_trans h01 hn), ?_⟩
            have hr' := hr.agree c2 x1
            have hcj := conj_tr.2 (takes _ List.mem_cons_self _ hr'.pc)
            refine ⟨mgS_ok (drops hbase hr'.pc) (fun d hd => ?_) (rel_t hcj hr'), drops hbase hr'.pc, mgM_le1, hnvz, e, List.mem_cons_self, takes _ List.mem_cons_self _ hr'.pc⟩
            rcases List.mem_append.1 hd with hd | hd
            · exact x2 d hd
            · rw [hst] at hd; exact hr'.ds d hd
          · obtain ⟨E1, g1, g2, g3, g4, g5, e1, he1, g6⟩ := ih' p hp E ρ a w hr
            let E2 : Env := ⟨fun i => if i < n1 then E1.x i else if st.k.nv ≤ i then E1.x (i - (st.k.nv - n1)) else default, E1.F⟩
            obtain ⟨x1, x2, x3⟩ := extL_ok (E := E2) c3
            have hag : Agree E1 (extL E2 (newOf st.k.ds B1)) n1 := ⟨x1.F, fun i hi => by rw [x1.x i hi]; simp only [E2]; rw [if_pos hi]⟩
            have hup : UpOk E1 (extL E2 (newOf st.k.ds B1)) n1 (st.k.nv - n1) := by
              refine ⟨x1.F, fun i => ?_⟩
              unfold up
              cases hi : Nat.blt i n1 <;> simp only [cond_true, cond_false]
              · have hi' : ¬ i < n1 := by rw [← Nat.blt_eq, hi]; exact Bool.false_ne_true
                rw [x3 _ (fun d hd => by
                  rw [List.all_eq_true] at c4
                  have := c4 d hd
                  rw [Nat.ble_eq] at this; omega)]
                simp only [E2]
                rw [if_neg (by omega), if_pos (by omega)]
                congr 1; omega
              · rw [Nat.blt_eq] at hi; exact hag.x i hi
            have hr' := Rel.up hup c6 g2
            have hb' := pcOk_agree hag c8 g3
            have he' : pcOk (extL E2 (newOf st.k.ds B1)) (pcSub (upS n1 (st.k.nv - n1)) e1) := pcOk_sub hup.sub g6
            have hmem : pcSub (upS n1 (st.k.nv - n1)) e1 ∈ es0.map (pcSub (upS n1 (st.k.nv - n1))) := List.mem_map_of_mem he1
            have hcj := noex c1 hmem he'
            refine ⟨_, g1.trans hag h01, mgS_ok hb' (fun d hd => ?_) (rel_f hcj hr'), hb', Nat.le_trans g4 (Nat.le_trans (Nat.le_of_eq (by simp [St.up])) mgM_le2), hnvz, _, List.mem_cons_of_mem _ hmem, he'⟩
            rcases List.mem_append.1 hd with hd | hd
            · exact hr'.ds d (List.mem_of_mem_take hd)
            · rcases List.mem_append.1 hd with hd | hd
              · exact x2 d hd
              · rw [List.all_eq_true] at c7
                refine Df.ok_agree hag (c7 d hd) (g2.ds d ?_)
                have := listB_df c9
                rw [← this] at hd
                exact List.mem_of_mem_drop hd
        · -- none came up in the first
          have hk0 := Nat.eq_of_beq_eq_true hk0
          cases hc : es0.all (fun q => excl e q) && listB Df.beq st.k.ds B1 && (Nat.beq r.k.nv n1 && listB Df.beq r.k.ds B1 || st.bel && ordered n1 (newOf r.k.ds B1)) && listB Df.beq (oldOf r.k.ds B1) B1 && Nat.ble n1 r.k.nv && ok st r (mgS (conj e) base r.k st r) <;> simp only [hc, cond_true, cond_false] at h
          · cases h
          simp only [Bool.and_eq_true] at hc
          obtain ⟨⟨⟨⟨⟨c1, c2⟩, c3⟩, c4⟩, c5⟩, c6⟩ := hc
          rw [Nat.ble_eq] at c5
          cases h
          have hst := listB_df c2
          have hrB := listB_df c4
          rcases List.mem_cons.1 hp with rfl | hp
          · -- the letters of the others are given their meanings
            have main : ∃ E', Agree E E' n0 ∧ Rel (X.at E') ρ st a w ∧ ∀ d ∈ r.k.ds, d.ok E' := by
              rw [Bool.or_eq_true, Bool.and_eq_true, Bool.and_eq_true] at c3
              rcases c3 with ⟨_, c3⟩ | ⟨c3, c3'⟩
              · refine ⟨E, Agree.refl _ _, hr, ?_⟩
                rw [listB_df c3, ← hst]; exact hr.ds
              · obtain ⟨x1, x2, x3⟩ := extL_ok (E := E) c3'
                have hr' := hr.agree c3 (by rw [hk0]; exact x1)
                refine ⟨_, x1.mono h01, hr', fun d hd => ?_⟩
                rw [← new_old r.k.ds B1, hrB] at hd
                rcases List.mem_append.1 hd with hd | hd
                · exact x2 d hd
                · rw [← hst] at hd; exact hr'.ds d hd
            obtain ⟨E', h1, h2, h3⟩ := main
            have hcj := conj_tr.2 (takes _ List.mem_cons_self _ h2.pc)
            exact ⟨E', h1, mgS_ok (drops hbase h2.pc) h3 (rel_t hcj h2), drops hbase h2.pc, mgM_le1, Nat.le_trans h01 c5, e, List.mem_cons_self, takes _ List.mem_cons_self _ h2.pc⟩
          · obtain ⟨E1, g1, g2, g3, g4, g5, e1, he1, g6⟩ := ih' p hp E ρ a w hr
            have hcj := noex c1 he1 g6
            exact ⟨E1, g1, mgS_ok g3 g2.ds (rel_f hcj g2), g3, Nat.le_trans g4 mgM_le2, Nat.le_trans h01 c5, e1, List.mem_cons_of_mem _ he1, g6⟩
      · cases h
theorem splitG_ok [Fs] {k : Nat} : ∀ {l : List Out}, (∀ p ∈ (splitG k l).1, p.1 = p.2.pc.take (p.2.pc.length - k)) ∧ (∀ st, Out.good .norm st ∈ l → ∃ p ∈ (splitG k l).1, p.2 = st) ∧ (∀ o ∈ l, (∀ st, o ≠ .good .norm st) → o ∈ (splitG k l).2) := by
  intro l
  induction l with
  | nil => exact ⟨fun p hp => (nomatch hp), fun st h => (nomatch h), fun o h => (nomatch h)⟩
  | cons x r ih =>
    obtain ⟨h1, h2, h3⟩ := ih
    unfold splitG
    split
    · rename_i he; cases he
    · rename_i st r' he
      cases he
      refine ⟨fun p hp => ?_, fun st' hst => ?_, fun o ho hne => ?_⟩
      · rcases List.mem_cons.1 hp with rfl | hp
        · rfl
        · exact h1 p hp
      · rcases List.mem_cons.1 hst with he | hst
        · cases he; exact ⟨_, List.mem_cons_self, rfl⟩
        · obtain ⟨p, hp, e⟩ := h2 st' hst; exact ⟨p, List.mem_cons_of_mem _ hp, e⟩
      · rcases List.mem_cons.1 ho with rfl | ho
        · exact (hne st rfl).elim
        · exact h3 o ho hne
    · rename_i y r' hne' he
      cases he
      refine ⟨h1, fun st' hst => ?_, fun o ho hne => ?_⟩
      · rcases List.mem_cons.1 hst with he | hst
        · exact (hne' st' he.symm).elim
        · exact h2 st' hst
      · rcases List.mem_cons.1 ho with rfl | ho
        · exact List.mem_cons_self
        · exact List.mem_cons_of_mem _ (h3 o ho hne)
def Out.fc {β : Type} (o : Out) (k : Out → β) : β := match o with
  | .good .norm st => st.fc fun st => k (.good .norm st)
  | .good .ret st => st.fc fun st => k (.good .ret st)
  | .good (.exit id) st => fcN id fun id => st.fc fun st => k (.good (.exit id) st)
  | .good (.pan c) st => c.fc fun c => st.fc fun st => k (.good (.pan c) st)
  | .bad pc ds => fcPc pc fun pc => fcLs Df.fc ds fun ds => k (.bad pc ds)
theorem Out.fc_eq [Fs] {β : Type} (o : Out) (k : Out → β) : o.fc k = k o := by
  cases o with
  | bad pc ds => simp only [Out.fc, fcPc_eq]; exact fcLs_eq Df.fc_eq _ _
  | good e st => cases e <;> simp only [Out.fc, St.fc_eq, fcN_eq, C.fc_eq]
/-- The slots alone. -/
def Out.fcT {β : Type} (o : Out) (k : Out → β) : β := match o with
  | .good .norm st => st.s.fc fun s => k (.good .norm ⟨s, st.m, st.pc, st.k⟩)
  | x => k x
theorem Out.fcT_eq [Fs] {β : Type} (o : Out) (k : Out → β) : o.fcT k = k o := by
  unfold Out.fcT; split <;> simp only [Tr.fc_eq]
/-- One of several. -/
def disj : List Pc → T
  | [] => .lit 0
  | [e] => conj e
  | e :: r => tidyO (conj e) (disj r)
theorem disj_tr [Fs] {E : Env} {e : Pc} : ∀ {es : List Pc}, e ∈ es → pcOk E e → (disj es).tr E = true := by
  intro es
  induction es with
  | nil => intro h; cases h
  | cons d r ih =>
    intro hm he
    cases r with
    | nil =>
      rcases List.mem_cons.1 hm with rfl | hm
      · exact conj_tr.2 he
      · cases hm
    | cons d' r =>
      simp only [disj] at ih ⊢
      rw [tr_tidyO]
      rcases List.mem_cons.1 hm with rfl | hm
      · rw [conj_tr.2 he]; rfl
      · rw [ih hm he, Bool.or_true]
/-- Which of the ways it was is known to be one of them, where that is told in short. -/
def St.oneOf (z : St) (es : List Pc) : St := bif Nat.ble es.length 3 && es.all (fun e => Nat.ble e.length 4 && e.all fun p => p.1.few 1) then
    (disj es).fc fun d => bif d.few 3 && !d.isNum then { z with pc := addF d true z.pc } else z
  else z
theorem Rel.oneOf [Fs] {X : Cx} {ρ : Nat → Rb} {z : St} {a : Act} {w : World} (h : Rel X ρ z a w) {es : List Pc} {e : Pc} (he : e ∈ es) (hp : pcOk X.E e) : Rel X ρ (z.oneOf es) a w := by
  unfold St.oneOf
  cases Nat.ble es.length 3 && es.all (fun e => Nat.ble e.length 4 && e.all fun p => p.1.few 1) <;> simp only [cond_true, cond_false]
  · exact h
  rw [T.fc_eq]
  cases (disj es).few 3 && !(disj es).isNum <;> simp only [cond_true, cond_false]
  · exact h
  · exact ⟨⟨h.slots, pcOk_addF.2 ⟨disj_tr he hp, h.pc⟩, h.ds, h.F⟩, h.dfr, h.mr⟩
theorem St.oneOf_m [Fs] (z : St) (es : List Pc) : (z.oneOf es).m = z.m ∧ (z.oneOf es).k = z.k := by
  unfold St.oneOf
  cases Nat.ble es.length 3 && es.all (fun e => Nat.ble e.length 4 && e.all fun p => p.1.few 1)
  · exact ⟨rfl, rfl⟩
  rw [cond_true, T.fc_eq]
  cases (disj es).few 3 && !(disj es).isNum
  · exact ⟨rfl, rfl⟩
  · exact ⟨rfl, rfl⟩
/-- Several plain ways out are made one, where nothing is lost by it. -/
def merge0 (ok : St → St → St → Bool) (st0 : St) (l : List Out) : List Out :=
  let q := splitG st0.pc.length l
  match q.1 with
  | _ :: _ :: _ => bif q.1.all (fun p => Nat.ble st0.k.nv p.2.k.nv) then match mgAll ok st0.pc st0.k.nv st0.k.ds q.1 with
    | some (z, es) => .good .norm (z.oneOf es) :: q.2
    | none => l
    else l
  | _ => l
theorem merge0_ok [Fs] {X : Cx} {ρ : Nat → Rb} {n : Nat} {Q : Exit → Act → World → Prop} {ok : St → St → St → Bool} {st0 : St} {l : List Out} (h : ∀ o ∈ merge0 ok st0 l, Sat X ρ n st0.k.nv Q o) : ∀ o ∈ l, Sat X ρ n st0.k.nv Q o := by
  unfold merge0 at h
  dsimp only at h
  split at h
  · cases hv : (splitG st0.pc.length l).1.all (fun p => Nat.ble st0.k.nv p.2.k.nv) <;> simp only [hv, cond_true, cond_false] at h
    · exact h
    split at h
    · rename_i z es hz
      obtain ⟨h1, h2, h3⟩ := splitG_ok (k := st0.pc.length) (l := l)
      intro o ho
      by_cases hn : ∃ st, o = .good .norm st
      · obtain ⟨st, rfl⟩ := hn
        obtain ⟨p, hp, rfl⟩ := h2 st ho
        intro E' ρ' a' w' L g3
        rw [List.all_eq_true] at hv
        obtain ⟨E2, h4, h5, _, h6, h7, e, he, h8⟩ := mgAll_ok hz h1 (fun p hp => by have := hv p hp; rwa [Nat.ble_eq] at this) p hp E' ρ' a' w' g3
        exact h _ List.mem_cons_self E2 ρ' a' w' ⟨L.E.trans h4 (Nat.le_refl _), L.ρ, by rw [(St.oneOf_m z es).1]; exact Nat.le_trans L.n h6, by rw [(St.oneOf_m z es).2]; exact h7⟩ (Rel.oneOf h5 he h8)
      · exact h o (List.mem_cons_of_mem _ (h3 o ho fun st e => hn ⟨st, e⟩))
    · exact h
  · exact h
/-- Are two ways out the same? -/
def Out.beq : Out → Out → Bool
  | .good .norm a, .good .norm b => a.beq b
  | .good .ret a, .good .ret b => a.beq b
  | .good (.exit i) a, .good (.exit j) b => Nat.beq i j && a.beq b
  | _, _ => false
theorem Out.beq_eq [Fs] {a b : Out} (h : a.beq b = true) : a = b := by
  unfold Out.beq at h
  split at h
  · rw [St.beq_eq h]
  · rw [St.beq_eq h]
  · rw [Bool.and_eq_true] at h
    rw [Nat.eq_of_beq_eq_true h.1, St.beq_eq h.2]
  · cases h
def nubO : List Out → List Out
  | [] => []
  | x :: r => let r' := nubO r; bif r'.any (x.beq ·) then r' else x :: r'
theorem mem_nubO [Fs] {x : Out} : ∀ {l : List Out}, x ∈ l → x ∈ nubO l := by
  intro l
  induction l with
  | nil => intro h; cases h
  | cons y r ih =>
    intro h
    simp only [nubO]
    cases hc : (nubO r).any (y.beq ·) <;> simp only [cond_true, cond_false]
    · rcases List.mem_cons.1 h with rfl | h
      · exact List.mem_cons_self
      · exact List.mem_cons_of_mem _ (ih h)
    · rcases List.mem_cons.1 h with rfl | h
      · rw [List.any_eq_true] at hc
        obtain ⟨z, h1, h2⟩ := hc
        rw [Out.beq_eq h2]; exact h1
      · exact ih h
def merge (ok : St → St → St → Bool) (st0 : St) (l : List Out) : List Out := match l with
  | [] => []
  | [x] => [x]
  | l => fcLs Out.fc l fun l => fcLs Out.fc (merge0 ok st0 (nubO l)) id
theorem merge_ok [Fs] {X : Cx} {ρ : Nat → Rb} {n : Nat} {Q : Exit → Act → World → Prop} {ok : St → St → St → Bool} {st0 : St} {l : List Out} (h : ∀ o ∈ merge ok st0 l, Sat X ρ n st0.k.nv Q o) : ∀ o ∈ l, Sat X ρ n st0.k.nv Q o := by
  unfold merge at h
  split at h
  · exact h
  · exact h
  · simp only [fcLs_eq Out.fc_eq, id] at h
    exact fun o ho => merge0_ok h o (mem_nubO ho)
/-- Nothing that both ways knew is lost; blocks from 'lo' on may be. -/
def okAll (lo : Nat) (a b z : St) : Bool := keepT a.s b.s z.s && keepM lo a.m b.m z.m
def keepAt (a b z : St) (t : Nat) : Bool := match a.s.get t, b.s.get t, z.s.get t with
  | some x, some y, some u => keepL x y u
  | _, _, _ => true
def keepBk (a b z : St) (t : Nat) : Bool := match z.s.get t with
  | some (.a (.c (.ptr p _))) => match a.m[p]?, b.m[p]?, z.m[p]? with
    | some x, some y, some u => keepB x y u
    | _, _, _ => false
  | _ => false
/-- The results are not lost, nor blocks below 'lo'. -/
def okRes (lo : Nat) (rs : List ResultVar) (a b z : St) : Bool := keepM lo a.m b.m z.m && rs.all fun
  | .tmp t => keepAt a b z t
  | .cell t _ => keepAt a b z t && keepBk a b z t

/-- Only these slots. -/
def Tr.blank : Tr → Tr
  | .nil => .nil
  | .nd _ l r => .nd (.a .dead) l.blank r.blank
theorem Tr.get_blank [Fs] : ∀ {t : Tr} {i : Nat} {z : L}, t.blank.get i = some z → z = .a .dead ∧ ∃ x, t.get i = some x := by
  intro t
  induction t with
  | nil => intro i z h; simp [Tr.blank, Tr.get] at h
  | nd x l r ihl ihr =>
    intro i z h
    simp only [Tr.blank, Tr.get_nd] at h ⊢
    by_cases h0 : i = 0
    · simp only [if_pos h0, Option.some.injEq] at h ⊢; exact ⟨h.symm, x, rfl⟩
    · by_cases h1 : i % 2 = 1
      · simp only [if_neg h0, if_pos h1] at h ⊢; exact ihl h
      · simp only [if_neg h0, if_neg h1] at h ⊢; exact ihr h
def onlyF (t : Tr) : List Nat → Tr → Tr
  | [], u => u
  | i :: rs, u => match t.get i with
    | some x => onlyF t rs (u.set i x)
    | none => onlyF t rs u
theorem onlyF_ok [Fs] {r : L → Value → Prop} {t : Tr} {vs : Array Value} (h : S2 r t vs) : ∀ {rs : List Nat} {u : Tr}, S2 r u vs → S2 r (onlyF t rs u) vs := by
  intro rs
  induction rs with
  | nil => intro u hu; exact hu
  | cons i rs ih =>
    intro u hu
    simp only [onlyF]
    split
    · rename_i x hx
      refine ih fun j y hy => ?_
      rw [Tr.get_set] at hy
      split at hy
      · rename_i hij
        subst hij
        rw [Option.map_eq_some_iff] at hy
        obtain ⟨_, _, rfl⟩ := hy
        exact h i x hx
      · exact hu j y hy
    · exact ih hu
def only (rs : List Nat) (t : Tr) : Tr := onlyF t rs t.blank
theorem Rel.only [Fs] {X : Cx} {ρ : Nat → Rb} {st : St} {a : Act} {w : World} (h : Rel X ρ st a w) (rs : List Nat) : Rel X ρ ⟨Go.Sy.only rs st.s, st.m, st.pc, st.k⟩ a w := by
  refine ⟨⟨onlyF_ok h.slots fun i z hz => ?_, h.pc, h.ds, h.F⟩, h.dfr, h.mr⟩
  obtain ⟨rfl, x, hx⟩ := Tr.get_blank hz
  obtain ⟨v, h1, _⟩ := h.slots i x hx
  exact ⟨v, h1, trivial⟩
def rsSlots (rs : List ResultVar) : List Nat := rs.map fun
  | .tmp t => t
  | .cell t _ => t
/-- A body's ways out: what is not a result is forgotten. -/
def trimO (rs : List Nat) : Out → Out
  | .good .ret st => .good .norm ⟨only rs st.s, st.m, st.pc, st.k⟩
  | .good .norm st => .good .norm ⟨only rs st.s, st.m, st.pc, st.k⟩
  | o => o
end Go.Sy
namespace Go.Sy
/-! calls that are deferred, panics that are caught -/
/-- A deferred call: of which function, with which addresses. -/
structure Dfr where
  g : Nat
  ps : List (Nat × Nat)
def ptrV (ρ : Nat → Rb) (p : Nat × Nat) : Value := .pointer (some ⟨(ρ p.1).g, p.2, none⟩)
def DfrOk (ρ : Nat → Rb) (n : Nat) (d : Dfr) (v : Deferred) : Prop :=
  ∃ cap, v.target = .fn (.func d.g) cap ∧ v.args ++ cap = (d.ps.map (ptrV ρ)).toArray ∧ ∀ p ∈ d.ps, p.1 < n
inductive DfrsOk (ρ : Nat → Rb) (n : Nat) : List Dfr → List Deferred → Prop
  | nil : DfrsOk ρ n [] []
  | cons {d : Dfr} {v : Deferred} {D : List Dfr} {vs : List Deferred} : DfrOk ρ n d v → DfrsOk ρ n D vs → DfrsOk ρ n (d :: D) (v :: vs)
theorem DfrOk.mono [Fs] {ρ ρ' : Nat → Rb} {n n' : Nat} (hρ : ∀ i, i < n → ρ' i = ρ i) (hn : n ≤ n') {d : Dfr} {v : Deferred} (h : DfrOk ρ n d v) : DfrOk ρ' n' d v := by
  obtain ⟨cap, h1, h2, h3⟩ := h
  refine ⟨cap, h1, h2.trans ?_, fun p hp => Nat.lt_of_lt_of_le (h3 p hp) hn⟩
  congr 1
  exact List.map_congr_left fun p hp => by unfold ptrV; rw [hρ _ (h3 p hp)]
theorem DfrsOk.mono [Fs] {ρ ρ' : Nat → Rb} {n n' : Nat} (hρ : ∀ i, i < n → ρ' i = ρ i) (hn : n ≤ n') {D : List Dfr} {vs : List Deferred} (h : DfrsOk ρ n D vs) : DfrsOk ρ' n' D vs := by
  induction h with
  | nil => exact .nil
  | cons h _ ih => exact .cons (h.mono hρ hn) ih
def evDf (st : St) (c : Call) : Option Dfr := match c.callee with
  | .value f => match ptrsOf st c.args.toList, opC st f with
    | some ps, some (.fn g) => some ⟨g, ps⟩
    | some ps, some (.clo g caps) => some ⟨g, ps ++ caps⟩
    | _, _ => none
  | _ => none
theorem evDf_ok [Fs] {P : Program} {X : Cx} {ρ : Nat → Rb} {st : St} {a : Act} (h : SRel X ρ st a) {o : Oper} {c : Call} (ho : o.op = .defer c) {d : Dfr} (hd : evDf st c = some d) (w : World) :
    ∃ v, (execOp a.eval o).run P w = .ok (.defer v) w ∧ DfrOk ρ st.m.length d v := by
  unfold evDf at hd
  have hmap : c.args.map a.eval = (c.args.toList.map a.eval).toArray := by apply Array.ext'; simp
  split at hd
  · rename_i f hc
    split at hd
    · rename_i ps g hps hf
      cases hd
      obtain ⟨h2, h1⟩ := ptrsOf_ok h hps
      have hv := opC_ok h hf
      simp only [Cr] at hv
      refine ⟨⟨.fn (.func g) #[], c.args.map a.eval⟩, by simp [execOp, ho, resolve, hc, hv, Deferred.ofValue], #[], rfl, ?_, h2⟩
      simp only [Array.append_empty]
      rw [hmap, h1]; rfl
    · rename_i ps g caps hps hf
      cases hd
      obtain ⟨h2, h1⟩ := ptrsOf_ok h hps
      obtain ⟨h3, h4⟩ := opC_ok h hf
      refine ⟨⟨.fn (.func g) (caps.map (ptrV ρ)).toArray, c.args.map a.eval⟩, ?_, _, rfl, ?_, fun p hp => ?_⟩
      · have : (caps.map fun p => Value.pointer (some ⟨(ρ p.1).g, p.2, none⟩)).toArray = (caps.map (ptrV ρ)).toArray := rfl
        rw [this] at h4
        simp [execOp, ho, resolve, hc, h4, Deferred.ofValue]
      · simp only
        rw [hmap, h1, List.map_append]; simp [ptrV]
      · rcases List.mem_append.1 hp with hp | hp
        · exact h2 p hp
        · exact h3 p hp
    · cases hd
  · cases hd

/-- One way out, with what is deferred there. -/
abbrev DO := List Dfr × Out
def SatD [Fs] (X : Cx) (ρ : Nat → Rb) (n v : Nat) (Q : Exit → Act → World → Prop) : DO → Prop
  | (D, .good (.pan c) st') => ∀ ds E' ρ' a' w' x, Later X.E ρ n v E' ρ' st' → Rel ({ X with D := ds }.at E') ρ' st' a' w' → DfrsOk ρ' st'.m.length D ds → Cr E' ρ' st'.m.length c x → Q (.panic [{ v := x, recovered := false }]) a' w'
  | (D, .good e st') => ∀ ds E' ρ' a' w', Later X.E ρ n v E' ρ' st' → Rel ({ X with D := ds }.at E') ρ' st' a' w' → DfrsOk ρ' st'.m.length D ds → Q e.to a' w'
  | (_, .bad pc ds) => ∀ E', Agree X.E E' v → pcOk E' pc → (∀ d ∈ ds, d.ok E') → False
theorem SatD.from [Fs] {X : Cx} {ρ ρ1 : Nat → Rb} {E1 : Env} {n v : Nat} {Q : Exit → Act → World → Prop} {p : DO} {st1 : St} {D1 : List Deferred} (h : SatD X ρ n v Q p) (L : Later X.E ρ n v E1 ρ1 st1) : SatD ({ X with D := D1 }.at E1) ρ1 st1.m.length st1.k.nv Q p := by
  obtain ⟨D, o⟩ := p
  cases o with
  | bad pc ds => exact fun E' hE => h E' (L.E.trans hE L.v)
  | good e st' =>
    cases e with
    | pan c => exact fun ds E' ρ' a' w' x L2 h3 hD hx => h ds E' ρ' a' w' x (L.trans L2) h3 hD hx
    | norm => exact fun ds E' ρ' a' w' L2 h3 hD => h ds E' ρ' a' w' (L.trans L2) h3 hD
    | ret => exact fun ds E' ρ' a' w' L2 h3 hD => h ds E' ρ' a' w' (L.trans L2) h3 hD
    | exit id => exact fun ds E' ρ' a' w' L2 h3 hD => h ds E' ρ' a' w' (L.trans L2) h3 hD
theorem SatD.sat [Fs] {X : Cx} {ρ : Nat → Rb} {n v : Nat} {Q : Exit → Act → World → Prop} {D : List Dfr} {o : Out} (h : SatD X ρ n v Q (D, o)) (hD : DfrsOk ρ n D X.D) : Sat X ρ n v Q o := by
  cases o with
  | bad pc ds => exact h
  | good e st' =>
    cases e with
    | pan c => exact fun E' ρ' a' w' x L2 h3 hx => h X.D E' ρ' a' w' x L2 h3 (hD.mono L2.ρ L2.n) hx
    | norm => exact fun E' ρ' a' w' L2 h3 => h X.D E' ρ' a' w' L2 h3 (hD.mono L2.ρ L2.n)
    | ret => exact fun E' ρ' a' w' L2 h3 => h X.D E' ρ' a' w' L2 h3 (hD.mono L2.ρ L2.n)
    | exit id => exact fun E' ρ' a' w' L2 h3 => h X.D E' ρ' a' w' L2 h3 (hD.mono L2.ρ L2.n)
def bindD (f : List Dfr → St → Option (List DO)) : List DO → Option (List DO)
  | [] => some []
  | (D, .good .norm st) :: rest => match f D st with
    | some a => match bindD f rest with
      | some b => some (a ++ b)
      | none => none
    | none => none
  | o :: rest => match bindD f rest with
    | some b => some (o :: b)
    | none => none
theorem bindD_ok [Fs] {X : Cx} {ρ : Nat → Rb} {n v : Nat} {Q Q1 : Exit → Act → World → Prop} {f : List Dfr → St → Option (List DO)}
    (hf : ∀ D st outs, f D st = some outs → ∀ ds E1 ρ1 a w, Later X.E ρ n v E1 ρ1 st → Rel ({ X with D := ds }.at E1) ρ1 st a w → DfrsOk ρ1 st.m.length D ds → (∀ o ∈ outs, SatD X ρ n v Q o) → Q1 .normal a w)
    (h1 : ∀ e a w, e ≠ .normal → Q e a w → Q1 e a w) :
    ∀ {l : List DO} {outs : List DO}, bindD f l = some outs → (∀ o ∈ outs, SatD X ρ n v Q o) → ∀ o ∈ l, SatD X ρ n v Q1 o := by
  intro l
  induction l with
  | nil => intro outs _ _ o ho; simp at ho
  | cons x rest ih =>
    intro outs hb hs o ho
    unfold bindD at hb
    split at hb
    · rename_i he; cases he
    · rename_i D st rest' he
      cases he
      split at hb
      · rename_i a ha
        split at hb
        · rename_i b hb'
          cases hb
          rcases List.mem_cons.1 ho with rfl | ho
          · exact fun ds E' ρ' a' w' L g3 hD => hf _ _ _ ha ds E' ρ' a' w' L g3 hD fun o ho => hs o (List.mem_append_left _ ho)
          · exact ih hb' (fun o ho => hs o (List.mem_append_right _ ho)) o ho
        · cases hb
      · cases hb
    · rename_i x' rest' hne he
      cases he
      split at hb
      · rename_i b hb'
        cases hb
        rcases List.mem_cons.1 ho with rfl | ho
        · have := hs o List.mem_cons_self
          obtain ⟨D, o⟩ := o
          cases o with
          | bad pc ds => exact this
          | good e st' =>
            cases e with
            | norm => exact (hne _ _ rfl).elim
            | exit id => exact fun ds E' ρ' a' w' L g3 hD => h1 _ _ _ (by simp [Ex.to]) (this ds E' ρ' a' w' L g3 hD)
            | ret => exact fun ds E' ρ' a' w' L g3 hD => h1 _ _ _ (by simp [Ex.to]) (this ds E' ρ' a' w' L g3 hD)
            | pan c => exact fun ds E' ρ' a' w' x L g3 hD hx => h1 _ _ _ (by simp) (this ds E' ρ' a' w' x L g3 hD hx)
        · exact ih hb' (fun o ho => hs o (List.mem_cons_of_mem _ ho)) o ho
      · cases hb

/-- A region whose last operation defers. -/
def dfrOp (ops : Array Oper) : Option (Option Tmp × Call) := match ops[ops.size - 1]? with
  | some o => match o.op, o.guard with
    | .defer c, none => some (o.dst, c)
    | _, _ => none
  | none => none
def noRn : Rn := ⟨fun _ _ _ => none, fun _ _ _ => none, fun _ _ _ _ => none⟩
theorem noRn_ok [Fs] (P : Program) : RnOk P noRn :=
  ⟨fun _ _ _ _ _ _ _ h => (nomatch h), ⟨fun _ _ _ _ h => (nomatch h), fun _ _ _ _ _ h => (nomatch h)⟩⟩
def tagD (D : List Dfr) (l : List Out) : List DO := l.map fun o => (D, o)
/-- A body along its spine. -/
def evSp (P : Program) (ev : Code → St → Option (List Out)) : Nat → Code → List Dfr → St → Option (List DO)
  | 0, c, D, st => (ev c st).map (tagD D)
  | n + 1, c, D, st => match c with
    | .seq x y => match evSp P ev n x D st with
      | some outs => bindD (fun D st => evSp P ev n y D st) outs
      | none => none
    | .region i ops b => match b, dfrOp ops with
      | false, some (dst, c) => match evOps P noRn ops (List.range (ops.size - 1)) st with
        | some outs => bindD (fun D st => match evDf st c with
          | some d => some [(d :: D, .good .norm (putS st dst (.tup [])))]
          | none => none) (tagD D outs)
        | none => none
      | _, _ => (ev (.region i ops b) st).map (tagD D)
    | c => (ev c st).map (tagD D)
theorem wpOps_append [Fs] {P : Program} {ops : Array Oper} {Q : Exit → Act → World → Prop} {l2 : List Nat} : ∀ {l1 : List Nat} {a : Act} {w : World}, wpOps P ops (Exit.then (wpOps P ops Q l2) Q) l1 a w → wpOps P ops Q (l1 ++ l2) a w := by
  intro l1
  induction l1 with
  | nil => intro a w h; exact h
  | cons i l ih =>
    intro a w h
    simp only [List.cons_append, wpOps] at h ⊢
    split at h
    · rename_i hi; exact ih h
    · rename_i o hi
      split at h
      · rename_i hw
        rw [if_pos hw]
        rcases h with h | ⟨h1, h2⟩
        · left
          unfold Oper.wp Oper.upon at h ⊢
          split at h
          · exact ih h
          · exact ih h
          · exact ih h
          · refine Calls.mono h fun e w' hq => ?_
            cases e with
            | returned v => exact ih hq
            | panicked c => exact hq
            | outgrown => obtain ⟨a0, w0, h0⟩ := hq; exact ⟨a0, w0, h0⟩
          · exact Rows.mono h fun v w' hq => ih hq
          · exact h
          · exact h.elim
        · right
          obtain ⟨a0, w0, h0⟩ := h2
          exact ⟨h1, a0, w0, h0⟩
      · rename_i hw
        rw [if_neg hw]
        exact ih h
theorem evSp_ok [Fs] {P : Program} {ev : Code → St → Option (List Out)} (hev : RunOk P ev) : ∀ (n : Nat) (c : Code) (D : List Dfr) (st : St) (outs : List DO), evSp P ev n c D st = some outs →
    ∀ (X : Cx) (ρ : Nat → Rb) (a : Act) (w : World), DfrsOk ρ st.m.length D X.D → Rel X ρ st a w → ∀ Q, (∀ o ∈ outs, SatD X ρ st.m.length st.k.nv Q o) → c.wp P Q a w := by
  have leaf : ∀ (c : Code) (D : List Dfr) (st : St) (outs : List DO), (ev c st).map (tagD D) = some outs →
      ∀ (X : Cx) (ρ : Nat → Rb) (a : Act) (w : World), DfrsOk ρ st.m.length D X.D → Rel X ρ st a w → ∀ Q, (∀ o ∈ outs, SatD X ρ st.m.length st.k.nv Q o) → c.wp P Q a w := by
    intro c D st outs he X ρ a w hD h Q hs
    rw [Option.map_eq_some_iff] at he
    obtain ⟨l, hl, rfl⟩ := he
    exact hev c st l hl X ρ a w h Q fun o ho => (hs _ (List.mem_map_of_mem ho)).sat hD
  intro n
  induction n with
  | zero => intro c D st outs he; exact leaf c D st outs he
  | succ n ih =>
    intro c D st outs he X ρ a w hD h Q hs
    simp only [evSp] at he
    split at he
    · rename_i x y
      split at he
      · rename_i outs1 hx
        refine wp_seq (ih x D st outs1 hx X ρ a w hD h _ ?_)
        refine bindD_ok (Q := Q) (fun D' st' outs' hf ds E1 ρ1 a1 w1 L hrel hD' hs' => ?_) (fun e a w he hq => then_of e a w he hq) he hs
        exact ih y D' st' outs' hf ({ X with D := ds }.at E1) ρ1 a1 w1 hD' hrel Q fun o ho => (hs' o ho).from L
      · cases he
    · rename_i i ops b
      split at he
      · rename_i dst c hop
        split at he
        · rename_i outs1 hx
          unfold dfrOp at hop
          split at hop
          · rename_i o hlast
            split at hop
            · rename_i c' hdf hg
              cases hop
              have hsz : ops.size - 1 < ops.size := (Array.getElem?_eq_some_iff.1 hlast).1
              refine wp_region ?_
              have hr : List.range ops.size = List.range (ops.size - 1) ++ [ops.size - 1] := by
                rw [← List.range_succ]; congr 1; omega
              rw [hr]
              refine wpOps_append (evOps_ok (noRn_ok P) hx h fun o1 ho1 => SatD.sat (D := D) ?_ hD)
              refine bindD_ok (Q := Q) (Q1 := Exit.then (wpOps P ops Q [ops.size - 1]) Q) (fun D' st' outs' hf ds E1 ρ1 a1 w1 L hrel hD' hs' => ?_) (fun e a w he hq => then_of e a w he hq) he hs _ (List.mem_map_of_mem ho1)
              split at hf
              · rename_i d hd
                cases hf
                show wpOps P ops Q [ops.size - 1] a1 w1
                simp only [wpOps, hlast]
                have hwant : Region.wanted o (yielded ops a1.tmps) = true := by simp [Region.wanted, hg]
                rw [if_pos hwant]
                left
                obtain ⟨v, hrun, hv⟩ := evDf_ok (P := P) hrel.toSRel hdf hd w1
                unfold Oper.wp
                rw [hrun]
                show Q .normal ({ a1 with defers := v :: a1.defers }.put o.dst undef) w1
                have h1 := hs' _ List.mem_cons_self (v :: a1.defers) E1 ρ1 ({ a1 with defers := v :: a1.defers }.put o.dst undef) w1 ⟨L.E, L.ρ, by rw [putS_m]; exact L.n, by rw [putS_k]; exact L.v⟩
                refine h1 ?_ ?_
                · have h2 : Rel ({ X with D := v :: a1.defers }.at E1) ρ1 st' { a1 with defers := v :: a1.defers } w1 := ⟨⟨hrel.slots, hrel.pc, hrel.ds, hrel.F⟩, rfl, (hrel.mr.toD (X := X.at E1)).ofD _⟩
                  exact h2.put o.dst undef_ok
                · rw [putS_m, hrel.dfr]
                  exact .cons hv hD'
              · cases hf
            · cases hop
          · cases hop
        · cases he
      · exact leaf _ D st outs he X ρ a w hD h Q hs
    · exact leaf _ D st outs he X ρ a w hD h Q hs
end Go.Sy
namespace Go.Sy
/-- How the function stands that is left: it returns, it panics, what it panicked with was caught. -/
inductive RM where
  | ret
  | pan (c : C)
  | rcv
def RMok (E : Env) (ρ : Nat → Rb) (n : Nat) : RM → FrameMode → Prop
  | .ret, u => u = .returning
  | .pan c, u => ∃ x, Cr E ρ n c x ∧ u = .panicking [{ v := x, recovered := false }]
  | .rcv, u => ∃ x, u = .panicking [{ v := x, recovered := true }]
def RM.bel (n : Nat) : RM → Bool
  | .pan c => c.bel n
  | _ => true
def RM.settle : RM → RM
  | .rcv => .ret
  | m => m
theorem RMok.later [Fs] {E E' : Env} {ρ ρ' : Nat → Rb} {n n' v : Nat} (hE : Agree E E' v) (hρ : ∀ i, i < n → ρ' i = ρ i) (hn : n ≤ n') {m : RM} (hb : m.bel v = true) {u : FrameMode} (h : RMok E ρ n m u) : RMok E' ρ' n' m u := by
  cases m with
  | ret => exact h
  | rcv => exact h
  | pan c => obtain ⟨x, h1, h2⟩ := h; exact ⟨x, (Cr.agree hE hb h1).mono hρ hn, h2⟩
theorem RMok.settle [Fs] {E : Env} {ρ : Nat → Rb} {n : Nat} {m : RM} {u : FrameMode} (h : RMok E ρ n m u) : RMok E ρ n m.settle (Go.settle u) := by
  cases m with
  | ret => cases h; rfl
  | rcv => obtain ⟨x, rfl⟩ := h; rfl
  | pan c => obtain ⟨x, h1, rfl⟩ := h; exact ⟨x, h1, rfl⟩
theorem RMok.ne [Fs] {E : Env} {ρ : Nat → Rb} {n : Nat} {m : RM} {u : FrameMode} (h : RMok E ρ n m u) : u ≠ .run := by
  cases m with
  | ret => cases h; simp
  | rcv => obtain ⟨x, rfl⟩ := h; simp
  | pan c => obtain ⟨x, h1, rfl⟩ := h; simp

/-- A region that is nothing but 'recover'. -/
def recOp (ops : Array Oper) : Option (Option Tmp) := match ops.toList with
  | [o] => match o.op, o.guard with
    | .call c, none => match c.callee, c.args.toList with
      | .builtin .recover, [] => some o.dst
      | _, _ => none
    | _, _ => none
  | _ => none
def evRc (ev : Code → St → Option (List Out)) (m : RM) (c : Code) (st : St) : Option (List Out × RM) :=
  match c with
  | .seq x y => match (match x with
      | .region _ ops false => recOp ops
      | _ => none) with
    | some dst => match m with
      | .pan p => (ev y (putS st dst (.a (.c p)))).map fun l => (l, .rcv)
      | m => (ev y (putS st dst (.a (.c (.raw .nilIface))))).map fun l => (l, m)
    | none => (ev (.seq x y) st).map fun l => (l, m)
  | c => (ev c st).map fun l => (l, m)
theorem wpS_mono [Fs] {P : Program} {c : Code} {Q Q' : Exit → Act → List Frame → World → Prop} {a : Act} {cs : List Frame} {w : World} (h : c.wpS P Q a cs w) (hq : ∀ e a cs w, Q e a cs w → Q' e a cs w) : c.wpS P Q' a cs w :=
  fun b k h1 h2 => let ⟨e, a', cs', w', q, r⟩ := h b k h1 h2; ⟨e, a', cs', w', hq _ _ _ _ q, r⟩
theorem evRc_ok [Fs] {P : Program} {ev : Code → St → Option (List Out)} (hev : RunOk P ev) {m m' : RM} {c : Code} {st : St} {outs : List Out} (he : evRc ev m c st = some (outs, m')) {X : Cx} {ρ : Nat → Rb} {a : Act} {w : World} (h : Rel X ρ st a w)
    {u : FrameMode} (hu : RMok X.E ρ st.m.length m u) : ∃ u', RMok X.E ρ st.m.length m' u' ∧ ∀ Q, (∀ o ∈ outs, Sat X ρ st.m.length st.k.nv Q o) → ∀ (c₀ : Frame) (cs : List Frame), c₀.mode = u →
      c.wpS P (fun e a cs' w => cs' = { c₀ with mode := u' } :: cs ∧ Q e a w) a (c₀ :: cs) w := by
  have plain : ∀ (c : Code), (ev c st).map (fun l => (l, m)) = some (outs, m') → ∃ u', RMok X.E ρ st.m.length m' u' ∧ ∀ Q, (∀ o ∈ outs, Sat X ρ st.m.length st.k.nv Q o) → ∀ (c₀ : Frame) (cs : List Frame), c₀.mode = u →
      c.wpS P (fun e a cs' w => cs' = { c₀ with mode := u' } :: cs ∧ Q e a w) a (c₀ :: cs) w := by
    intro c hc
    rw [Option.map_eq_some_iff] at hc
    obtain ⟨l, hl, e⟩ := hc
    cases e
    refine ⟨u, hu, fun Q hs c₀ cs hc₀ => wpS_of_wp (wp_mono (hev c st _ hl X ρ a w h Q hs) fun e a w hq => ⟨?_, hq⟩)⟩
    subst hc₀; rfl
  unfold evRc at he
  split at he
  · rename_i x y
    split at he
    · rename_i dst hx
      split at hx
      · rename_i i ops
        unfold recOp at hx
        split at hx
        · rename_i o hops
          split at hx
          · rename_i cl hop hg
            split at hx
            · rename_i hcal hargs
              cases hx
              have hops' : ops = #[o] := by apply Array.ext'; simpa using hops
              subst hops'
              have hargs' : cl.args = #[] := by apply Array.ext'; simpa using hargs
              have hrun : ∀ w, (execOp a.eval o).run P w = .ok .recover w := fun w => by
                simp only [execOp, hop, resolve, hcal, hargs']; rfl
              have hwant : Region.wanted o (yielded #[o] a.tmps) = true := by simp [Region.wanted, hg]
              -- the value that comes of it
              have main : ∀ (l : L) (v : Value) (u' : FrameMode) (outs : List Out), Lr X.E ρ st.m.length l v → ev y (putS st o.dst l) = some outs →
                  (∀ (c₀ : Frame) (cs : List Frame), c₀.mode = u → (match recoverD (c₀ :: cs) with
                    | some (v', cs') => v' = v ∧ cs' = { c₀ with mode := u' } :: cs
                    | none => v = .nilIface ∧ u' = u)) →
                  ∀ Q, (∀ o ∈ outs, Sat X ρ st.m.length st.k.nv Q o) → ∀ (c₀ : Frame) (cs : List Frame), c₀.mode = u →
                  (Code.seq (.region i #[o] false) y).wpS P (fun e a cs' w => cs' = { c₀ with mode := u' } :: cs ∧ Q e a w) a (c₀ :: cs) w := by
                intro l v u' outs hl hy hrec Q hs c₀ cs hc₀
                refine wpS_seq (wpS_region ?_)
                show wpOpsS P #[o] _ [0] a (c₀ :: cs) w
                simp only [wpOpsS, List.getElem?_toArray, List.getElem?_cons_zero, hwant, if_true, hrun]
                have hput := h.put o.dst hl
                have hy' : y.wp P Q (a.put o.dst v) w := hev y _ outs hy X ρ _ w hput Q fun o ho => by rw [putS_m, putS_k]; exact hs o ho
                have hr := hrec c₀ cs hc₀
                split at hr
                · rename_i v' cs' he'
                  simp only [he']
                  obtain ⟨rfl, rfl⟩ := hr
                  exact wpS_of_wp (wp_mono hy' fun e a w hq => ⟨rfl, hq⟩)
                · rename_i he'
                  simp only [he']
                  obtain ⟨rfl, rfl⟩ := hr
                  refine wpS_of_wp (wp_mono hy' fun e a w hq => ⟨?_, hq⟩)
                  subst hc₀; rfl
              cases m with
              | pan p =>
                simp only [Option.map_eq_some_iff] at he
                obtain ⟨l, hl, e⟩ := he
                cases e
                obtain ⟨x, hx1, rfl⟩ := hu
                refine ⟨.panicking [{ v := x, recovered := true }], ⟨x, rfl⟩, main (.a (.c p)) x _ _ hx1 hl fun c₀ cs hc₀ => ?_⟩
                simp [recoverD, hc₀]
              | ret =>
                simp only [Option.map_eq_some_iff] at he
                obtain ⟨l, hl, e⟩ := he
                cases e
                refine ⟨u, hu, main (.a (.c (.raw .nilIface))) .nilIface u _ ⟨rfl, rfl⟩ hl fun c₀ cs hc₀ => ?_⟩
                cases hu; simp [recoverD, hc₀]
              | rcv =>
                simp only [Option.map_eq_some_iff] at he
                obtain ⟨l, hl, e⟩ := he
                cases e
                refine ⟨u, hu, main (.a (.c (.raw .nilIface))) .nilIface u _ ⟨rfl, rfl⟩ hl fun c₀ cs hc₀ => ?_⟩
                obtain ⟨x, rfl⟩ := hu; simp [recoverD, hc₀]
            · cases hx
          · cases hx
        · cases hx
      · cases hx
    · exact plain _ he
  · exact plain _ he

/-- Behind a deferred call: the next ones. -/
def backD (P : Program) (rs : List ResultVar) (s : Tr) (f : St → Option (List Out)) : List Out → Option (List Out)
  | [] => some []
  | .bad pc ds :: rest => (backD P rs s f rest).map (.bad pc ds :: ·)
  | .good (.exit _) _ :: _ => none
  | .good (.pan _) _ :: _ => none
  | .good _ st1 :: rest => match resL P st1 rs with
    | some _ => match f ⟨s, st1.m, st1.pc, st1.k⟩ with
      | some a => (backD P rs s f rest).map (a ++ ·)
      | none => none
    | none => none
/-- The deferred calls, one after the other. -/
def runDf (P : Program) (run : Nat → Code → St → Option (List Out)) : List Dfr → RM → St → Option (List Out)
  | [], .ret, st => some [.good .ret st]
  | [], .pan c, st => some [.good (.pan c) st]
  | [], .rcv, _ => none
  | d :: D, m, st => match P.funcs[d.g]? with
    | some fn => match fn.body with
      | some body => bif fn.name == "runtime.NumGoroutine" then none else
        (ini (d.ps.map fun p => .a (.c (.ptr p.1 p.2))) fn.ntmps).fc fun s => match evRc (run d.g) m body ⟨s, st.m, st.pc, st.k⟩ with
        | some (outs, m') => bif st.s.bel st.k.nv && m'.bel st.k.nv then backD P fn.results.toList st.s (fun st => runDf P run D m'.settle st) outs else none
        | none => none
      | none => none
    | none => none
theorem backD_ok [Fs] {P : Program} {X : Cx} {ρ : Nat → Rb} {n v : Nat} {fn : Func} {s : Tr} {f : St → Option (List Out)} {Q : Exit → Act → World → Prop} {K : World → Prop}
    (hK : ∀ st1 outs, f ⟨s, st1.m, st1.pc, st1.k⟩ = some outs → (∀ o ∈ outs, Sat X ρ n v Q o) → ∀ E' ρ' a' w', Later X.E ρ n v E' ρ' st1 → Rel (X.at E') ρ' st1 a' w' → K w') :
    ∀ {l outs : List Out}, backD P fn.results.toList s f l = some outs → (∀ o ∈ outs, Sat X ρ n v Q o) → ∀ o ∈ l, Sat X ρ n v (fun e a w => match e with
      | .normal | .ret => a.defers = X.D ∧ ∃ v, (results fn a.tmps).run P w = .ok v w ∧ K w
      | _ => False) o := by
  intro l
  induction l with
  | nil => intro outs _ _ o ho; cases ho
  | cons x rest ih =>
    intro outs hb hs o ho
    cases x with
    | bad pc ds =>
      simp only [backD, Option.map_eq_some_iff] at hb
      obtain ⟨outs', hb', rfl⟩ := hb
      rcases List.mem_cons.1 ho with rfl | ho
      · exact hs _ List.mem_cons_self
      · exact ih hb' (fun o ho => hs o (List.mem_cons_of_mem _ ho)) o ho
    | good e st1 =>
      have step : ∀ (hb : (match resL P st1 fn.results.toList with
          | some _ => match f ⟨s, st1.m, st1.pc, st1.k⟩ with
            | some a => (backD P fn.results.toList s f rest).map (a ++ ·)
            | none => none
          | none => none) = some outs), (∀ E' ρ' a' w', Later X.E ρ n v E' ρ' st1 → Rel (X.at E') ρ' st1 a' w' → a'.defers = X.D ∧ ∃ v, (results fn a'.tmps).run P w' = .ok v w' ∧ K w') ∧ ∀ o ∈ rest, Sat X ρ n v (fun e a w => match e with
            | .normal | .ret => a.defers = X.D ∧ ∃ v, (results fn a.tmps).run P w = .ok v w ∧ K w
            | _ => False) o := by
        intro hb
        split at hb
        · rename_i l0 hl
          split at hb
          · rename_i a ha
            rw [Option.map_eq_some_iff] at hb
            obtain ⟨outs', hb', rfl⟩ := hb
            refine ⟨fun E' ρ' a' w' L g3 => ?_, ih hb' fun o ho => hs o (List.mem_append_right _ ho)⟩
            obtain ⟨v, h2, _⟩ := resL_ok g3 hl
            exact ⟨g3.dfr, v, h2, hK st1 a ha (fun o ho => hs o (List.mem_append_left _ ho)) E' ρ' a' w' L g3⟩
          · cases hb
        · cases hb
      cases e with
      | exit id => simp [backD] at hb
      | pan c => simp [backD] at hb
      | norm =>
        obtain ⟨h1, h2⟩ := step hb
        rcases List.mem_cons.1 ho with rfl | ho
        · exact h1
        · exact h2 o ho
      | ret =>
        obtain ⟨h1, h2⟩ := step hb
        rcases List.mem_cons.1 ho with rfl | ho
        · exact h1
        · exact h2 o ho
theorem runDf_ok [Fs] {P : Program} {run : Nat → Code → St → Option (List Out)} (hrun : ∀ g, RunOk P (run g)) {fn : Func} {R : Ending → World → Prop} : ∀ (D : List Dfr) (m : RM) (st : St) (outs : List Out), runDf P run D m st = some outs →
    ∀ (X : Cx) (ρ : Nat → Rb) (tmps : Array Value) (ds : List Deferred) (u : FrameMode) (w : World), X.D = [] → Rel X ρ st ⟨tmps, []⟩ w → DfrsOk ρ st.m.length D ds → RMok X.E ρ st.m.length m u →
    (∀ o ∈ outs, Sat X ρ st.m.length st.k.nv (bodyPost P fn R) o) → Leaves P fn tmps R ds u w := by
  intro D
  induction D with
  | nil =>
    intro m st outs he X ρ tmps ds u w hX h hD hu hs
    cases hD
    cases m with
    | ret =>
      cases hu; cases he
      obtain ⟨_, v, h1, h2⟩ := hs _ List.mem_cons_self X.E ρ ⟨tmps, []⟩ w (Later.refl _ _ _) h
      exact ⟨v, h1, h2⟩
    | pan c =>
      obtain ⟨x, hx, rfl⟩ := hu; cases he
      exact (hs _ List.mem_cons_self X.E ρ ⟨tmps, []⟩ w x (Later.refl _ _ _) h hx).2
    | rcv => cases he
  | cons d D ih =>
    intro m st outs he X ρ tmps ds u w hX h hD hu hs
    cases hD with
    | @cons _ v _ vs hv hvs =>
    simp only [runDf, Tr.fc_eq] at he
    split at he
    · rename_i gn hgn
      split at he
      · rename_i body hb
        cases hn : gn.name == "runtime.NumGoroutine" <;> simp only [hn, cond_true, cond_false] at he
        · split at he
          · rename_i couts m' hrc
            cases hbel : st.s.bel st.k.nv && m'.bel st.k.nv <;> simp only [hbel, cond_true, cond_false] at he
            · cases he
            rw [Bool.and_eq_true] at hbel
            obtain ⟨cap, h1, h2, h3⟩ := hv
            refine ⟨hu.ne, .func d.g, cap, d.g, v.args ++ cap, h1, ?_, ?_⟩
            · rw [h1]
              simp [invoke, callFunc, hgn, (beq_eq_false_iff_ne.1 hn), hb]
            · rw [h2]
              have hargs : F2 (Lr X.E ρ st.m.length) (d.ps.map fun p => L.a (.c (.ptr p.1 p.2))) (d.ps.map (ptrV ρ)).toArray := by
                refine ⟨by simp, fun i x hx => ?_⟩
                rw [List.getElem?_map, Option.map_eq_some_iff] at hx
                obtain ⟨p, hp, rfl⟩ := hx
                exact ⟨ptrV ρ p, by simp [hp], h3 p (List.mem_of_getElem? hp), rfl⟩
              have hrel : Rel X ρ ⟨ini (d.ps.map fun p => L.a (.c (.ptr p.1 p.2))) gn.ntmps, st.m, st.pc, st.k⟩ { tmps := (d.ps.map (ptrV ρ)).toArray ++ Array.replicate (gn.ntmps - (d.ps.map (ptrV ρ)).toArray.size) undef, defers := [] } w :=
                ⟨⟨ini_ok hargs _, h.pc, h.ds, h.F⟩, hX.symm, h.mr⟩
              obtain ⟨u', hu', hwp⟩ := evRc_ok (hrun d.g) hrc hrel hu
              refine callsD_of_wpS hgn hb fun c₀ cs hc₀ => ?_
              refine wpS_mono (hwp _ (backD_ok (fn := gn) (K := fun w' => Leaves P fn tmps R vs (Go.settle u') w') (fun st1 outs1 hf hs1 E' ρ' a' w' L g3 => ?_) he hs) c₀ cs hc₀) fun e a cs' w' hq => ?_
              · refine ih m'.settle _ outs1 hf (X.at E') ρ' tmps vs (Go.settle u') w' hX ⟨⟨(h.slots.agree L.E hbel.1).mono fun _ _ => Lr.mono L.ρ L.n, g3.pc, g3.ds, g3.F⟩, hX.symm, g3.mr⟩ (hvs.mono L.ρ L.n) ?_ fun o ho => (hs1 o ho).from (st1 := ⟨st.s, st1.m, st1.pc, st1.k⟩) ⟨L.E, L.ρ, L.n, L.v⟩
                exact (hu'.later L.E L.ρ L.n hbel.2).settle
              · obtain ⟨hcs, hq⟩ := hq
                cases e with
                | normal => obtain ⟨g1, v, g2, g3⟩ := hq; exact ⟨g1.trans hX, u', hcs, v, g2, g3⟩
                | ret => obtain ⟨g1, v, g2, g3⟩ := hq; exact ⟨g1.trans hX, u', hcs, v, g2, g3⟩
                | _ => exact hq.elim
          · cases he
        · cases he
      · cases he
    · cases he

/-- Does a body defer something? A look along its spine. -/
def dfB : Nat → Code → Bool
  | n + 1, .seq x y => (match x with
    | .region _ ops _ => (dfrOp ops).isSome
    | _ => false) || dfB n y
  | _, _ => false
def goD (P : Program) (run : Nat → Code → St → Option (List Out)) (rs : List Nat) : List DO → Option (List Out)
  | [] => some []
  | (_, .bad pc ds) :: rest => (goD P run rs rest).map (.bad pc ds :: ·)
  | (_, .good (.exit _) _) :: _ => none
  | (D, .good (.pan c) st) :: rest => (only rs st.s).fc fun s => match runDf P run D (.pan c) ⟨s, st.m, st.pc, st.k⟩ with
    | some a => (goD P run rs rest).map (a ++ ·)
    | none => none
  | (D, .good _ st) :: rest => (only rs st.s).fc fun s => match runDf P run D .ret ⟨s, st.m, st.pc, st.k⟩ with
    | some a => (goD P run rs rest).map (a ++ ·)
    | none => none
/-- A body that defers something. -/
def runDB (P : Program) (run : Nat → Code → St → Option (List Out)) (rs : List Nat) (g : Nat) (body : Code) (st : St) : Option (List Out) :=
  match evSp P (run g) 8 body [] st with
  | some outs => goD P run rs outs
  | none => none
theorem goD_ok [Fs] {P : Program} {run : Nat → Code → St → Option (List Out)} (hrun : ∀ g, RunOk P (run g)) {fn : Func} {R : Ending → World → Prop} {rs : List Nat} {X : Cx} {ρ : Nat → Rb} {n v : Nat} : ∀ {l : List DO} {outs : List Out}, goD P run rs l = some outs →
    X.D = [] → (∀ o ∈ outs, Sat X ρ n v (bodyPost P fn R) o) → ∀ p ∈ l, SatD X ρ n v (bodyPostD P fn R) p := by
  intro l
  induction l with
  | nil => intro outs _ _ _ p hp; cases hp
  | cons x rest ih =>
    intro outs hg hX hs p hp
    obtain ⟨D, o⟩ := x
    have step : ∀ (m : RM) (st : St), (match runDf P run D m ⟨only rs st.s, st.m, st.pc, st.k⟩ with
        | some a => (goD P run rs rest).map (a ++ ·)
        | none => none) = some outs → (∀ ds E' ρ' a' w' u, Later X.E ρ n v E' ρ' st → Rel ({ X with D := ds }.at E') ρ' st a' w' → DfrsOk ρ' st.m.length D ds → RMok E' ρ' st.m.length m u → Leaves P fn a'.tmps R a'.defers u w') ∧ ∀ p ∈ rest, SatD X ρ n v (bodyPostD P fn R) p := by
      intro m st hg
      split at hg
      · rename_i a ha
        rw [Option.map_eq_some_iff] at hg
        obtain ⟨outs', hg', rfl⟩ := hg
        refine ⟨fun ds E' ρ' a' w' u L g3 hD hu => ?_, ih hg' hX fun o ho => hs o (List.mem_append_right _ ho)⟩
        have g4 := g3.only rs
        refine runDf_ok hrun D m _ a ha (X.at E') ρ' a'.tmps a'.defers u w' hX ⟨⟨g4.slots, g4.pc, g4.ds, g4.F⟩, hX.symm, g4.mr.toD (X := X.at E')⟩ (by rw [g3.dfr]; exact hD) hu fun o ho => (hs o (List.mem_append_left _ ho)).from (st1 := ⟨only rs st.s, st.m, st.pc, st.k⟩) ⟨L.E, L.ρ, L.n, L.v⟩
      · cases hg
    cases o with
    | bad pc ds =>
      simp only [goD, Option.map_eq_some_iff] at hg
      obtain ⟨outs', hg', rfl⟩ := hg
      rcases List.mem_cons.1 hp with rfl | hp
      · exact hs _ List.mem_cons_self
      · exact ih hg' hX (fun o ho => hs o (List.mem_cons_of_mem _ ho)) p hp
    | good e st =>
      cases e with
      | exit id => simp [goD] at hg
      | pan c =>
        simp only [goD, Tr.fc_eq] at hg
        obtain ⟨h1, h2⟩ := step (.pan c) st hg
        rcases List.mem_cons.1 hp with rfl | hp
        · exact fun ds E' ρ' a' w' x L g3 hD hx => h1 ds E' ρ' a' w' _ L g3 hD ⟨x, hx, rfl⟩
        · exact h2 p hp
      | norm =>
        simp only [goD, Tr.fc_eq] at hg
        obtain ⟨h1, h2⟩ := step .ret st hg
        rcases List.mem_cons.1 hp with rfl | hp
        · exact fun ds E' ρ' a' w' L g3 hD => h1 ds E' ρ' a' w' _ L g3 hD rfl
        · exact h2 p hp
      | ret =>
        simp only [goD, Tr.fc_eq] at hg
        obtain ⟨h1, h2⟩ := step .ret st hg
        rcases List.mem_cons.1 hp with rfl | hp
        · exact fun ds E' ρ' a' w' L g3 hD => h1 ds E' ρ' a' w' _ L g3 hD rfl
        · exact h2 p hp
theorem runDB_ok [Fs] {P : Program} {run : Nat → Code → St → Option (List Out)} (hrun : ∀ g, RunOk P (run g)) (rs : List Nat) (g : Nat) : RunB P g (runDB P run rs g) := by
  intro fn body st outs hf hb he X ρ args w hX h R hs
  unfold runDB at he
  split at he
  · rename_i outs1 h1
    exact calls_of_wp_defers hf hb (evSp_ok (hrun g) 8 body [] st outs1 h1 X ρ _ w (by rw [hX]; exact .nil) h _ (goD_ok hrun he hX hs))
  · cases he
end Go.Sy
