/- Part 13 of a checked reader of Go texts in their model form: it runs a function at terms in the place of numbers, and each part proves that its answers hold of the model. -/
import Derived.Test.YtddfbikeaipepaaSy12
namespace Go.Sy

/-! two ways made one: 'c': which of them it was -/
def mgC (c : T) (x y : C) : C := bif x.beq y then x else match pickC c x y with
  | some z => z
  | none => .any
def mgCs (c : T) : List C → List C → List C
  | x :: xs, y :: ys => mgC c x y :: mgCs c xs ys
  | _, _ => []
def mgA (c : T) : A → A → A
  | .c x, .c y => bif x.beq y then .c x else match pickC c x y with
    | some z => .c z
    | none => .dead
  | .agg xs, .agg ys => bif xs.length == ys.length then .agg (mgCs c xs ys) else .dead
  | _, _ => .dead
def mgAs (c : T) : List A → List A → List A
  | x :: xs, y :: ys => mgA c x y :: mgAs c xs ys
  | _, _ => []
def mgL (c : T) : L → L → L
  | .a x, .a y => .a (mgA c x y)
  | .tup xs, .tup ys => bif xs.length == ys.length then .tup (mgAs c xs ys) else .a .dead
  | .gd d x, .gd e y => bif d.beq e && x.beq y then .gd d x else .a .dead
  | _, _ => .a .dead
def mgB0 (c : T) : Bk → Bk → Bk
  | .cells t xs, .cells u ys => bif t == u && xs.length == ys.length then .cells t (mgCs c xs ys) else .dead
  | _, _ => .dead
def mgB (c : T) (x y : Bk) : Bk := bif x.beq y then x else mgB0 c x y
def mgM (c : T) : List Bk → List Bk → List Bk
  | x :: xs, y :: ys => mgB c x y :: mgM c xs ys
  | [], ys => ys.map fun _ => .dead
  | xs, [] => xs.map fun _ => .dead

section
variable {E : Env} {ρ : Nat → Nat} {n : Nat} {c : T}
/-- The one that it was. -/
def sel {α : Type} (c : T) (E : Env) (x y : α) : α := if c.tr E = true then x else y
theorem mgC_ok {x y : C} {v : Value} (h : Cr E ρ n (sel c E x y) v) : Cr E ρ n (mgC c x y) v := by
  unfold mgC
  cases hb : x.beq y
  · simp only [cond_false]
    split
    · rename_i z hz
      have := pickC_ok (E := E) (ρ := ρ) (n := n) (u := v) (v := v) hz (fun ht => by simpa [sel, ht] using h) (fun ht => by simpa [sel, ht] using h)
      simpa using this
    · exact Cr_one h
  · have := C.beq_eq hb
    subst this
    simpa [sel] using h
theorem mgCs_length : ∀ {xs ys : List C}, xs.length = ys.length → (mgCs c xs ys).length = xs.length := by
  intro xs
  induction xs with
  | nil => intro ys h; rfl
  | cons x xs ih => intro ys h; cases ys with
    | nil => simp at h
    | cons y ys => simp only [mgCs, List.length_cons]; rw [ih (by simpa using h)]
theorem mgCs_get : ∀ {xs ys : List C} {i : Nat} {z : C}, (mgCs c xs ys)[i]? = some z → ∃ x y, xs[i]? = some x ∧ ys[i]? = some y ∧ z = mgC c x y := by
  intro xs
  induction xs with
  | nil => intro ys i z h; simp [mgCs] at h
  | cons x xs ih => intro ys i z h; cases ys with
    | nil => simp [mgCs] at h
    | cons y ys => cases i with
      | zero => simp [mgCs] at h; exact ⟨x, y, rfl, rfl, h.symm⟩
      | succ i => simp [mgCs] at h; obtain ⟨x', y', h1, h2, h3⟩ := ih h; exact ⟨x', y', by simpa using h1, by simpa using h2, h3⟩
theorem mgCs_ok {xs ys : List C} {vs : Array Value} (hl : xs.length = ys.length) (h : F2 (Cr E ρ n) (sel c E xs ys) vs) : F2 (Cr E ρ n) (mgCs c xs ys) vs := by
  have hl' : (sel c E xs ys).length = xs.length := by unfold sel; split <;> omega
  refine ⟨by rw [mgCs_length hl, h.1, hl'], fun i z hz => ?_⟩
  obtain ⟨x, y, h1, h2, rfl⟩ := mgCs_get hz
  obtain ⟨v, h3, h4⟩ := h.2 i (sel c E x y) (by unfold sel; split <;> assumption)
  exact ⟨v, h3, mgC_ok h4⟩
theorem mgA_ok {x y : A} {v : Value} (h : Ar E ρ n (sel c E x y) v) : Ar E ρ n (mgA c x y) v := by
  cases x with
  | c x => cases y with
    | c y =>
      have h' : Cr E ρ n (sel c E x y) v := by unfold sel at h ⊢; split at h <;> simp_all [Ar]
      simp only [mgA]
      cases hb : x.beq y
      · simp only [cond_false]
        split
        · rename_i z hz
          have := pickC_ok (E := E) (ρ := ρ) (n := n) (u := v) (v := v) hz (fun ht => by simpa [sel, ht] using h') (fun ht => by simpa [sel, ht] using h')
          show Cr E ρ n z v
          simpa using this
        · trivial
      · have := C.beq_eq hb
        subst this
        show Cr E ρ n x v
        simpa [sel] using h'
    | _ => trivial
  | agg xs => cases y with
    | agg ys =>
      simp only [mgA]
      cases hl : xs.length == ys.length
      · trivial
      · rw [beq_iff_eq] at hl
        have : ∃ cs, v = .agg cs ∧ F2 (Cr E ρ n) (sel c E xs ys) cs := by
          unfold sel at h ⊢; split at h <;> simp_all [Ar]
        obtain ⟨cs, rfl, h2⟩ := this
        exact ⟨cs, rfl, mgCs_ok hl h2⟩
    | _ => trivial
  | dead => cases y <;> trivial
theorem mgAs_length : ∀ {xs ys : List A}, xs.length = ys.length → (mgAs c xs ys).length = xs.length := by
  intro xs
  induction xs with
  | nil => intro ys h; rfl
  | cons x xs ih => intro ys h; cases ys with
    | nil => simp at h
    | cons y ys => simp only [mgAs, List.length_cons]; rw [ih (by simpa using h)]
theorem mgAs_get : ∀ {xs ys : List A} {i : Nat} {z : A}, (mgAs c xs ys)[i]? = some z → ∃ x y, xs[i]? = some x ∧ ys[i]? = some y ∧ z = mgA c x y := by
  intro xs
  induction xs with
  | nil => intro ys i z h; simp [mgAs] at h
  | cons x xs ih => intro ys i z h; cases ys with
    | nil => simp [mgAs] at h
    | cons y ys => cases i with
      | zero => simp [mgAs] at h; exact ⟨x, y, rfl, rfl, h.symm⟩
      | succ i => simp [mgAs] at h; obtain ⟨x', y', h1, h2, h3⟩ := ih h; exact ⟨x', y', by simpa using h1, by simpa using h2, h3⟩
theorem mgL_ok {x y : L} {v : Value} (h : Lr E ρ n (sel c E x y) v) : Lr E ρ n (mgL c x y) v := by
  cases x with
  | a x => cases y with
    | a y => exact mgA_ok (by unfold sel at h ⊢; split at h <;> simp_all [Lr])
    | _ => trivial
  | tup xs => cases y with
    | tup ys =>
      simp only [mgL]
      cases hl : xs.length == ys.length
      · trivial
      · rw [beq_iff_eq] at hl
        have : ∃ cs, v = .tuple cs ∧ F2 (Ar E ρ n) (sel c E xs ys) cs := by
          unfold sel at h ⊢; split at h <;> simp_all [Lr]
        obtain ⟨cs, rfl, h2⟩ := this
        have hl' : (sel c E xs ys).length = xs.length := by unfold sel; split <;> omega
        refine ⟨cs, rfl, by rw [mgAs_length hl, h2.1, hl'], fun i z hz => ?_⟩
        obtain ⟨x, y, h3, h4, rfl⟩ := mgAs_get hz
        obtain ⟨v, h5, h6⟩ := h2.2 i (sel c E x y) (by unfold sel; split <;> assumption)
        exact ⟨v, h5, mgA_ok h6⟩
    | _ => trivial
  | gd d x => cases y with
    | gd e y =>
      simp only [mgL]
      cases hb : d.beq e && x.beq y
      · trivial
      · rw [Bool.and_eq_true] at hb
        have h1 := T.beq_eq hb.1
        have h2 := A.beq_eq hb.2
        subst h1; subst h2
        simpa [sel] using h
    | _ => trivial
theorem mgB0_ok {x y : Bk} {o : Option Obj} (h : Br E ρ n (sel c E x y) o) : Br E ρ n (mgB0 c x y) o := by
  cases x with
  | cells t xs => cases y with
    | cells u ys =>
      simp only [mgB0]
      cases hb : t == u && xs.length == ys.length
      · trivial
      · rw [Bool.and_eq_true, beq_iff_eq, beq_iff_eq] at hb
        obtain ⟨rfl, hl⟩ := hb
        have : ∃ cs, o = some (.cells cs t (0, 0)) ∧ F2 (Cr E ρ n) (sel c E xs ys) cs := by
          unfold sel at h ⊢; split at h <;> simp_all [Br]
        obtain ⟨cs, h1, h2⟩ := this
        exact ⟨cs, h1, mgCs_ok hl h2⟩
    | dead => trivial
  | dead => cases y <;> trivial
theorem mgB_ok {x y : Bk} {o : Option Obj} (h : Br E ρ n (sel c E x y) o) : Br E ρ n (mgB c x y) o := by
  unfold mgB
  cases hb : x.beq y
  · exact mgB0_ok h
  · have := Bk.beq_eq hb
    subst this
    simpa [sel] using h
theorem mgB_live {x y : Bk} (h : (mgB c x y).live = true) : x.live = true ∧ y.live = true := by
  unfold mgB at h
  cases hb : x.beq y <;> simp only [hb, cond_true, cond_false] at h
  · cases x <;> cases y <;> simp [mgB0, Bk.live] at h ⊢
  · have := Bk.beq_eq hb
    subst this
    exact ⟨h, h⟩
theorem mgM_length : ∀ {xs ys : List Bk}, (mgM c xs ys).length = max xs.length ys.length := by
  intro xs
  induction xs with
  | nil => intro ys; simp [mgM]
  | cons x xs ih => intro ys; cases ys with
    | nil => simp [mgM]
    | cons y ys => simp only [mgM, List.length_cons, ih]; omega
theorem mgM_get : ∀ {xs ys : List Bk} {i : Nat} {z : Bk}, (mgM c xs ys)[i]? = some z → z = .dead ∨ ∃ x y, xs[i]? = some x ∧ ys[i]? = some y ∧ z = mgB c x y := by
  intro xs
  induction xs with
  | nil =>
    intro ys i z h
    simp only [mgM, List.getElem?_map, Option.map_eq_some_iff] at h
    obtain ⟨_, _, rfl⟩ := h; exact .inl rfl
  | cons x xs ih => intro ys i z h; cases ys with
    | nil =>
      simp only [mgM, List.getElem?_map, Option.map_eq_some_iff] at h
      obtain ⟨_, _, rfl⟩ := h; exact .inl rfl
    | cons y ys => cases i with
      | zero => simp [mgM] at h; exact .inr ⟨x, y, rfl, rfl, h.symm⟩
      | succ i =>
        simp [mgM] at h
        rcases ih h with h | ⟨x', y', h1, h2, h3⟩
        · exact .inl h
        · exact .inr ⟨x', y', by simpa using h1, by simpa using h2, h3⟩
end

def mgT (c : T) : Tr → Tr → Tr
  | .nd x l r, .nd y l' r' => bif (Tr.nd x l r).beq (.nd y l' r') then .nd x l r else .nd (mgL c x y) (mgT c l l') (mgT c r r')
  | _, _ => .nil
theorem mgT_get {c : T} : ∀ {xs ys : Tr} {i : Nat} {z : L}, (mgT c xs ys).get i = some z → ∃ x y, xs.get i = some x ∧ ys.get i = some y ∧ (z = mgL c x y ∨ (x = y ∧ z = x)) := by
  intro xs
  induction xs with
  | nil => intro ys i z h; simp [mgT, Tr.get] at h
  | nd x l r ihl ihr => intro ys i z h; cases ys with
    | nil => simp [mgT, Tr.get] at h
    | nd y l' r' =>
      rw [mgT] at h
      cases hb : (Tr.nd x l r).beq (.nd y l' r') <;> simp only [hb, cond_true, cond_false] at h
      case true =>
        rw [← Tr.beq_eq hb]
        exact ⟨z, z, h, h, .inr ⟨rfl, rfl⟩⟩
      simp only [Tr.get_nd] at h ⊢
      by_cases h0 : i = 0
      · simp only [if_pos h0, Option.some.injEq] at h ⊢; exact ⟨x, y, rfl, rfl, .inl h.symm⟩
      · by_cases h1 : i % 2 = 1
        · simp only [if_neg h0, if_pos h1] at h ⊢; exact ihl h
        · simp only [if_neg h0, if_neg h1] at h ⊢; exact ihr h
def mgS (c : T) (base : Pc) (a b : St) : St := ⟨mgT c a.s b.s, mgM c a.m b.m, base⟩
theorem mgS_ok {X : Cx} {ρ : Nat → Nat} {c : T} {base : Pc} {s1 s2 : St} {a : Act} {w : World} (hb : pcOk X.E base) (h : Rel X ρ (sel c X.E s1 s2) a w) : Rel X ρ (mgS c base s1 s2) a w := by
  have hlen : (sel c X.E s1 s2).m.length ≤ (mgM c s1.m s2.m).length := by
    rw [mgM_length]; unfold sel; split <;> omega
  have hs : (sel c X.E s1 s2).s = sel c X.E s1.s s2.s := by unfold sel; split <;> rfl
  have hm : ∀ (i : Nat) (x y : Bk), s1.m[i]? = some x → s2.m[i]? = some y → (sel c X.E s1 s2).m[i]? = some (sel c X.E x y) := by
    intro i x y h1 h2; unfold sel; split <;> assumption
  refine ⟨⟨fun i z hz => ?_, hb⟩, h.dfr, ⟨fun i b hi => ?_, fun i j bi bj hi hj hbi hbj heq => ?_, Nat.le_trans h.mr.len hlen, h.mr.old, fun i b hn hi hbl => ?_, h.mr.fr⟩⟩
  · obtain ⟨x, y, h1, h2, hz⟩ := mgT_get hz
    obtain ⟨v, h3, h4⟩ := h.slots i (sel c X.E x y) (by rw [hs]; unfold sel; split <;> assumption)
    rcases hz with rfl | ⟨rfl, rfl⟩
    · exact ⟨v, h3, Lr.mono (fun _ _ => rfl) hlen (mgL_ok h4)⟩
    · exact ⟨v, h3, Lr.mono (fun _ _ => rfl) hlen (by simpa [sel] using h4)⟩
  · rcases mgM_get hi with rfl | ⟨x, y, h1, h2, rfl⟩
    · trivial
    · exact Br.mono (fun _ _ => rfl) hlen (mgB_ok (h.mr.mem i _ (hm i x y h1 h2)))
  · rcases mgM_get hi with rfl | ⟨x, y, h1, h2, rfl⟩
    · simp [Bk.live] at hbi
    · rcases mgM_get hj with rfl | ⟨x', y', h1', h2', rfl⟩
      · simp [Bk.live] at hbj
      · refine h.mr.inj i j _ _ (hm i x y h1 h2) (hm j x' y' h1' h2') ?_ ?_ heq
        · have := mgB_live hbi; unfold sel; split; exact this.1; exact this.2
        · have := mgB_live hbj; unfold sel; split; exact this.1; exact this.2
  · rcases mgM_get hi with rfl | ⟨x, y, h1, h2, rfl⟩
    · simp [Bk.live] at hbl
    · refine h.mr.new i _ hn (hm i x y h1 h2) ?_
      have := mgB_live hbl; unfold sel; split; exact this.1; exact this.2

/-- The facts as one term. -/
def conj : Pc → T
  | [] => .lit 1
  | [(t, b)] => bif b then t else mkNot t
  | (t, b) :: rest => mk2 .and (tbT (bif b then t else mkNot t)) (tbT (conj rest))
theorem conj_tr {E : Env} : ∀ {pc : Pc}, (conj pc).tr E = true ↔ pcOk E pc := by
  intro pc
  induction pc with
  | nil => simp [conj, T.tr, T.den, pcOk]
  | cons p pc ih =>
    obtain ⟨t, b⟩ := p
    have h1 : (bif b then t else mkNot t).tr E = true ↔ t.tr E = b := by
      cases b <;> simp [tr_mkNot]
    cases pc with
    | nil => simp only [conj, h1]; simp [pcOk]
    | cons q pc =>
      simp only [conj]
      rw [tr_and2, Bool.and_eq_true, h1, ih]
      simp [pcOk_cons]
/-- Do two lists of facts shut one another out? -/
def contra (b : Pc) (p : T × Bool) : Bool := match dec b p.1 with
  | some r => r != p.2
  | none => false
def exclQ (a b : Pc) : Bool := a.any fun p => b.any fun q => (bif p.2 then !q.2 else q.2) && p.1.beq q.1
def excl (a b : Pc) : Bool := exclQ a b || a.any (contra b) || b.any (contra a)
theorem contra_ok {E : Env} {b : Pc} {p : T × Bool} (h : contra b p = true) (hb : pcOk E b) (hp : p.1.tr E = p.2) : False := by
  unfold contra at h
  split at h
  · rename_i r hr
    have := dec_ok hb hr
    rw [hp] at this
    simp [this] at h
  · cases h
theorem excl_ok {E : Env} {a b : Pc} (h : excl a b = true) (ha : pcOk E a) (hb : pcOk E b) : False := by
  unfold excl at h
  rw [Bool.or_eq_true, Bool.or_eq_true, List.any_eq_true, List.any_eq_true] at h
  rcases h with (h | ⟨p, h1, h2⟩) | ⟨p, h1, h2⟩
  · simp only [exclQ, List.any_eq_true, Bool.and_eq_true] at h
    obtain ⟨p, h1, q, h2, h3, h4⟩ := h
    have e1 := ha p h1
    have e2 := hb q h2
    rw [T.beq_eq h4, e2] at e1
    rw [e1] at h3
    cases hp : p.2 <;> simp [hp] at h3
  · exact contra_ok h2 hb (ha p h1)
  · exact contra_ok h2 ha (hb p h1)

/-- Nothing is lost by the merging: of cells that both ways knew, and of the slots. -/
def C.isAny : C → Bool
  | .any => true
  | _ => false
def keepCs : List C → List C → Bool
  | x :: xs, z :: zs => (x.isAny || !z.isAny) && keepCs xs zs
  | _, _ => true
def keepA : A → A → Bool
  | .dead, _ => true
  | .c x, .c z => x.isAny || !z.isAny
  | .agg xs, .agg zs => keepCs xs zs
  | _, _ => false
def keepL (x y z : L) : Bool :=
  match x, y, z with
  | .a .dead, _, _ => true
  | _, .a .dead, _ => true
  | .a x, .a _, .a z => keepA x z
  | .tup _, _, .tup _ => true
  | .gd _ _, _, _ => true
  | _, .gd _ _, _ => true
  | _, _, _ => false
def keepT : Tr → Tr → Tr → Bool
  | .nd x l r, .nd y l' r', .nd z l2 r2 => bif (Tr.nd x l r).beq (.nd y l' r') then true else keepL x y z && keepT l l' l2 && keepT r r' r2
  | _, _, _ => true
def keepB (x y z : Bk) : Bool :=
  match x, y, z with
  | .dead, _, _ => true
  | _, .dead, _ => true
  | .cells _ xs, _, .cells _ zs => keepCs xs zs
  | _, _, _ => false
/-- ('lo': blocks from there on may be lost) -/
def keepM (lo : Nat) : List Bk → List Bk → List Bk → Bool
  | x :: xs, y :: ys, z :: zs => (match lo with | 0 => true | _ + 1 => x.beq y || keepB x y z) && keepM (lo - 1) xs ys zs
  | _, _, _ => true

/-- The plain ways out, with what came up on each. -/
def splitG (k : Nat) : List Out → List (Pc × St) × List Out
  | [] => ([], [])
  | .good .norm st :: r => let q := splitG k r; ((st.pc.take (st.pc.length - k), st) :: q.1, q.2)
  | x :: r => let q := splitG k r; (q.1, x :: q.2)
def mgAll (ok : St → St → St → Bool) (base : Pc) : List (Pc × St) → Option St
  | [] => none
  | [(_, st)] => bif listB factB (st.pc.drop (st.pc.length - base.length)) base then some st else none
  | (e, st) :: rest => match mgAll ok base rest with
    | some r => bif rest.all (fun q => excl e q.1) && listB factB (st.pc.drop (st.pc.length - base.length)) base then
        let z := mgS (conj e) base st r
        bif ok st r z then some z else none
      else none
    | none => none
theorem mgAll_ok {X : Cx} {ok : St → St → St → Bool} {base : Pc} : ∀ {l : List (Pc × St)} {z : St}, mgAll ok base l = some z → (∀ p ∈ l, p.1 = p.2.pc.take (p.2.pc.length - base.length)) →
    ∀ p ∈ l, ∀ ρ a w, Rel X ρ p.2 a w → Rel X ρ z a w ∧ pcOk X.E base ∧ p.2.m.length ≤ z.m.length := by
  intro l
  induction l with
  | nil => intro z h; simp [mgAll] at h
  | cons q rest ih =>
    intro z h hpc p hp ρ a w hr
    obtain ⟨e, st⟩ := q
    have drops : ∀ {s : St}, listB factB (s.pc.drop (s.pc.length - base.length)) base = true → pcOk X.E s.pc → pcOk X.E base := by
      intro s hs hok
      have := listB_eq (fun _ _ => factB_eq) hs
      rw [← this]
      exact fun x hx => hok x (List.mem_of_mem_drop hx)
    have takes : ∀ q ∈ (e, st) :: rest, pcOk X.E q.2.pc → pcOk X.E q.1 := by
      intro q hq hok
      rw [hpc q hq]
      exact fun x hx => hok x (List.mem_of_mem_take hx)
    cases rest with
    | nil =>
      simp only [mgAll] at h
      cases hb : listB factB (st.pc.drop (st.pc.length - base.length)) base <;> simp only [hb, cond_true, cond_false] at h
      · cases h
      · cases h
        simp at hp
        subst hp
        exact ⟨hr, drops hb hr.pc, Nat.le_refl _⟩
    | cons q2 rest =>
      simp only [mgAll] at h
      split at h
      · rename_i r hrest
        cases hb : (q2 :: rest).all (fun q => excl e q.1) && listB factB (st.pc.drop (st.pc.length - base.length)) base <;> simp only [hb, cond_true, cond_false] at h
        · cases h
        · simp only [Bool.and_eq_true] at hb
          obtain ⟨hex, hbase⟩ := hb
          have hz : z = mgS (conj e) base st r := by
            cases hk : ok st r (mgS (conj e) base st r) <;> simp only [hk, cond_true, cond_false] at h
            · cases h
            · cases h; rfl
          subst hz
          rcases List.mem_cons.1 hp with rfl | hp
          · have hc : (conj e).tr X.E = true := conj_tr.2 (takes _ List.mem_cons_self hr.pc)
            have hbp := drops hbase hr.pc
            exact ⟨mgS_ok hbp (by simpa [sel, hc] using hr), hbp, by show st.m.length ≤ (mgM _ _ _).length; rw [mgM_length]; omega⟩
          · obtain ⟨h1, h2, h3⟩ := ih hrest (fun p hp => hpc p (List.mem_cons_of_mem _ hp)) p hp ρ a w hr
            have hc : (conj e).tr X.E = false := by
              cases hc : (conj e).tr X.E
              · rfl
              · rw [List.all_eq_true] at hex
                exact (excl_ok (hex p hp) (conj_tr.1 hc) (takes p (List.mem_cons_of_mem _ hp) hr.pc)).elim
            exact ⟨mgS_ok h2 (by simpa [sel, hc] using h1), h2, by show p.2.m.length ≤ (mgM _ _ _).length; rw [mgM_length]; omega⟩
      · cases h
theorem splitG_ok {k : Nat} : ∀ {l : List Out}, (∀ p ∈ (splitG k l).1, p.1 = p.2.pc.take (p.2.pc.length - k)) ∧ (∀ st, Out.good .norm st ∈ l → ∃ p ∈ (splitG k l).1, p.2 = st) ∧ (∀ o ∈ l, (∀ st, o ≠ .good .norm st) → o ∈ (splitG k l).2) := by
  intro l
  induction l with
  | nil => exact ⟨fun p hp => (nomatch hp), fun st h => (nomatch h), fun o h => (nomatch h)⟩
  | cons x r ih =>
    obtain ⟨h1, h2, h3⟩ := ih
    unfold splitG
    split
    · rename_i he; cases he
    · rename_i st r' he
      cases he
      refine ⟨fun p hp => ?_, fun st' hst => ?_, fun o ho hne => ?_⟩
      · rcases List.mem_cons.1 hp with rfl | hp
        · rfl
        · exact h1 p hp
      · rcases List.mem_cons.1 hst with he | hst
        · cases he; exact ⟨_, List.mem_cons_self, rfl⟩
        · obtain ⟨p, hp, e⟩ := h2 st' hst; exact ⟨p, List.mem_cons_of_mem _ hp, e⟩
      · rcases List.mem_cons.1 ho with rfl | ho
        · exact (hne st rfl).elim
        · exact h3 o ho hne
    · rename_i y r' hne' he
      cases he
      refine ⟨h1, fun st' hst => ?_, fun o ho hne => ?_⟩
      · rcases List.mem_cons.1 hst with he | hst
        · exact (hne' st' he.symm).elim
        · exact h2 st' hst
      · rcases List.mem_cons.1 ho with rfl | ho
        · exact List.mem_cons_self
        · exact List.mem_cons_of_mem _ (h3 o ho hne)
/-- Several plain ways out are made one, where nothing is lost by it. -/
def merge (ok : St → St → St → Bool) (base : Pc) (l : List Out) : List Out :=
  let q := splitG base.length l
  match q.1 with
  | _ :: _ :: _ => match mgAll ok base q.1 with
    | some z => .good .norm z :: q.2
    | none => l
  | _ => l
theorem merge_ok {X : Cx} {ρ : Nat → Nat} {n : Nat} {Q : Exit → Act → World → Prop} {ok : St → St → St → Bool} {base : Pc} {l : List Out} (h : ∀ o ∈ merge ok base l, Sat X ρ n Q o) : ∀ o ∈ l, Sat X ρ n Q o := by
  unfold merge at h
  dsimp only at h
  split at h
  · split at h
    · rename_i z hz
      obtain ⟨h1, h2, h3⟩ := splitG_ok (k := base.length) (l := l)
      intro o ho
      by_cases hn : ∃ st, o = .good .norm st
      · obtain ⟨st, rfl⟩ := hn
        obtain ⟨p, hp, rfl⟩ := h2 st ho
        intro ρ' a' w' g1 g2 g3
        obtain ⟨h4, _, h5⟩ := mgAll_ok hz h1 p hp ρ' a' w' g3
        exact h _ List.mem_cons_self ρ' a' w' g1 (Nat.le_trans g2 h5) h4
      · exact h o (List.mem_cons_of_mem _ (h3 o ho fun st e => hn ⟨st, e⟩))
    · exact h
  · exact h
/-- Nothing that both ways knew is lost; blocks from 'lo' on may be. -/
def okAll (lo : Nat) (a b z : St) : Bool := keepT a.s b.s z.s && keepM lo a.m b.m z.m
def keepAt (a b z : St) (t : Nat) : Bool := match a.s.get t, b.s.get t, z.s.get t with
  | some x, some y, some u => keepL x y u
  | _, _, _ => true
def keepBk (a b z : St) (t : Nat) : Bool := match z.s.get t with
  | some (.a (.c (.ptr p _))) => match a.m[p]?, b.m[p]?, z.m[p]? with
    | some x, some y, some u => keepB x y u
    | _, _, _ => false
  | _ => false
/-- The results are not lost, nor blocks below 'lo'. -/
def okRes (lo : Nat) (rs : List ResultVar) (a b z : St) : Bool := keepM lo a.m b.m z.m && rs.all fun
  | .tmp t => keepAt a b z t
  | .cell t _ => keepAt a b z t && keepBk a b z t

/-- Only these slots. -/
def Tr.blank : Tr → Tr
  | .nil => .nil
  | .nd _ l r => .nd (.a .dead) l.blank r.blank
theorem Tr.get_blank : ∀ {t : Tr} {i : Nat} {z : L}, t.blank.get i = some z → z = .a .dead ∧ ∃ x, t.get i = some x := by
  intro t
  induction t with
  | nil => intro i z h; simp [Tr.blank, Tr.get] at h
  | nd x l r ihl ihr =>
    intro i z h
    simp only [Tr.blank, Tr.get_nd] at h ⊢
    by_cases h0 : i = 0
    · simp only [if_pos h0, Option.some.injEq] at h ⊢; exact ⟨h.symm, x, rfl⟩
    · by_cases h1 : i % 2 = 1
      · simp only [if_neg h0, if_pos h1] at h ⊢; exact ihl h
      · simp only [if_neg h0, if_neg h1] at h ⊢; exact ihr h
def onlyF (t : Tr) : List Nat → Tr → Tr
  | [], u => u
  | i :: rs, u => match t.get i with
    | some x => onlyF t rs (u.set i x)
    | none => onlyF t rs u
theorem onlyF_ok {r : L → Value → Prop} {t : Tr} {vs : Array Value} (h : S2 r t vs) : ∀ {rs : List Nat} {u : Tr}, S2 r u vs → S2 r (onlyF t rs u) vs := by
  intro rs
  induction rs with
  | nil => intro u hu; exact hu
  | cons i rs ih =>
    intro u hu
    simp only [onlyF]
    split
    · rename_i x hx
      refine ih fun j y hy => ?_
      rw [Tr.get_set] at hy
      split at hy
      · rename_i hij
        subst hij
        rw [Option.map_eq_some_iff] at hy
        obtain ⟨_, _, rfl⟩ := hy
        exact h i x hx
      · exact hu j y hy
    · exact ih hu
def only (rs : List Nat) (t : Tr) : Tr := onlyF t rs t.blank
theorem Rel.only {X : Cx} {ρ : Nat → Nat} {st : St} {a : Act} {w : World} (h : Rel X ρ st a w) (rs : List Nat) : Rel X ρ ⟨Go.Sy.only rs st.s, st.m, st.pc⟩ a w := by
  refine ⟨⟨onlyF_ok h.slots fun i z hz => ?_, h.pc⟩, h.dfr, h.mr⟩
  obtain ⟨rfl, x, hx⟩ := Tr.get_blank hz
  obtain ⟨v, h1, _⟩ := h.slots i x hx
  exact ⟨v, h1, trivial⟩
def rsSlots (rs : List ResultVar) : List Nat := rs.map fun
  | .tmp t => t
  | .cell t _ => t
/-- A body's ways out: what is not a result is forgotten. -/
def trimO (rs : List Nat) : Out → Out
  | .good .ret st => .good .norm ⟨only rs st.s, st.m, st.pc⟩
  | .good .norm st => .good .norm ⟨only rs st.s, st.m, st.pc⟩
  | o => o
end Go.Sy
