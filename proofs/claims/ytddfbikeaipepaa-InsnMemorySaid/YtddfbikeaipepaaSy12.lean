/- Part 12 of a checked reader of Go texts in their model form: it runs a function at terms in the place of numbers, and each part proves that its answers hold of the model. -/
import Derived.Test.YtddfbikeaipepaaSy11
namespace Go.Sy

/-! states held against each other -/
def listB {α : Type} (f : α → α → Bool) : List α → List α → Bool
  | [], [] => true
  | a :: as, b :: bs => f a b && listB f as bs
  | _, _ => false
theorem listB_eq {α : Type} {f : α → α → Bool} (hf : ∀ a b, f a b = true → a = b) : ∀ {as bs : List α}, listB f as bs = true → as = bs := by
  intro as
  induction as with
  | nil => intro bs h; cases bs <;> simp [listB] at h; rfl
  | cons a as ih => intro bs h; cases bs <;> simp [listB] at h; rw [hf _ _ h.1, ih h.2]
def C.beq : C → C → Bool
  | .int k t, .int k' t' => decide (k = k') && t.beq t'
  | .bool t, .bool t' => t.beq t'
  | .ptr b o, .ptr b' o' => b == b' && o == o'
  | .pti b o x s c, .pti b' o' x' s' c' => b == b' && o == o' && x.beq x' && s == s' && c == c'
  | .nilp, .nilp => true
  | .slc b o n, .slc b' o' n' => b == b' && o == o' && n == n'
  | .nils, .nils => true
  | .fn f, .fn g => f == g
  | .any, .any => true
  | _, _ => false
theorem C.beq_eq {a b : C} (h : a.beq b = true) : a = b := by
  cases a <;> cases b <;> simp [C.beq] at h <;> (try rfl)
  · rw [h.1, T.beq_eq h.2]
  · rw [T.beq_eq h]
  · rw [h.1, h.2]
  · rw [h.1.1.1.1, h.1.1.1.2, T.beq_eq h.1.1.2, h.1.2, h.2]
  · rw [h.1.1, h.1.2, h.2]
  · rw [h]
def A.beq : A → A → Bool
  | .c x, .c y => x.beq y
  | .agg xs, .agg ys => listB C.beq xs ys
  | .dead, .dead => true
  | _, _ => false
theorem A.beq_eq {a b : A} (h : a.beq b = true) : a = b := by
  cases a <;> cases b <;> simp [A.beq] at h <;> (try rfl)
  · rw [C.beq_eq h]
  · rw [listB_eq (fun _ _ => C.beq_eq) h]
def L.beq : L → L → Bool
  | .a x, .a y => x.beq y
  | .tup xs, .tup ys => listB A.beq xs ys
  | .gd c x, .gd d y => c.beq d && x.beq y
  | _, _ => false
theorem L.beq_eq {a b : L} (h : a.beq b = true) : a = b := by
  cases a <;> cases b <;> simp [L.beq] at h
  · rw [A.beq_eq h]
  · rw [listB_eq (fun _ _ => A.beq_eq) h]
  · rw [T.beq_eq h.1, A.beq_eq h.2]
def Bk.beq : Bk → Bk → Bool
  | .cells t xs, .cells u ys => t == u && listB C.beq xs ys
  | .dead, .dead => true
  | _, _ => false
theorem Bk.beq_eq {a b : Bk} (h : a.beq b = true) : a = b := by
  cases a <;> cases b <;> simp [Bk.beq] at h <;> (try rfl)
  rw [h.1, listB_eq (fun _ _ => C.beq_eq) h.2]
def factB (a b : T × Bool) : Bool := a.1.beq b.1 && (a.2 == b.2)
theorem factB_eq {a b : T × Bool} (h : factB a b = true) : a = b := by
  obtain ⟨x, y⟩ := a
  obtain ⟨u, v⟩ := b
  simp [factB] at h
  rw [T.beq_eq h.1, h.2]
def Tr.beq : Tr → Tr → Bool
  | .nil, .nil => true
  | .nd x l r, .nd y l' r' => x.beq y && l.beq l' && r.beq r'
  | _, _ => false
theorem Tr.beq_eq {a : Tr} : ∀ {b : Tr}, a.beq b = true → a = b := by
  induction a with
  | nil => intro b h; cases b <;> simp [Tr.beq] at h; rfl
  | nd x l r ihl ihr => intro b h; cases b <;> simp [Tr.beq] at h; rw [L.beq_eq h.1.1, ihl h.1.2, ihr h.2]
def St.beq (a b : St) : Bool := a.s.beq b.s && listB Bk.beq a.m b.m && listB factB a.pc b.pc
theorem St.beq_eq {a b : St} (h : a.beq b = true) : a = b := by
  obtain ⟨s, m, pc⟩ := a
  obtain ⟨s', m', pc'⟩ := b
  simp [St.beq] at h
  rw [Tr.beq_eq h.1.1, listB_eq (fun _ _ => Bk.beq_eq) h.1.2, listB_eq (fun _ _ => factB_eq) h.2]

/-! a block that nothing names -/
def C.men (p : Nat) : C → Bool
  | .ptr b _ | .pti b _ _ _ _ | .slc b _ _ => b == p
  | .clo _ caps => caps.any fun q => q.1 == p
  | _ => false
def A.men (p : Nat) : A → Bool
  | .c x => x.men p
  | .agg xs => xs.any (·.men p)
  | .dead => false
def L.men (p : Nat) : L → Bool
  | .a x => x.men p
  | .tup xs => xs.any (·.men p)
  | .gd _ x => x.men p
def Bk.men (p : Nat) : Bk → Bool
  | .cells _ xs => xs.any (·.men p)
  | .dead => false
section men
variable {E : Env} {ρ : Nat → Nat} {n p k : Nat}
theorem Cr.upd {x : C} {v : Value} (hm : x.men p = false) (h : Cr E ρ n x v) : Cr E (upd ρ p k) n x v := by
  cases x <;> simp only [Cr] at h ⊢ <;> (try exact h)
  case ptr b o => rw [upd_ne ρ k (by simpa [C.men] using hm)]; exact h
  case pti b o ix sz c => rw [upd_ne ρ k (by simpa [C.men] using hm)]; exact h
  case slc b o l => rw [upd_ne ρ k (by simpa [C.men] using hm)]; exact h
  case clo f caps =>
    refine ⟨h.1, h.2.trans ?_⟩
    congr 2
    refine List.map_congr_left fun q hq => ?_
    have : q.1 ≠ p := by
      simp only [C.men, List.any_eq_false] at hm
      simpa using hm q hq
    rw [upd_ne ρ k this]
theorem F2.upd {xs : List C} {vs : Array Value} (hm : xs.any (·.men p) = false) (h : F2 (Cr E ρ n) xs vs) : F2 (Cr E (Go.Sy.upd ρ p k) n) xs vs :=
  ⟨h.1, fun i x hx => let ⟨v, h1, h2⟩ := h.2 i x hx; ⟨v, h1, h2.upd (by rw [List.any_eq_false] at hm; simpa using hm x (List.mem_of_getElem? hx))⟩⟩
theorem Ar.upd {x : A} {v : Value} (hm : x.men p = false) (h : Ar E ρ n x v) : Ar E (upd ρ p k) n x v := by
  cases x with
  | c x => exact Cr.upd hm h
  | agg xs => obtain ⟨cs, h1, h2⟩ := h; exact ⟨cs, h1, h2.upd hm⟩
  | dead => trivial
theorem Lr.upd {x : L} {v : Value} (hm : x.men p = false) (h : Lr E ρ n x v) : Lr E (upd ρ p k) n x v := by
  cases x with
  | a x => exact Ar.upd hm h
  | tup xs =>
    obtain ⟨cs, h1, h2⟩ := h
    refine ⟨cs, h1, h2.1, fun i x hx => ?_⟩
    obtain ⟨v, h3, h4⟩ := h2.2 i x hx
    refine ⟨v, h3, h4.upd ?_⟩
    simp only [L.men, List.any_eq_false] at hm
    simpa using hm x (List.mem_of_getElem? hx)
  | gd c x => exact ⟨fun hc => (h.1 hc).upd hm, h.2⟩
end men

section alloc
variable {P : Program} {X : Cx} {ρ : Nat → Nat} {m : List Bk} {w : World} {st : St} {a : Act} {o : Oper}
theorem MemR.allocAt (h : MemR X ρ m w) {p : Nat} (hp : m[p]? = some .dead) (hn : X.n0 ≤ p) (hm : m.any (·.men p) = false) {ty : TypeId} {xs : List C} {cs : Array Value} (hx : ∀ ρ, F2 (Cr X.E ρ m.length) xs cs) :
    MemR X (upd ρ p w.heap.size) (m.set p (.cells ty xs)) (w.alloc (.cells cs ty (0, 0))) := by
  have hsz : (w.alloc (.cells cs ty (0, 0))).heap.size = w.heap.size + 1 := by
    show (w.heap.push _).size = _; simp
  have pl : p < m.length := (List.getElem?_eq_some_iff.1 hp).1
  have split : ∀ (j : Nat) (b : Bk), (m.set p (.cells ty xs))[j]? = some b → (j = p ∧ b = .cells ty xs) ∨ (j ≠ p ∧ m[j]? = some b) := by
    intro j b hj
    by_cases hij : p = j
    · subst hij
      simp [pl] at hj
      exact .inl ⟨rfl, hj.symm⟩
    · rw [List.getElem?_set_ne hij] at hj
      exact .inr ⟨fun e => hij e.symm, hj⟩
  have hf := h.fr
  refine ⟨fun i b hi => ?_, fun i j bi bj hi hj hbi hbj heq => ?_, by simpa using h.len, fun i hi => ?_, fun i b hn' hi hb => ?_, ?_⟩
  · rw [List.length_set]
    rcases split i b hi with ⟨rfl, rfl⟩ | ⟨hne, hi'⟩
    · rw [upd_same, heap_alloc_new]; exact ⟨cs, rfl, hx _⟩
    · rw [upd_ne ρ _ hne]
      have hb := h.mem i b hi'
      cases b with
      | dead => trivial
      | cells ty' xs' =>
        have hlt := h.live_lt hi' rfl
        rw [heap_alloc_old w _ hlt]
        obtain ⟨cs', h1, h2⟩ := hb
        refine ⟨cs', h1, h2.upd ?_⟩
        rw [List.any_eq_false] at hm
        simpa [Bk.men] using hm _ (List.mem_of_getElem? hi')
  · rcases split i bi hi with ⟨rfl, rfl⟩ | ⟨hne, hi'⟩ <;> rcases split j bj hj with ⟨rfl, rfl⟩ | ⟨hne', hj'⟩
    · rfl
    · rw [upd_ne ρ _ hne', upd_same] at heq
      have := h.live_lt hj' hbj; omega
    · rw [upd_ne ρ _ hne, upd_same] at heq
      have := h.live_lt hi' hbi; omega
    · rw [upd_ne ρ _ hne, upd_ne ρ _ hne'] at heq
      exact h.inj i j bi bj hi' hj' hbi hbj heq
  · rw [upd_ne ρ _ (by omega)]; exact h.old i hi
  · rcases split i b hi with ⟨rfl, rfl⟩ | ⟨hne, hi'⟩
    · rw [upd_same]; exact hf.size
    · rw [upd_ne ρ _ hne]; exact h.new i b hn' hi' hb
  · exact ⟨hf.os, hf.tape, hf.output, by rw [hsz]; have := hf.size; omega, fun k hk hn => by rw [heap_alloc_old w _ (Nat.lt_of_lt_of_le hk hf.size)]; exact hf.block k hk hn⟩

theorem MemR.pad (h : MemR X ρ m w) (k : Nat) : MemR X ρ (m ++ List.replicate k .dead) w := by
  have split : ∀ (j : Nat) (b : Bk), (m ++ List.replicate k Bk.dead)[j]? = some b → b = .dead ∨ m[j]? = some b := by
    intro j b hj
    rw [List.getElem?_append] at hj
    split at hj
    · exact .inr hj
    · rw [List.getElem?_replicate] at hj
      split at hj
      · cases hj; exact .inl rfl
      · cases hj
  refine ⟨fun i b hi => ?_, fun i j bi bj hi hj hbi hbj heq => ?_, by have := h.len; simp; omega, h.old, fun i b hn hi hb => ?_, h.fr⟩
  · rcases split i b hi with rfl | hi'
    · trivial
    · exact Br.mono (fun _ _ => rfl) (by simp) (h.mem i b hi')
  · rcases split i bi hi with rfl | hi'
    · simp [Bk.live] at hbi
    · rcases split j bj hj with rfl | hj'
      · simp [Bk.live] at hbj
      · exact h.inj i j bi bj hi' hj' hbi hbj heq
  · rcases split i b hi with rfl | hi'
    · simp [Bk.live] at hb
    · exact h.new i b hn hi' hb

/-- A new variable under a number that was kept for it. -/
def evAllocAt (P : Program) (st : St) (p : Nat) (e : TypeId) : Option OpR :=
  match st.m[p]? with
  | some .dead => bif st.s.any (·.men p) || st.m.any (·.men p) then none else (zeroOf P e).map fun xs => ⟨.a (.c (.ptr p 0)), st.m.set p (.cells e xs), []⟩
  | _ => none

/-- One operation, its guard too; a new variable goes under the number 'base + i'. -/
def evStep (P : Program) (run : Rn) (ops : Array Oper) (base : Nat) (i : Nat) (st : St) : Option (List Out) :=
  match ops[i]? with
  | none => some [.good .norm st]
  | some o => match evGuard st ops o with
    | none => none
    | some .yes => match o.op with
      | .alloc e => match evAllocAt P st (base + i) e with
        | some r => some [.good .norm (putS ⟨st.s, r.m, st.pc⟩ o.dst r.l)]
        | none => evO P run st o
      | _ => evO P run st o
    | some .no => some [.good .norm (putS st o.dst (.tup []))]
    | some (.may t) => match evS P (withPc st t true) o with
      | some ⟨.a x, _, []⟩ => some [.good .norm (putS st o.dst (.gd t x))]
      | _ => match evO P run (withPc st t true) o with
        | some outs => some (outs ++ [.good .norm (putS (withPc st t false) o.dst (.tup []))])
        | none => none
theorem evStep_ok {run : Rn} (hrun : RnOk P run) {ops : Array Oper} {base i : Nat} {outs : List Out} (he : evStep P run ops base i st = some outs) (h : Rel X ρ st a w) {n : Nat} (hb : n ≤ base) (h0 : X.n0 ≤ base) (hn : n ≤ st.m.length)
    {K : Act → World → Prop} {Q : Exit → Act → World → Prop} (hs : ∀ x ∈ outs, Sat X ρ n (Exit.then K Q) x) : wpOp P ops Q i K a w := by
  have hs' : ∀ x ∈ outs, Sat X ρ st.m.length (Exit.then K Q) x := fun x hx => (hs x hx).from (fun _ _ => rfl) hn
  unfold wpOp
  unfold evStep at he
  split at he
  · rename_i hi
    simp only [hi]
    cases he
    exact hs _ List.mem_cons_self ρ a w (fun _ _ => rfl) hn h
  · rename_i o hi
    simp only [hi]
    split at he
    · cases he
    · rename_i hg
      have hw : Region.wanted o (yielded ops a.tmps) = true := evGuard_ok h hg
      rw [if_pos hw]
      split at he
      · rename_i e ho
        split at he
        · rename_i r hr
          cases he
          unfold evAllocAt at hr
          split at hr
          · rename_i hdead
            cases hm : st.s.any (·.men (base + i)) || st.m.any (·.men (base + i)) <;> simp only [hm, cond_true, cond_false] at hr
            · rw [Bool.or_eq_false_iff] at hm
              rw [Option.map_eq_some_iff] at hr
              obtain ⟨xs, hz, rfl⟩ := hr
              obtain ⟨z, h1, h2⟩ := zeroOf_ok hz
              left
              unfold Oper.wp
              have hx : (execOp a.eval o).run P w = .ok (.value (.pointer (some ⟨w.heap.size, 0, none⟩))) (w.alloc (.cells z.cells e)) := by
                simp [execOp, ho, Instr.alloc, h1, newVar, newRow]
              rw [hx]
              have hlen : base + i < st.m.length := (List.getElem?_eq_some_iff.1 hdead).1
              refine hs _ List.mem_cons_self (upd ρ (base + i) w.heap.size) _ _ (fun j hj => upd_ne _ _ (by omega)) (by rw [putS_m]; simpa using hn) (Rel.put (st := ⟨st.s, st.m.set (base + i) (.cells e xs), st.pc⟩) ⟨⟨?_, h.pc⟩, h.dfr, h.mr.allocAt hdead (by omega) hm.2 fun ρ => h2 X.E ρ _⟩ o.dst ?_)
              · refine fun j l hl => ?_
                obtain ⟨v, h3, h4⟩ := h.slots j l hl
                refine ⟨v, h3, ?_⟩
                rw [List.length_set]
                refine h4.upd ?_
                exact Tr.any_get hm.1 hl
              · simp only [Lr, Ar, Cr, upd_same]
                exact ⟨by simpa using hlen, trivial⟩
            · cases hr
          · cases hr
        · exact .inl (evO_ok hrun h he hs')
      · exact .inl (evO_ok hrun h he hs')
    · rename_i hg
      have hw : Region.wanted o (yielded ops a.tmps) = false := evGuard_ok h hg
      rw [if_neg (by simp [hw])]
      cases he
      exact hs _ List.mem_cons_self ρ _ w (fun _ _ => rfl) (by rw [putS_m]; exact hn) (h.put o.dst (l := .tup []) (v := undef) undef_ok)
    · rename_i t hg
      have hw : t.tr X.E = Region.wanted o (yielded ops a.tmps) := evGuard_ok h hg
      split at he
      · rename_i x m hq
        cases he
        by_cases ht : t.tr X.E = true
        · rw [if_pos (by rw [← hw]; exact ht)]
          have hrel := h.withPc ht
          obtain ⟨hok, hmm⟩ := evS_ok hrel hq
          obtain ⟨v, w', ρ', hrun', hl, hmr, hρ, hn'⟩ := hok (fun t ht => by simp at ht)
          simp only at hmm hl hmr hn'
          subst hmm
          left
          have hput : Rel X ρ' (putS st o.dst (.gd t x)) (a.put o.dst v) w' := Rel.put ⟨⟨h.slots.mono fun _ _ => Lr.mono hρ (Nat.le_refl _), h.pc⟩, h.dfr, hmr⟩ o.dst ⟨fun _ => hl, fun hc => by rw [ht] at hc; cases hc⟩
          have := hs _ List.mem_cons_self ρ' _ w' (fun j hj => hρ j (Nat.lt_of_lt_of_le hj hn)) (by rw [putS_m]; exact hn) hput
          unfold Oper.wp
          rcases hrun' with hrun' | ⟨hrun', rfl⟩
          · rw [hrun']; exact this
          · rw [hrun']; exact this
        · rw [if_neg (by rw [← hw]; exact ht)]
          exact hs _ List.mem_cons_self ρ _ w (fun _ _ => rfl) (by rw [putS_m]; exact hn) (h.put o.dst (l := .gd t x) (v := undef) ⟨fun hc => absurd hc ht, fun _ => rfl⟩)
      · split at he
        · rename_i outs1 ho
          cases he
          by_cases ht : t.tr X.E = true
          · rw [if_pos (by rw [← hw]; exact ht)]
            exact .inl (evO_ok hrun (h.withPc ht) ho fun x hx => hs' x (List.mem_append_left _ hx))
          · rw [if_neg (by rw [← hw]; exact ht)]
            exact hs _ (List.mem_append_right _ List.mem_cons_self) ρ _ w (fun _ _ => rfl) (by rw [putS_m]; exact hn) ((h.withPc (by simpa using ht)).put o.dst (l := .tup []) (v := undef) undef_ok)
        · cases he

/-- What an operation that only reckons puts into its slot, its guard too. -/
def evTake (P : Program) (st : St) (ops : Array Oper) (o : Oper) : Option L :=
  match evGuard st ops o with
  | some .yes => match evR P st o with
    | some ⟨l, _, []⟩ => some l
    | _ => none
  | some .no => some (.tup [])
  | some (.may t) => match evR P (withPc st t true) o with
    | some ⟨.a x, _, []⟩ => some (.gd t x)
    | _ => none
  | none => none
theorem evTake_ok (h : Rel X ρ st a w) {ops : Array Oper} {l : L} (hl : evTake P st ops o = some l) : ∃ v, Yields P ops o v a ∧ Lr X.E ρ st.m.length l v := by
  unfold evTake at hl
  split at hl
  · rename_i hg
    have hw : Region.wanted o (yielded ops a.tmps) = true := evGuard_ok h hg
    split at hl
    · rename_i l' m hr
      cases hl
      obtain ⟨v, h1, h2⟩ := (evR_ok h.toSRel hr).2 (fun t ht => by simp at ht)
      exact ⟨v, .inl ⟨hw, h1⟩, h2⟩
    · cases hl
  · rename_i hg
    have hw : Region.wanted o (yielded ops a.tmps) = false := evGuard_ok h hg
    cases hl
    exact ⟨undef, .inr ⟨hw, rfl⟩, undef_ok⟩
  · rename_i t hg
    have hw : t.tr X.E = Region.wanted o (yielded ops a.tmps) := evGuard_ok h hg
    split at hl
    · rename_i x m hr
      cases hl
      cases ht : t.tr X.E
      · exact ⟨undef, .inr ⟨by rw [← hw, ht], rfl⟩, ⟨fun hc => absurd (ht.symm.trans hc) (by decide), fun _ => rfl⟩⟩
      · obtain ⟨v, h1, h2⟩ := (evR_ok (h.toSRel.withPc ht) hr).2 (fun t ht => by simp at ht)
        exact ⟨v, .inl ⟨by rw [← hw, ht], h1⟩, ⟨fun _ => h2, fun hc => absurd (ht.symm.trans hc) (by decide)⟩⟩
    · cases hl
  · cases hl
end alloc

/-! an order that is open -/
structure Nd where
  ls : Array Bool
  st : St
def Nd.beq (a b : Nd) : Bool := listB (· == ·) a.ls.toList b.ls.toList && a.st.beq b.st
theorem Nd.beq_eq {a b : Nd} (h : a.beq b = true) : a = b := by
  obtain ⟨l, s⟩ := a
  obtain ⟨l', s'⟩ := b
  simp only [Nd.beq, Bool.and_eq_true] at h
  have h1 : l.toList = l'.toList := listB_eq (fun a b hab => by simpa using hab) h.1
  rw [St.beq_eq h.2, Array.ext' h1]
def nub : List Nd → List Nd
  | [] => []
  | x :: r => let r' := nub r; bif r'.any (x.beq ·) then r' else x :: r'
theorem mem_nub {x : Nd} : ∀ {l : List Nd}, x ∈ l → x ∈ nub l := by
  intro l
  induction l with
  | nil => intro h; cases h
  | cons y r ih =>
    intro h
    simp only [nub]
    cases hc : (nub r).any (y.beq ·) <;> simp only [cond_true, cond_false]
    · rcases List.mem_cons.1 h with rfl | h
      · exact List.mem_cons_self
      · exact List.mem_cons_of_mem _ (ih h)
    · rcases List.mem_cons.1 h with rfl | h
      · rw [List.any_eq_true] at hc
        obtain ⟨z, h1, h2⟩ := hc
        rw [Nd.beq_eq h2]; exact h1
      · exact ih h
/-- The plain ways out are nodes. -/
def sortO (ls : Array Bool) : List Out → List Nd × List Out
  | [] => ([], [])
  | .good .norm st :: r => let q := sortO ls r; (⟨ls, st⟩ :: q.1, q.2)
  | x :: r => let q := sortO ls r; (q.1, x :: q.2)
theorem sortO_mem {ls : Array Bool} {x : Out} : ∀ {l : List Out}, x ∈ l → (∃ st, x = .good .norm st ∧ (⟨ls, st⟩ : Nd) ∈ (sortO ls l).1) ∨ (x ∈ (sortO ls l).2 ∧ ∀ st, x ≠ .good .norm st) := by
  intro l
  induction l with
  | nil => intro h; cases h
  | cons y r ih =>
    intro h
    unfold sortO
    split
    · rename_i he; cases he
    · rename_i st r' he
      cases he
      rcases List.mem_cons.1 h with rfl | h
      · exact .inl ⟨st, rfl, List.mem_cons_self⟩
      · rcases ih h with ⟨st', h1, h2⟩ | h2
        · exact .inl ⟨st', h1, List.mem_cons_of_mem _ h2⟩
        · exact .inr h2
    · rename_i y' r' hne he
      cases he
      rcases List.mem_cons.1 h with rfl | h
      · exact .inr ⟨List.mem_cons_self, fun st hc => hne st hc⟩
      · rcases ih h with ⟨st', h1, h2⟩ | h2
        · exact .inl ⟨st', h1, h2⟩
        · exact .inr ⟨List.mem_cons_of_mem _ h2.1, h2.2⟩
def takeOne (P : Program) (ops : Array Oper) (nd : Nd) : List Nat → Option Nd
  | [] => none
  | i :: rest => match ops[i]? with
    | some o => match (bif Region.free .any ops nd.ls i then evTake P nd.st ops o else none) with
      | some l => some ⟨nd.ls.setIfInBounds i true, putS nd.st o.dst l⟩
      | none => takeOne P ops nd rest
    | none => takeOne P ops nd rest
def stepAll (P : Program) (run : Rn) (ops : Array Oper) (base : Nat) (nd : Nd) : List Nat → Option (List Nd × List Out)
  | [] => some ([], [])
  | i :: rest => match evStep P run ops base i nd.st, stepAll P run ops base nd rest with
    | some outs, some r => let q := sortO (nd.ls.setIfInBounds i true) outs; some (q.1 ++ r.1, q.2 ++ r.2)
    | _, _ => none
def stepNd (P : Program) (run : Rn) (ops : Array Oper) (base : Nat) (nd : Nd) : Option (List Nd × List Out) :=
  match Region.ready .any ops nd.ls with
  | [] => some ([], [.good .norm nd.st])
  | rs => match takeOne P ops nd rs with
    | some nd' => some ([nd'], [])
    | none => stepAll P run ops base nd rs
def stepNds (P : Program) (run : Rn) (ops : Array Oper) (base : Nat) : List Nd → Option (List Nd × List Out)
  | [] => some ([], [])
  | nd :: rest => match stepNd P run ops base nd, stepNds P run ops base rest with
    | some a, some b => some (a.1 ++ b.1, a.2 ++ b.2)
    | _, _ => none
def evAny (P : Program) (run : Rn) (ops : Array Oper) (base : Nat) : Nat → List Nd → Option (List Out)
  | 0, nds => bif nds.all (fun nd => (Region.ready .any ops nd.ls).isEmpty) then some (nds.map fun nd => .good .norm nd.st) else none
  | k + 1, nds => match stepNds P run ops base nds with
    | some (nds', outs) => match nds' with
      | [] => some outs
      | _ => match evAny P run ops base k (nub nds') with
        | some outs' => some (outs ++ outs')
        | none => none
    | none => none

section any
variable {P : Program} {X : Cx} {ρ : Nat → Nat} {n : Nat} {Q : Exit → Act → World → Prop} {ops : Array Oper} {base : Nat} {run : Rn}
/-- A node, with fuel. -/
def NdOk (P : Program) (X : Cx) (ρ : Nat → Nat) (n : Nat) (Q : Exit → Act → World → Prop) (ops : Array Oper) (k : Nat) (nd : Nd) : Prop :=
  ∀ ρ1 a w, (∀ i, i < n → ρ1 i = ρ i) → n ≤ nd.st.m.length → Rel X ρ1 nd.st a w → wpAny P .any ops Q k nd.ls a w
theorem takeOne_ok {nd nd' : Nd} : ∀ {l : List Nat}, takeOne P ops nd l = some nd' → ∃ i o v l', i ∈ l ∧ ops[i]? = some o ∧ Region.free .any ops nd.ls i = true ∧ evTake P nd.st ops o = some v ∧ nd' = ⟨nd.ls.setIfInBounds i true, putS nd.st o.dst v⟩ ∧ l' = i := by
  intro l
  induction l with
  | nil => intro h; cases h
  | cons i rest ih =>
    intro h
    have later : takeOne P ops nd rest = some nd' → ∃ i' o v l', i' ∈ i :: rest ∧ ops[i']? = some o ∧ Region.free .any ops nd.ls i' = true ∧ evTake P nd.st ops o = some v ∧ nd' = ⟨nd.ls.setIfInBounds i' true, putS nd.st o.dst v⟩ ∧ l' = i' := by
      intro hr
      obtain ⟨i', o, v, l', h1, h2⟩ := ih hr
      exact ⟨i', o, v, l', List.mem_cons_of_mem _ h1, h2⟩
    simp only [takeOne] at h
    split at h
    · rename_i o ho
      split at h
      · rename_i l' hl
        cases h
        cases hf : Region.free .any ops nd.ls i <;> simp only [hf, cond_true, cond_false] at hl
        · cases hl
        · exact ⟨i, o, l', i, List.mem_cons_self, ho, hf, hl, rfl, rfl⟩
      · exact later h
    · exact later h
theorem stepAll_ok (hrun : RnOk P run) (hb : n ≤ base) (h0 : X.n0 ≤ base) {nd : Nd} {k : Nat} : ∀ {l : List Nat} {nds : List Nd} {outs : List Out}, stepAll P run ops base nd l = some (nds, outs) → (∀ x ∈ nds, NdOk P X ρ n Q ops k x) → (∀ x ∈ outs, Sat X ρ n Q x) →
    ∀ ρ1 a w, (∀ i, i < n → ρ1 i = ρ i) → n ≤ nd.st.m.length → Rel X ρ1 nd.st a w → ∀ i ∈ l, wpOp P ops Q i (wpAny P .any ops Q k (nd.ls.setIfInBounds i true)) a w := by
  intro l
  induction l with
  | nil => intro nds outs _ _ _ ρ1 a w _ _ _ i hi; cases hi
  | cons j rest ih =>
    intro nds outs he hnds houts ρ1 a w hρ hn h i hi
    simp only [stepAll] at he
    split at he
    · rename_i outs1 r h1 h2
      cases he
      rcases List.mem_cons.1 hi with rfl | hi
      · refine evStep_ok hrun h1 h hb h0 hn fun x hx => ?_
        rcases sortO_mem (ls := nd.ls.setIfInBounds i true) hx with ⟨st', rfl, hm⟩ | ⟨hm, hne⟩
        · intro ρ' a' w' g1 g2 g3
          exact hnds _ (List.mem_append_left _ hm) ρ' a' w' (fun i hi => (g1 i hi).trans (hρ i hi)) g2 g3
        · have := (houts x (List.mem_append_left _ hm)).from hρ (Nat.le_refl _)
          cases x with
          | bad pc => exact this
          | good e st' =>
            cases e with
            | norm => exact (hne st' rfl).elim
            | exit id => exact fun ρ' a' w' g1 g2 g3 => then_of _ _ _ (by simp [Ex.to]) (this ρ' a' w' g1 g2 g3)
            | ret => exact fun ρ' a' w' g1 g2 g3 => then_of _ _ _ (by simp [Ex.to]) (this ρ' a' w' g1 g2 g3)
      · exact ih h2 (fun x hx => hnds x (List.mem_append_right _ hx)) (fun x hx => houts x (List.mem_append_right _ hx)) ρ1 a w hρ hn h i hi
    · cases he
theorem evAny_ok (hrun : RnOk P run) (hs : Region.noSelect ops = true) (hQ : ∀ c a w, ¬ Q (.panic c) a w) (hb : n ≤ base) (h0 : X.n0 ≤ base) : ∀ {k : Nat} {nds : List Nd} {outs : List Out}, evAny P run ops base k nds = some outs → (∀ x ∈ outs, Sat X ρ n Q x) →
    ∀ nd ∈ nds, NdOk P X ρ n Q ops k nd := by
  intro k
  induction k with
  | zero =>
    intro nds outs he hsat nd hnd ρ1 a w hρ hn h
    simp only [evAny] at he
    cases hc : nds.all (fun nd => (Region.ready .any ops nd.ls).isEmpty) <;> simp only [hc, cond_true, cond_false] at he
    · cases he
    · cases he
      rw [List.all_eq_true] at hc
      have h1 := hc nd hnd
      rw [List.isEmpty_iff] at h1
      exact ⟨h1, (hsat _ (List.mem_map_of_mem hnd)) ρ1 a w hρ hn h⟩
  | succ k ih =>
    intro nds outs he hsat nd hnd
    simp only [evAny] at he
    split at he
    · rename_i nds' outs1 hst
      -- the next nodes are fine, the ends are fine
      have key : (∀ x ∈ nds', NdOk P X ρ n Q ops k x) ∧ (∀ x ∈ outs1, Sat X ρ n Q x) := by
        split at he
        · cases he; exact ⟨fun x hx => (nomatch hx), hsat⟩
        · split at he
          · rename_i outs' he'
            cases he
            exact ⟨fun x hx => ih he' (fun x hx => hsat x (List.mem_append_right _ hx)) x (mem_nub hx), fun x hx => hsat x (List.mem_append_left _ hx)⟩
          · cases he
      clear he hsat
      induction nds generalizing nds' outs1 with
      | nil => cases hnd
      | cons nd0 rest ihl =>
        simp only [stepNds] at hst
        split at hst
        · rename_i A B hA hB
          cases hst
          rcases List.mem_cons.1 hnd with rfl | hnd
          · intro ρ1 a w hρ hn h
            have k1 : ∀ x ∈ A.1, NdOk P X ρ n Q ops k x := fun x hx => key.1 x (List.mem_append_left _ hx)
            have k2 : ∀ x ∈ A.2, Sat X ρ n Q x := fun x hx => key.2 x (List.mem_append_left _ hx)
            unfold stepNd at hA
            split at hA
            · rename_i hr
              cases hA
              exact wpAny_done hr (k2 _ List.mem_cons_self ρ1 a w hρ hn h) _
            · rename_i rs hne
              split at hA
              · rename_i nd' ht
                cases hA
                obtain ⟨i, o, l, _, hi, ho, hf, hl, rfl, _⟩ := takeOne_ok ht
                obtain ⟨v, hy, hlr⟩ := evTake_ok h hl
                refine wpAny_take ho hs hf (by simpa using hi) (fun c a w hq => (hQ _ _ _ hq).elim) hy ?_
                exact k1 _ List.mem_cons_self ρ1 _ w hρ (by rw [putS_m]; exact hn) (h.put o.dst hlr)
              · exact wpAny_all rfl (fun e => hne e) (stepAll_ok hrun hb h0 hA k1 k2 ρ1 a w hρ hn h)
          · exact ihl hnd _ _ hB ⟨fun x hx => key.1 x (List.mem_append_right _ hx), fun x hx => key.2 x (List.mem_append_right _ hx)⟩
        · cases hst
    · cases he

def evDraw (P : Program) (run : Rn) (ops : Array Oper) (st : St) : Option (List Out) :=
  bif P.follows .mixedOrders && Region.noSelect ops then
    evAny P run ops st.m.length ops.size [⟨Array.replicate ops.size false, ⟨st.s, st.m ++ List.replicate ops.size .dead, st.pc⟩⟩]
  else none
theorem evDraw_ok (hrun : RnOk P run) {st : St} {outs : List Out} (he : evDraw P run ops st = some outs) {a : Act} {w : World} (h : Rel X ρ st a w) (hsat : ∀ x ∈ outs, Sat X ρ st.m.length Q x) (id : Nat) : (Code.region id ops true).wp P Q a w := by
  unfold evDraw at he
  cases hc : P.follows .mixedOrders && Region.noSelect ops <;> simp only [hc, cond_true, cond_false] at he
  · cases he
  · rw [Bool.and_eq_true] at hc
    -- only plain ways out come of a region
    refine wp_mono (Q := fun e a w => match e with | .panic _ => False | e => Q e a w) (wp_region_any hc.1 ?_) (fun e a w hq => by cases e <;> first | exact hq | exact hq.elim)
    have hlen : st.m.length ≤ (st.m ++ List.replicate ops.size Bk.dead).length := by simp
    have hmr : MemR X ρ st.m { w with drawn := w.drawn + 1 } := ⟨h.mr.mem, h.mr.inj, h.mr.len, h.mr.old, h.mr.new, ⟨h.mr.fr.os, h.mr.fr.tape, h.mr.fr.output, h.mr.fr.size, h.mr.fr.block⟩⟩
    refine evAny_ok (X := X) (ρ := ρ) (n := st.m.length) hrun hc.2 (fun c a w hq => hq) (Nat.le_refl _) h.mr.len he (fun x hx => ?_) _ List.mem_cons_self ρ a _ (fun _ _ => rfl) hlen ⟨⟨h.slots.mono fun _ _ => Lr.mono (fun _ _ => rfl) hlen, h.pc⟩, h.dfr, hmr.pad _⟩
    have := hsat x hx
    cases x with
    | bad pc => exact this
    | good e st' => cases e <;> exact this
end any
end Go.Sy
