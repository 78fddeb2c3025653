/- Part 12 of a checked reader of Go texts in their model form: it runs a function at terms in the place of numbers, and each part proves that its answers hold of the model. -/
import Derived.Test.YtpjmhngcdbpmpaaLy11b
import Derived.Deep.Quiet
namespace Go.Sy

/-! states held against each other -/
def listB {α : Type} (f : α → α → Bool) : List α → List α → Bool
  | [], [] => true
  | a :: as, b :: bs => f a b && listB f as bs
  | _, _ => false
theorem listB_eq [Fs] {α : Type} {f : α → α → Bool} (hf : ∀ a b, f a b = true → a = b) : ∀ {as bs : List α}, listB f as bs = true → as = bs := by
  intro as
  induction as with
  | nil => intro bs h; cases bs <;> simp [listB] at h; rfl
  | cons a as ih => intro bs h; cases bs <;> simp [listB] at h; rw [hf _ _ h.1, ih h.2]
def Col.beq (a b : Col) : Bool := decide (a.k = b.k) && a.m == b.m && a.s.beq b.s
theorem Col.beq_eq [Fs] {a b : Col} (h : a.beq b = true) : a = b := by
  obtain ⟨k, m, s⟩ := a
  obtain ⟨k', m', s'⟩ := b
  simp [Col.beq] at h
  rw [h.1.1, h.1.2, T.beq_eq h.2]
def C.beq : C → C → Bool
  | .int k t, .int k' t' => decide (k = k') && t.beq t'
  | .bool t, .bool t' => t.beq t'
  | .ptr b o, .ptr b' o' => b == b' && o == o'
  | .pti b o x s c, .pti b' o' x' s' c' => b == b' && o == o' && x.beq x' && s == s' && c == c'
  | .nilp, .nilp => true
  | .slc b o n, .slc b' o' n' => b == b' && o == o' && n == n'
  | .nils, .nils => true
  | .fn f, .fn g => f == g
  | .any, .any => true
  | .str n s, .str n' s' => n.beq n' && s.beq s'
  | .slr b z o n, .slr b' z' o' n' => b == b' && z == z' && o.beq o' && n.beq n'
  | .sln b z n, .sln b' z' n' => b == b' && z == z' && n.beq n'
  | .pta b z i o r, .pta b' z' i' o' r' => b == b' && z == z' && i.beq i' && o == o' && r.beq r'
  | .ifc t g cs, .ifc t' g' cs' => t == t' && g == g' && listB Col.beq cs cs'
  | .sle b z n, .sle b' z' n' => b == b' && z == z' && n == n'
  | _, _ => false
theorem C.beq_eq [Fs] {a b : C} (h : a.beq b = true) : a = b := by
  cases a <;> cases b <;> simp [C.beq] at h <;> (try rfl)
  · rw [h.1, T.beq_eq h.2]
  · rw [T.beq_eq h]
  · rw [h.1, h.2]
  · rw [h.1.1.1.1, h.1.1.1.2, T.beq_eq h.1.1.2, h.1.2, h.2]
  · rw [h.1.1, h.1.2, h.2]
  · rw [h]
  · rw [T.beq_eq h.1, T.beq_eq h.2]
  · rw [h.1.1.1, h.1.1.2, T.beq_eq h.1.2, T.beq_eq h.2]
  · rw [h.1.1, h.1.2, T.beq_eq h.2]
  · rw [h.1.1.1.1, h.1.1.1.2, T.beq_eq h.1.1.2, h.1.2, T.beq_eq h.2]
  · rw [h.1.1, h.1.2, listB_eq (fun _ _ => Col.beq_eq) h.2]
  · rw [h.1.1, h.1.2, h.2]
def A.beq : A → A → Bool
  | .c x, .c y => x.beq y
  | .agg xs, .agg ys => listB C.beq xs ys
  | .rows xs, .rows ys => listB Col.beq xs ys
  | .dead, .dead => true
  | _, _ => false
theorem A.beq_eq [Fs] {a b : A} (h : a.beq b = true) : a = b := by
  cases a <;> cases b <;> simp [A.beq] at h <;> (try rfl)
  · rw [C.beq_eq h]
  · rw [listB_eq (fun _ _ => C.beq_eq) h]
  · rw [listB_eq (fun _ _ => Col.beq_eq) h]
def L.beq : L → L → Bool
  | .a x, .a y => x.beq y
  | .tup xs, .tup ys => listB A.beq xs ys
  | .gd c x, .gd d y => c.beq d && x.beq y
  | _, _ => false
theorem L.beq_eq [Fs] {a b : L} (h : a.beq b = true) : a = b := by
  cases a <;> cases b <;> simp [L.beq] at h
  · rw [A.beq_eq h]
  · rw [listB_eq (fun _ _ => A.beq_eq) h]
  · rw [T.beq_eq h.1, A.beq_eq h.2]
def Bk.beq : Bk → Bk → Bool
  | .arr t n c, .arr u m d => t == u && n.beq m && listB Col.beq c d
  | .cells t xs, .cells u ys => t == u && listB C.beq xs ys
  | .dead, .dead => true
  | _, _ => false
theorem Bk.beq_eq [Fs] {a b : Bk} (h : a.beq b = true) : a = b := by
  cases a <;> cases b <;> simp [Bk.beq] at h <;> (try rfl)
  · rw [h.1, listB_eq (fun _ _ => C.beq_eq) h.2]
  · rw [h.1.1, T.beq_eq h.1.2, listB_eq (fun _ _ => Col.beq_eq) h.2]
def factB (a b : T × Bool) : Bool := a.1.beq b.1 && (a.2 == b.2)
theorem factB_eq [Fs] {a b : T × Bool} (h : factB a b = true) : a = b := by
  obtain ⟨x, y⟩ := a
  obtain ⟨u, v⟩ := b
  simp [factB] at h
  rw [T.beq_eq h.1, h.2]
def Tr.beq : Tr → Tr → Bool
  | .nil, .nil => true
  | .nd x l r, .nd y l' r' => x.beq y && l.beq l' && r.beq r'
  | _, _ => false
theorem Tr.beq_eq [Fs] {a : Tr} : ∀ {b : Tr}, a.beq b = true → a = b := by
  induction a with
  | nil => intro b h; cases b <;> simp [Tr.beq] at h; rfl
  | nd x l r ihl ihr => intro b h; cases b <;> simp [Tr.beq] at h; rw [L.beq_eq h.1.1, ihl h.1.2, ihr h.2]
def Df.beq : Df → Df → Bool
  | .one i t, .one j u => i == j && t.beq u
  | .call i g as n, .call j h bs m => i == j && g == h && n == m && listB T.beq as bs
  | _, _ => false
theorem Df.beq_eq [Fs] {a b : Df} (h : a.beq b = true) : a = b := by
  cases a <;> cases b <;> simp [Df.beq] at h
  · rw [h.1, T.beq_eq h.2]
  · rw [h.1.1.1, h.1.1.2, h.1.2, listB_eq (fun _ _ => T.beq_eq) h.2]
def Kn.beq (a b : Kn) : Bool := a.nv == b.nv && listB Df.beq a.ds b.ds
theorem Kn.beq_eq [Fs] {a b : Kn} (h : a.beq b = true) : a = b := by
  obtain ⟨d, n⟩ := a
  obtain ⟨d', n'⟩ := b
  simp [Kn.beq] at h
  rw [h.1, listB_eq (fun _ _ => Df.beq_eq) h.2]
def St.beq (a b : St) : Bool := a.s.beq b.s && listB Bk.beq a.m b.m && listB factB a.pc b.pc && a.k.beq b.k
theorem St.beq_eq [Fs] {a b : St} (h : a.beq b = true) : a = b := by
  obtain ⟨s, m, pc, k⟩ := a
  obtain ⟨s', m', pc', k'⟩ := b
  simp [St.beq] at h
  rw [Tr.beq_eq h.1.1.1, listB_eq (fun _ _ => Bk.beq_eq) h.1.1.2, listB_eq (fun _ _ => factB_eq) h.1.2, Kn.beq_eq h.2]

/-! a block that nothing names -/
def C.men (p : Nat) : C → Bool
  | .ptr b _ | .pti b _ _ _ _ | .slc b _ _ | .slr b _ _ _ | .sln b _ _ | .pta b _ _ _ _ | .sle b _ _ => b == p
  | .clo _ caps => caps.any fun q => q.1 == p
  | _ => false
def A.men (p : Nat) : A → Bool
  | .c x => x.men p
  | .agg xs => xs.any (·.men p)
  | .rows _ => false
  | .dead => false
def L.men (p : Nat) : L → Bool
  | .a x => x.men p
  | .tup xs => xs.any (·.men p)
  | .gd _ x => x.men p
def Bk.men (p : Nat) : Bk → Bool
  | .cells _ xs => xs.any (·.men p)
  | .arr _ _ _ => false
  | .dead => false
section men
variable {E : Env} {ρ : Nat → Rb} {n p : Nat} {k : Rb}
theorem Cr.upd [Fs] {x : C} {v : Value} (hm : x.men p = false) (h : Cr E ρ n x v) : Cr E (upd ρ p k) n x v := by
  cases x <;> simp only [Cr] at h ⊢ <;> (try exact h)
  case ptr b o => rw [upd_ne ρ k (by simpa [C.men] using hm)]; exact h
  case pti b o ix sz c => rw [upd_ne ρ k (by simpa [C.men] using hm)]; exact h
  case slc b o l => rw [upd_ne ρ k (by simpa [C.men] using hm)]; exact h
  case slr b z o l => rw [upd_ne ρ k (by simpa [C.men] using hm)]; exact h
  case sln b z l => rw [upd_ne ρ k (by simpa [C.men] using hm)]; exact h
  case pta b z i o r => rw [upd_ne ρ k (by simpa [C.men] using hm)]; exact h
  case sle b z l => rw [upd_ne ρ k (by simpa [C.men] using hm)]; exact h
  case clo f caps =>
    refine ⟨h.1, h.2.trans ?_⟩
    congr 2
    refine List.map_congr_left fun q hq => ?_
    have : q.1 ≠ p := by
      simp only [C.men, List.any_eq_false] at hm
      simpa using hm q hq
    rw [upd_ne ρ k this]
theorem F2.upd [Fs] {xs : List C} {vs : Array Value} (hm : xs.any (·.men p) = false) (h : F2 (Cr E ρ n) xs vs) : F2 (Cr E (Go.Sy.upd ρ p k) n) xs vs :=
  ⟨h.1, fun i x hx => let ⟨v, h1, h2⟩ := h.2 i x hx; ⟨v, h1, h2.upd (by rw [List.any_eq_false] at hm; simpa using hm x (List.mem_of_getElem? hx))⟩⟩
theorem F2p.upd [Fs] {xs : List C} {vs : Array Value} (hm : xs.any (·.men p) = false) (h : F2p (Cr E ρ n) xs vs) : F2p (Cr E (Go.Sy.upd ρ p k) n) xs vs :=
  ⟨h.1, fun i x hx => let ⟨v, h1, h2⟩ := h.2 i x hx; ⟨v, h1, h2.upd (by rw [List.any_eq_false] at hm; simpa using hm x (List.mem_of_getElem? hx))⟩⟩
theorem Ar.upd [Fs] {x : A} {v : Value} (hm : x.men p = false) (h : Ar E ρ n x v) : Ar E (upd ρ p k) n x v := by
  cases x with
  | c x => exact Cr.upd hm h
  | agg xs => obtain ⟨cs, h1, h2⟩ := h; exact ⟨cs, h1, h2.upd hm⟩
  | rows cols => exact h
  | dead => trivial
theorem Lr.upd [Fs] {x : L} {v : Value} (hm : x.men p = false) (h : Lr E ρ n x v) : Lr E (upd ρ p k) n x v := by
  cases x with
  | a x => exact Ar.upd hm h
  | tup xs =>
    obtain ⟨cs, h1, h2⟩ := h
    refine ⟨cs, h1, h2.1, fun i x hx => ?_⟩
    obtain ⟨v, h3, h4⟩ := h2.2 i x hx
    refine ⟨v, h3, h4.upd ?_⟩
    simp only [L.men, List.any_eq_false] at hm
    simpa using hm x (List.mem_of_getElem? hx)
  | gd c x => exact ⟨fun hc => (h.1 hc).upd hm, h.2⟩
end men

section alloc
variable {P : Program} {X : Cx} {ρ : Nat → Rb} {m : List Bk} {w : World} {st : St} {a : Act} {o : Oper}
/-- A block takes a place that nothing names: one of the world's. -/
theorem MemR.place [Fs] (h : MemR X ρ m w) {p : Nat} (hp : m[p]? = some .dead) (hn : X.n0 ≤ p) (hm : m.any (·.men p) = false) {b : Bk} {g : Rb} {w' : World}
    (hold : ∀ (i : Nat) (c : Bk), m[i]? = some c → c.there X.E → w'.heap[(ρ i).g]? = w.heap[(ρ i).g]? ∧ (ρ i).g ≠ g.g) (hg : w.heap.size ≤ g.g) (hf' : Fr X w') (hb : Br X.E (upd ρ p g) m.length g b w'.heap[g.g]?) :
    MemR X (upd ρ p g) (m.set p b) w' := by
  have pl : p < m.length := (List.getElem?_eq_some_iff.1 hp).1
  have split : ∀ (j : Nat) (c : Bk), (m.set p b)[j]? = some c → (j = p ∧ c = b) ∨ (j ≠ p ∧ m[j]? = some c) := by
    intro j c hj
    by_cases hij : p = j
    · subst hij
      simp [pl] at hj
      exact .inl ⟨rfl, hj.symm⟩
    · rw [List.getElem?_set_ne hij] at hj
      exact .inr ⟨fun e => hij e.symm, hj⟩
  have hf := h.fr
  refine ⟨fun i c hi => ?_, fun i j bi bj hi hj hbi hbj heq => ?_, by simpa using h.len, fun i hi => ?_, fun i c hn' hi hr hc => ?_, hf'⟩
  · rw [List.length_set]
    rcases split i c hi with ⟨rfl, rfl⟩ | ⟨hne, hi'⟩
    · rw [upd_same]; exact hb
    · rw [upd_ne ρ _ hne]
      have hbr := h.mem i c hi'
      have h2 : Br X.E ρ m.length (ρ i) c w'.heap[(ρ i).g]? := hbr.same fun ht => (hold i c hi' ht).1
      cases c with
      | dead => trivial
      | arr ty k cols => exact h2
      | cells ty' xs' =>
        obtain ⟨cs', h1, hz, h2⟩ := h2
        refine ⟨cs', h1, hz, F2p.upd ?_ h2⟩
        rw [List.any_eq_false] at hm
        simpa [Bk.men] using hm _ (List.mem_of_getElem? hi')
  · rcases split i bi hi with ⟨rfl, rfl⟩ | ⟨hne, hi'⟩ <;> rcases split j bj hj with ⟨rfl, rfl⟩ | ⟨hne', hj'⟩
    · rfl
    · rw [upd_ne ρ _ hne', upd_same] at heq
      exact absurd heq.symm (hold j bj hj' hbj).2
    · rw [upd_ne ρ _ hne, upd_same] at heq
      exact absurd heq (hold i bi hi' hbi).2
    · rw [upd_ne ρ _ hne, upd_ne ρ _ hne'] at heq
      exact h.inj i j bi bj hi' hj' hbi hbj heq
  · rw [upd_ne ρ _ (by omega)]; exact h.old i hi
  · rcases split i c hi with ⟨rfl, rfl⟩ | ⟨hne, hi'⟩
    · rw [upd_same]; exact .inl (Nat.le_trans hf.size hg)
    · rw [upd_ne ρ _ hne]; exact h.new i c hn' hi' hr hc
theorem MemR.allocAt [Fs] (h : MemR X ρ m w) {p : Nat} (hp : m[p]? = some .dead) (hn : X.n0 ≤ p) (hm : m.any (·.men p) = false) {b : Bk} {ty : TypeId} {cs : Array Value} (hx : ∀ ρ n o, m.length ≤ n → o = some (.cells cs ty (0, 0)) → Br X.E ρ n ⟨w.heap.size, cs.size, 0⟩ b o) :
    MemR X (upd ρ p ⟨w.heap.size, cs.size, 0⟩) (m.set p b) (w.alloc (.cells cs ty (0, 0))) := by
  have hsz : (w.alloc (.cells cs ty (0, 0))).heap.size = w.heap.size + 1 := by
    show (w.heap.push _).size = _; simp
  have hf := h.fr
  refine h.place hp hn hm (fun i c hi hc => ?_) (Nat.le_refl _) ⟨hf.os, hf.tape, hf.output, by rw [hsz]; have := hf.size; omega, fun k hk hn => by rw [heap_alloc_old w _ (Nat.lt_of_lt_of_le hk hf.size)]; exact hf.block k hk hn⟩ (by rw [heap_alloc_new]; exact hx _ _ _ (Nat.le_refl _) rfl)
  have := h.live_lt hi hc
  exact ⟨heap_alloc_old w _ this, Nat.ne_of_lt this⟩

theorem MemR.pad [Fs] (h : MemR X ρ m w) (k : Nat) : MemR X ρ (m ++ List.replicate k .dead) w := by
  have split : ∀ (j : Nat) (b : Bk), (m ++ List.replicate k Bk.dead)[j]? = some b → b = .dead ∨ m[j]? = some b := by
    intro j b hj
    rw [List.getElem?_append] at hj
    split at hj
    · exact .inr hj
    · rw [List.getElem?_replicate] at hj
      split at hj
      · cases hj; exact .inl rfl
      · cases hj
  refine ⟨fun i b hi => ?_, fun i j bi bj hi hj hbi hbj heq => ?_, by have := h.len; simp; omega, h.old, fun i b hn hi hr hb => ?_, h.fr⟩
  · rcases split i b hi with rfl | hi'
    · trivial
    · exact Br.mono (fun _ _ => rfl) (by simp) (h.mem i b hi')
  · rcases split i bi hi with rfl | hi'
    · exact hbi.elim
    · rcases split j bj hj with rfl | hj'
      · exact hbj.elim
      · exact h.inj i j bi bj hi' hj' hbi hbj heq
  · rcases split i b hi with rfl | hi'
    · exact hb.elim
    · exact h.new i b hn hi' hr hb

/-- A new variable under a number that was kept for it. -/
def evAllocAt (P : Program) (st : St) (p : Nat) (e : TypeId) : Option OpR :=
  match st.m[p]? with
  | some .dead => bif st.s.any (·.men p) || st.m.any (·.men p) then none else (zeroOf P e).map fun xs => ⟨.a (.c (.ptr p 0)), st.m.set p (.cells (Nat.mul 2 e) xs), []⟩
  | _ => none

/-- What doesn't name the last block. -/
theorem Cr.drop [Fs] {E : Env} {ρ : Nat → Rb} {L : Nat} {x : C} {v : Value} (hm : x.men L = false) (h : Cr E ρ (L + 1) x v) : Cr E ρ L x v := by
  cases x <;> simp only [Cr] at h ⊢ <;> (try exact h)
  case ptr b o => have hm : b ≠ L := by simpa [C.men] using hm
                  exact ⟨by omega, h.2⟩
  case pti b o ix sz c => have hm : b ≠ L := by simpa [C.men] using hm
                          exact ⟨by omega, h.2⟩
  case slc b o l => have hm : b ≠ L := by simpa [C.men] using hm
                    exact ⟨by omega, h.2⟩
  case slr b z o l => have hm : b ≠ L := by simpa [C.men] using hm
                      exact ⟨by omega, h.2⟩
  case sln b z l => have hm : b ≠ L := by simpa [C.men] using hm
                    exact ⟨by omega, h.2⟩
  case pta b z i o r => have hm : b ≠ L := by simpa [C.men] using hm
                        exact ⟨by omega, h.2⟩
  case sle b z l => have hm : b ≠ L := by simpa [C.men] using hm
                    exact ⟨by omega, h.2⟩
  case clo f caps =>
    refine ⟨fun q hq => ?_, h.2⟩
    have h1 := h.1 q hq
    have : q.1 ≠ L := by
      simp only [C.men, List.any_eq_false] at hm
      simpa using hm q hq
    omega
theorem Br.drop [Fs] {E : Env} {ρ : Nat → Rb} {L : Nat} {z : Rb} {b : Bk} {o : Option Obj} (hm : b.men L = false) (h : Br E ρ (L + 1) z b o) : Br E ρ L z b o := by
  cases b with
  | dead => trivial
  | arr ty k cols => exact h
  | cells ty xs =>
    obtain ⟨cs, h1, hz, h2, h3⟩ := h
    refine ⟨cs, h1, hz, h2, fun i x hx => ?_⟩
    obtain ⟨v, h4, h5⟩ := h3 i x hx
    refine ⟨v, h4, h5.drop ?_⟩
    simp only [Bk.men, List.any_eq_false] at hm
    simpa using hm x (List.mem_of_getElem? hx)
theorem Br.upd [Fs] {E : Env} {ρ : Nat → Rb} {n p : Nat} {k z : Rb} {b : Bk} {o : Option Obj} (hm : b.men p = false) (h : Br E ρ n z b o) : Br E (Go.Sy.upd ρ p k) n z b o := by
  cases b with
  | dead => trivial
  | arr ty k cols => exact h
  | cells ty xs => obtain ⟨cs, h1, hz, h2⟩ := h; exact ⟨cs, h1, hz, F2p.upd hm h2⟩
/-- The last block moves to a place that nothing names. -/
theorem MemR.reloc [Fs] {m : List Bk} {b : Bk} {p : Nat} (h : MemR X ρ (m ++ [b]) w) (hp : m[p]? = some .dead) (hn : X.n0 ≤ p) (hm1 : m.any (·.men p) = false) (hm2 : m.any (·.men m.length) = false) (hb1 : b.men p = false) (hb2 : b.men m.length = false) :
    MemR X (upd ρ p (ρ m.length)) (m.set p b) w := by
  have pl : p < m.length := (List.getElem?_eq_some_iff.1 hp).1
  have lb : (m ++ [b])[m.length]? = some b := by simp
  have old : ∀ (j : Nat) (c : Bk), m[j]? = some c → (m ++ [b])[j]? = some c := fun j c hj => by
    rw [List.getElem?_append_left (List.getElem?_eq_some_iff.1 hj).1]; exact hj
  have split : ∀ (j : Nat) (c : Bk), (m.set p b)[j]? = some c → (j = p ∧ c = b) ∨ (j ≠ p ∧ m[j]? = some c) := by
    intro j c hj
    by_cases hij : p = j
    · subst hij
      simp [pl] at hj
      exact .inl ⟨rfl, hj.symm⟩
    · rw [List.getElem?_set_ne hij] at hj
      exact .inr ⟨fun e => hij e.symm, hj⟩
  have hlen : (m ++ [b]).length = m.length + 1 := by simp
  refine ⟨fun i c hi => ?_, fun i j bi bj hi hj hbi hbj heq => ?_, by rw [List.length_set]; omega, fun i hi => ?_, fun i c hn' hi hr hc => ?_, h.fr⟩
  · rw [List.length_set]
    rcases split i c hi with ⟨rfl, rfl⟩ | ⟨hne, hi'⟩
    · rw [upd_same]
      have := h.mem _ _ lb
      rw [hlen] at this
      exact Br.upd hb1 (Br.drop hb2 this)
    · rw [upd_ne ρ _ hne]
      have := h.mem _ _ (old i c hi')
      rw [hlen] at this
      rw [List.any_eq_false] at hm1 hm2
      exact Br.upd (by simpa using hm1 c (List.mem_of_getElem? hi')) (Br.drop (by simpa using hm2 c (List.mem_of_getElem? hi')) this)
  · rcases split i bi hi with ⟨rfl, rfl⟩ | ⟨hne, hi'⟩ <;> rcases split j bj hj with ⟨rfl, rfl⟩ | ⟨hne', hj'⟩
    · rfl
    · rw [upd_ne ρ _ hne', upd_same] at heq
      have := h.inj _ _ _ _ lb (old j bj hj') hbi hbj heq
      have := (List.getElem?_eq_some_iff.1 hj').1
      omega
    · rw [upd_ne ρ _ hne, upd_same] at heq
      have := h.inj _ _ _ _ (old i bi hi') lb hbi hbj heq
      have := (List.getElem?_eq_some_iff.1 hi').1
      omega
    · rw [upd_ne ρ _ hne, upd_ne ρ _ hne'] at heq
      exact h.inj _ _ _ _ (old i bi hi') (old j bj hj') hbi hbj heq
  · rw [upd_ne ρ _ (by omega)]; exact h.old i hi
  · rcases split i c hi with ⟨rfl, rfl⟩ | ⟨hne, hi'⟩
    · rw [upd_same]
      exact h.new _ _ (by omega) lb hr hc
    · rw [upd_ne ρ _ hne]; exact h.new _ _ hn' (old i c hi') hr hc
def mvC (top p : Nat) : L → Option L
  | .a (.c (.sle q z k)) => bif Nat.beq q top then some (.a (.c (.sle p z k))) else none
  | .a (.c (.ptr q o)) => bif Nat.beq q top then some (.a (.c (.ptr p o))) else none
  | _ => none
def isNew (o : Op) : Bool := match o with
  | .buildSlice _ _ _ => true
  | .box _ _ => true
  | .makeSlice _ _ _ => true
  | .call c => match c.callee with
    | .builtin .append => true
    | _ => false
  | _ => false
/-- An operation that makes a new block, under a number that was kept for it. -/
def evNewAt (P : Program) (st : St) (p : Nat) (o : Oper) : Option OpR :=
  bif isNew o.op then match evP P st o with
    | some ⟨l, m, []⟩ => match m.getLast?, mvC st.m.length p l with
      | some b, some l' => match m.dropLast[p]? with
        | some .dead => bif Nat.beq m.length (st.m.length + 1) && !st.s.any (·.men p) && !m.any (·.men p) && !m.any (·.men st.m.length) then
            some ⟨l', m.dropLast.set p b, []⟩ else none
        | _ => none
      | _, _ => none
    | _ => none
  else none
/-- One operation, its guard too; a new variable goes under the number 'base + i'. -/
def evStep0 (P : Program) (run : Rn) (ops : Array Oper) (base : Nat) (i : Nat) (st : St) : Option (List Out) :=
  match ops[i]? with
  | none => some [.good .norm st]
  | some o => match evGuard st ops o with
    | none => none
    | some .yes => match o.op with
      | .alloc e => match evAllocAt P st (base + i) e with
        | some r => some [.good .norm (putS ⟨st.s, r.m, st.pc, st.k⟩ o.dst r.l)]
        | none => evO P run st o
      | _ => match evNewAt P st (base + i) o with
        | some r => some [.good .norm (putS ⟨st.s, r.m, st.pc, st.k⟩ o.dst r.l)]
        | none => evO P run st o
    | some .no => some [.good .norm (putS st o.dst (.tup []))]
    | some (.may t) => match evS P (withPc st t true) o with
      | some ⟨.a x, _, []⟩ => some [.good .norm (putS st o.dst (.gd t x))]
      | _ => fcPc (addP t true st.pc) fun pc => match evO P run ⟨st.s, st.m, pc, st.k⟩ o with
        | some outs => fcPc (addP t false st.pc) fun pc => some (outs ++ [.good .norm (putS ⟨st.s, st.m, pc, st.k⟩ o.dst (.tup []))])
        | none => none
def evStep (P : Program) (run : Rn) (ops : Array Oper) (base : Nat) (i : Nat) (st : St) : Option (List Out) := match evStep0 P run ops base i st with
  | some outs => match ops[i]? with
    | some o => fcOs P st o (some (base + i)) false outs some
    | none => some outs
  | none => none
theorem evStep_eq [Fs] (P : Program) (run : Rn) (ops : Array Oper) (base : Nat) (i : Nat) (st : St) : evStep P run ops base i st = evStep0 P run ops base i st := by
  unfold evStep; split <;> rename_i h
  · split <;> simp only [fcOs_eq, h]
  · simp only [h]
theorem mvC_ok [Fs] {E : Env} {ρ : Nat → Rb} {top p : Nat} {l l' : L} {v : Value} (hp : p < top) (hl : mvC top p l = some l') (h : Lr E ρ (top + 1) l v) : Lr E (upd ρ p (ρ top)) top l' v := by
  unfold mvC at hl
  split at hl
  · rename_i q _ _; cases hq : Nat.beq q top <;> simp only [hq, cond_true, cond_false] at hl
    · cases hl
    · cases hl
      have hq := Nat.eq_of_beq_eq_true hq
      subst hq
      simp only [Lr, Ar, Cr, upd_same] at h ⊢
      exact ⟨hp, h.2⟩
  · rename_i q _; cases hq : Nat.beq q top <;> simp only [hq, cond_true, cond_false] at hl
    · cases hl
    · cases hl
      have hq := Nat.eq_of_beq_eq_true hq
      subst hq
      simp only [Lr, Ar, Cr, upd_same] at h ⊢
      exact ⟨hp, h.2⟩
  · cases hl
theorem evNewAt_ok [Fs] (h : Rel X ρ st a w) {o : Oper} {p : Nat} {r : OpR} (hr : evNewAt P st p o = some r) (hn : X.n0 ≤ p) :
    ∃ v w' ρ', ((execOp a.eval o).run P w = .ok (.value v) w' ∨ ((execOp a.eval o).run P w = .ok .skip w' ∧ v = undef)) ∧ Lr X.E ρ' r.m.length r.l v ∧ Rel X ρ' ⟨st.s, r.m, st.pc, st.k⟩ a w' ∧ (∀ i, i < st.m.length → i ≠ p → ρ' i = ρ i) ∧ r.m.length = st.m.length := by
  unfold evNewAt at hr
  cases hi : isNew o.op <;> simp only [hi, cond_true, cond_false] at hr
  · cases hr
  · split at hr
    · rename_i l m hq
      split at hr
      · rename_i b l' hb hl
        split at hr
        · rename_i hdead
          cases hc : Nat.beq m.length (st.m.length + 1) && !st.s.any (·.men p) && !m.any (·.men p) && !m.any (·.men st.m.length) <;> simp only [hc, cond_true, cond_false] at hr
          · cases hr
          · cases hr
            simp only [Bool.and_eq_true, Bool.not_eq_true'] at hc
            obtain ⟨⟨⟨hc1, hc2⟩, hc3⟩, hc4⟩ := hc
            have hc1 := Nat.eq_of_beq_eq_true hc1
            have hne : m ≠ [] := by intro e; rw [e] at hc1; simp at hc1
            have hm : m = m.dropLast ++ [b] := by
              have h1 := List.dropLast_concat_getLast hne
              rw [List.getLast?_eq_some_getLast hne] at hb
              cases hb
              exact h1.symm
            have hlen : m.dropLast.length = st.m.length := by rw [List.length_dropLast, hc1]; rfl
            obtain ⟨v, w', ρ', hrun', h1, h2, h3, h4⟩ := evP_ok h hq (fun t ht => by simp at ht)
            simp only at h1 h2
            have hp : p < st.m.length := by have := (List.getElem?_eq_some_iff.1 hdead).1; omega
            rw [hm, List.any_append, Bool.or_eq_false_iff] at hc3 hc4
            rw [hm] at h2
            rw [hc1] at h1
            have hmr := h2.reloc hdead hn hc3.1 (by rw [hlen]; exact hc4.1) (by simpa using hc3.2) (by rw [hlen]; simpa using hc4.2)
            rw [hlen] at hmr
            refine ⟨v, w', upd ρ' p (ρ' st.m.length), hrun', ?_, ⟨⟨fun j l hj => ?_, h.pc, h.ds, h.F⟩, h.dfr, hmr⟩, fun i hi hne => ?_, ?_⟩
            · simp only [List.length_set, hlen]
              exact mvC_ok hp hl h1
            · obtain ⟨v, h5, h6⟩ := h.slots j l hj
              refine ⟨v, h5, ?_⟩
              simp only [List.length_set, hlen]
              exact Lr.upd (Tr.any_get hc2 hj) (Lr.mono h3 (Nat.le_refl _) h6)
            · rw [upd_ne _ _ hne]; exact h3 i hi
            · simp only [List.length_set, hlen]
        · cases hr
      · cases hr
    · cases hr
theorem evStep_ok [Fs] {run : Rn} (hrun : RnOk P run) {ops : Array Oper} {base i : Nat} {outs : List Out} (he : evStep P run ops base i st = some outs) (h : Rel X ρ st a w) {n : Nat} (hb : n ≤ base) (h0 : X.n0 ≤ base) (hn : n ≤ st.m.length)
    {K : Act → World → Prop} {Q : Exit → Act → World → Prop} (hs : ∀ x ∈ outs, Sat X ρ n st.k.nv (Exit.then K Q) x) : wpOp P ops Q i K a w := by
  have hs' : ∀ x ∈ outs, Sat X ρ st.m.length st.k.nv (Exit.then K Q) x := fun x hx => by
    have := hs x hx
    cases x with
    | bad pc ds => exact this
    | good e st' =>
      cases e with
      | pan c => exact fun E' ρ' a' w' x L g hx => this E' ρ' a' w' x ⟨L.E, fun i hi => L.ρ i (Nat.lt_of_lt_of_le hi hn), Nat.le_trans hn L.n, L.v⟩ g hx
      | _ => exact fun E' ρ' a' w' L g => this E' ρ' a' w' ⟨L.E, fun i hi => L.ρ i (Nat.lt_of_lt_of_le hi hn), Nat.le_trans hn L.n, L.v⟩ g
  unfold wpOp
  rw [evStep_eq] at he
  unfold evStep0 at he
  simp only [fcPc_eq] at he
  split at he
  · rename_i hi
    simp only [hi]
    cases he
    exact hs' _ List.mem_cons_self X.E ρ a w (Later.refl _ _ _) h
  · rename_i o hi
    simp only [hi]
    split at he
    · cases he
    · rename_i hg
      have hw : Region.wanted o (yielded ops a.tmps) = true := evGuard_ok h hg
      rw [if_pos hw]
      split at he
      · rename_i e ho
        split at he
        · rename_i r hr
          cases he
          unfold evAllocAt at hr
          split at hr
          · rename_i hdead
            cases hm : st.s.any (·.men (base + i)) || st.m.any (·.men (base + i)) <;> simp only [hm, cond_true, cond_false] at hr
            · rw [Bool.or_eq_false_iff] at hm
              rw [Option.map_eq_some_iff] at hr
              obtain ⟨xs, hz, rfl⟩ := hr
              obtain ⟨z, h1, h2⟩ := zeroOf_ok hz
              left
              unfold Oper.wp
              have hx : (execOp a.eval o).run P w = .ok (.value (.pointer (some ⟨w.heap.size, 0, none⟩))) (w.alloc (.cells z.cells e)) := by
                simp [execOp, ho, Instr.alloc, h1, newVar, newRow]
              rw [hx]
              have hlen : base + i < st.m.length := (List.getElem?_eq_some_iff.1 hdead).1
              refine hs _ List.mem_cons_self X.E (upd ρ (base + i) ⟨w.heap.size, z.cells.size, 0⟩) _ _ ⟨Agree.refl _ _, fun j hj => upd_ne _ _ (by omega), by rw [putS_m]; simpa using hn, by rw [putS_k]; exact Nat.le_refl _⟩ (Rel.put (st := ⟨st.s, st.m.set (base + i) (.cells (Nat.mul 2 e) xs), st.pc, st.k⟩) ⟨⟨?_, h.pc, h.ds, h.F⟩, h.dfr, h.mr.allocAt hdead (by omega) hm.2 fun ρ n o _ ho => ⟨_, by rw [tyw]; exact ho, rfl, (h2 X.E ρ _).toP⟩⟩ o.dst ?_)
              · refine fun j l hl => ?_
                obtain ⟨v, h3, h4⟩ := h.slots j l hl
                refine ⟨v, h3, ?_⟩
                rw [List.length_set]
                refine h4.upd ?_
                exact Tr.any_get hm.1 hl
              · simp only [Lr, Ar, Cr, upd_same]
                exact ⟨by simpa using hlen, trivial⟩
            · cases hr
          · cases hr
        · exact .inl (evO_ok hrun h he hs')
      · split at he
        · rename_i r hr
          cases he
          left
          obtain ⟨v, w', ρ', hrun', h1, h2, h3, hl⟩ := evNewAt_ok h hr (p := base + i) (by omega)
          have hfin := hs _ List.mem_cons_self X.E ρ' _ w' ⟨Agree.refl _ _, fun j hj => h3 j (by omega) (by omega), by rw [putS_m]; simp only [hl]; exact hn, by rw [putS_k]; exact Nat.le_refl _⟩ (Rel.put (st := ⟨st.s, r.m, st.pc, st.k⟩) h2 o.dst h1)
          unfold Oper.wp
          rcases hrun' with hrun' | ⟨hrun', rfl⟩
          · rw [hrun']; exact hfin
          · rw [hrun']; exact hfin
        · exact .inl (evO_ok hrun h he hs')
    · rename_i hg
      have hw : Region.wanted o (yielded ops a.tmps) = false := evGuard_ok h hg
      rw [if_neg (by simp [hw])]
      cases he
      exact hs' _ List.mem_cons_self X.E ρ _ w ⟨Agree.refl _ _, fun _ _ => rfl, by rw [putS_m]; exact Nat.le_refl _, by rw [putS_k]; exact Nat.le_refl _⟩ (h.put o.dst (l := .tup []) (v := undef) undef_ok)
    · rename_i t hg
      have hw : t.tr X.E = Region.wanted o (yielded ops a.tmps) := evGuard_ok h hg
      split at he
      · rename_i x m hq
        cases he
        by_cases ht : t.tr X.E = true
        · rw [if_pos (by rw [← hw]; exact ht)]
          have hrel := h.withPc ht
          obtain ⟨hok, hmm⟩ := evS_ok hrel hq
          obtain ⟨v, w', ρ', hrun', hl, hmr, hρ, hn'⟩ := hok (fun t ht => by simp at ht)
          simp only at hmm hl hmr hn'
          subst hmm
          left
          have hput : Rel X ρ' (putS st o.dst (.gd t x)) (a.put o.dst v) w' := Rel.put ⟨⟨h.slots.mono fun _ _ => Lr.mono hρ (Nat.le_refl _), h.pc, h.ds, h.F⟩, h.dfr, hmr⟩ o.dst ⟨fun _ => hl, fun hc => by rw [ht] at hc; cases hc⟩
          have := hs' _ List.mem_cons_self X.E ρ' _ w' ⟨Agree.refl _ _, hρ, by rw [putS_m]; exact Nat.le_refl _, by rw [putS_k]; exact Nat.le_refl _⟩ hput
          unfold Oper.wp
          rcases hrun' with hrun' | ⟨hrun', rfl⟩
          · rw [hrun']; exact this
          · rw [hrun']; exact this
        · rw [if_neg (by rw [← hw]; exact ht)]
          exact hs' _ List.mem_cons_self X.E ρ _ w ⟨Agree.refl _ _, fun _ _ => rfl, by rw [putS_m]; exact Nat.le_refl _, by rw [putS_k]; exact Nat.le_refl _⟩ (h.put o.dst (l := .gd t x) (v := undef) ⟨fun hc => absurd hc ht, fun _ => rfl⟩)
      · split at he
        · rename_i outs1 ho
          cases he
          by_cases ht : t.tr X.E = true
          · rw [if_pos (by rw [← hw]; exact ht)]
            exact .inl (evO_ok hrun (h.withPc ht) ho fun x hx => hs' x (List.mem_append_left _ hx))
          · rw [if_neg (by rw [← hw]; exact ht)]
            exact hs' _ (List.mem_append_right _ List.mem_cons_self) X.E ρ _ w ⟨Agree.refl _ _, fun _ _ => rfl, by rw [putS_m]; exact Nat.le_refl _, by rw [putS_k]; exact Nat.le_refl _⟩ ((h.withPc (by simpa using ht)).put o.dst (l := .tup []) (v := undef) undef_ok)
        · cases he

/-- What an operation that only reckons puts into its slot, its guard too. -/
def evTake (P : Program) (st : St) (ops : Array Oper) (o : Oper) : Option L :=
  match evGuard st ops o with
  | some .yes => match evR P st o with
    | some ⟨l, _, []⟩ => some l
    | _ => none
  | some .no => some (.tup [])
  | some (.may t) => match evR P (withPc st t true) o with
    | some ⟨.a x, _, []⟩ => some (.gd t x)
    | _ => none
  | none => none
theorem evTake_ok [Fs] (h : Rel X ρ st a w) {ops : Array Oper} {l : L} (hl : evTake P st ops o = some l) : ∃ v, Yields P ops o v a ∧ Lr X.E ρ st.m.length l v := by
  unfold evTake at hl
  split at hl
  · rename_i hg
    have hw : Region.wanted o (yielded ops a.tmps) = true := evGuard_ok h hg
    split at hl
    · rename_i l' m hr
      cases hl
      obtain ⟨v, h1, h2⟩ := (evR_ok h.toSRel hr).2 (fun t ht => by simp at ht)
      exact ⟨v, .inl ⟨hw, h1⟩, h2⟩
    · cases hl
  · rename_i hg
    have hw : Region.wanted o (yielded ops a.tmps) = false := evGuard_ok h hg
    cases hl
    exact ⟨undef, .inr ⟨hw, rfl⟩, undef_ok⟩
  · rename_i t hg
    have hw : t.tr X.E = Region.wanted o (yielded ops a.tmps) := evGuard_ok h hg
    split at hl
    · rename_i x m hr
      cases hl
      cases ht : t.tr X.E
      · exact ⟨undef, .inr ⟨by rw [← hw, ht], rfl⟩, ⟨fun hc => absurd (ht.symm.trans hc) (by decide), fun _ => rfl⟩⟩
      · obtain ⟨v, h1, h2⟩ := (evR_ok (h.toSRel.withPc ht) hr).2 (fun t ht => by simp at ht)
        exact ⟨v, .inl ⟨by rw [← hw, ht], h1⟩, ⟨fun _ => h2, fun hc => absurd (ht.symm.trans hc) (by decide)⟩⟩
    · cases hl
  · cases hl

/-! a region that only reads: the order of the text stands for all -/
def evLex (P : Program) (run : Rn) (ops : Array Oper) : List Oper → St → Option (List Out)
  | [], st => some [.good .norm st]
  | o :: rest, st => match evGuard st ops o with
    | none => none
    | some .yes => match evS P st o with
      | some r => match r.rq with
        | [] => putF st o.dst r.l (evLex P run ops rest)
        | q :: qs => let n := needs st.k.ds st.pc (q :: qs)
          match n.2 with
          | some pc => fcPc pc fun pc => putF ⟨st.s, st.m, pc, st.k⟩ o.dst r.l fun st => (evLex P run ops rest st).map (n.1 ++ ·)
          | none => some n.1
      | none => match o.op with
        | .call c => match evSpR run st c with
          | some r => fcKn st.k r.k fun k => fcPc r.pc fun pc => putF ⟨st.s, st.m, pc, k⟩ o.dst r.l (evLex P run ops rest)
          | none => none
        | _ => none
    | some .no => putF st o.dst (.tup []) (evLex P run ops rest)
    | some (.may t) => match evS P (withPc st t true) o with
      | some ⟨.a x, _, []⟩ => putF st o.dst (.gd t x) (evLex P run ops rest)
      | some _ => none
      | none => match o.op with
        | .call c => match evSpR run (withPc st t true) c with
          | some ⟨.a x, _, k'⟩ => fcKn st.k k' fun k' => bif st.bel && t.bel st.k.nv && ordered st.k.nv (newOf k'.ds st.k.ds) && listB Df.beq (oldOf k'.ds st.k.ds) st.k.ds && Nat.ble st.k.nv k'.nv then putF ⟨st.s, st.m, st.pc, k'⟩ o.dst (.gd t x) (evLex P run ops rest) else none
          | _ => none
        | _ => none
theorem evLex_eq [Fs] {run : Rn} {ops : Array Oper} {o : Oper} {rest : List Oper} {st : St} : evLex P run ops (o :: rest) st = match evGuard st ops o with
    | none => none
    | some .yes => match evS P st o with
      | some r => let n := needs st.k.ds st.pc r.rq
        match n.2 with
        | some pc => (evLex P run ops rest (putS ⟨st.s, st.m, pc, st.k⟩ o.dst r.l)).map (n.1 ++ ·)
        | none => some n.1
      | none => match o.op with
        | .call c => match evSpR run st c with
          | some r => evLex P run ops rest (putP st o.dst r)
          | none => none
        | _ => none
    | some .no => evLex P run ops rest (putS st o.dst (.tup []))
    | some (.may t) => match evS P (withPc st t true) o with
      | some ⟨.a x, _, []⟩ => evLex P run ops rest (putS st o.dst (.gd t x))
      | some _ => none
      | none => match o.op with
        | .call c => match evSpR run (withPc st t true) c with
          | some ⟨.a x, _, k'⟩ => bif st.bel && t.bel st.k.nv && ordered st.k.nv (newOf k'.ds st.k.ds) && listB Df.beq (oldOf k'.ds st.k.ds) st.k.ds && Nat.ble st.k.nv k'.nv then evLex P run ops rest (putS ⟨st.s, st.m, st.pc, k'⟩ o.dst (.gd t x)) else none
          | _ => none
        | _ => none := by
  simp only [evLex, putF_eq, fcPc_eq, fcKn_eq]
  split
  · rfl
  · split
    · rename_i r _
      cases r.rq with
      | nil =>
        simp only [needs]
        cases evLex P run ops rest (putS st o.dst r.l) <;> rfl
      | cons q qs => rfl
    · rfl
  · rfl
  · rfl
/-- Worlds behind a world: the old blocks are as they were. -/
theorem below_keeps [Fs] {w w' : World} (h : RowKit.Below w.heap.size w w') : Keeps w w' := fun k hk => h.block k hk
theorem evLex_ok [Fs] {run : Rn} (hrun : RnOk P run) {ops : Array Oper} {Q : Exit → Act → World → Prop} : ∀ {l : List Oper} {st : St} {outs : List Out}, evLex P run ops l st = some outs →
    ∀ {X : Cx} {ρ : Nat → Rb} {a : Act} {w : World}, Rel X ρ st a w → (∀ x ∈ outs, Sat X ρ st.m.length st.k.nv Q x) → wpQuiet P ops (RowKit.Below w.heap.size w) (fun a' => ∀ w', RowKit.Below w.heap.size w w' → Q .normal a' w') l a := by
  intro l
  induction l with
  | nil =>
    intro st outs he X ρ a w h hs
    cases he
    intro w' hb
    exact hs _ List.mem_cons_self X.E ρ a w' (Later.refl _ _ _) ⟨h.toSRel, h.dfr, h.mr.below hb⟩
  | cons o rest ih =>
    intro st outs he X ρ a w h hs
    have next : ∀ {E' : Env} {st1 : St} {v : Value} {outs1 : List Out}, Later X.E ρ st.m.length st.k.nv E' ρ st1 → Rel (X.at E') ρ st1 (a.put o.dst v) w → evLex P run ops rest st1 = some outs1 → (∀ x ∈ outs1, Sat X ρ st.m.length st.k.nv Q x) →
        wpQuiet P ops (RowKit.Below w.heap.size w) (fun a' => ∀ w', RowKit.Below w.heap.size w w' → Q .normal a' w') rest (a.put o.dst v) :=
      fun L hr he hs => ih he hr fun x hx => (hs x hx).from L
    rw [evLex_eq] at he
    dsimp only at he
    simp only [wpQuiet]
    split at he
    · cases he
    · rename_i hg
      have hw : Region.wanted o (yielded ops a.tmps) = true := evGuard_ok h hg
      rw [if_pos hw]
      split at he
      · rename_i r hr
        obtain ⟨hm, hok⟩ := evS_L h hr
        have hsn : ∀ x ∈ (needs st.k.ds st.pc r.rq).1, Sat X ρ st.m.length st.k.nv Q x := by
          intro x hx
          split at he
          · rw [Option.map_eq_some_iff] at he
            obtain ⟨outs1, _, rfl⟩ := he
            exact hs x (List.mem_append_left _ hx)
          · cases he; exact hs x hx
        obtain ⟨pc', h1, h2, h3⟩ := needs_ok h.ds h.pc hsn
        simp only [h1, Option.map_eq_some_iff] at he
        obtain ⟨outs1, he1, rfl⟩ := he
        obtain ⟨v, hv, hl⟩ := hok h3
        refine ⟨v, fun w' hb => ?_, ?_⟩
        · unfold Oper.quietAt
          rw [hv w' (below_keeps hb)]
          exact ⟨rfl, rfl⟩
        · exact next (E' := X.E) ⟨Agree.refl _ _, fun _ _ => rfl, by rw [putS_m]; exact Nat.le_refl _, by rw [putS_k]; exact Nat.le_refl _⟩ (Rel.put (st := ⟨st.s, st.m, pc', st.k⟩) ⟨⟨h.slots, h2, h.ds, h.F⟩, h.dfr, h.mr⟩ o.dst hl) he1 fun x hx => hs x (List.mem_append_right _ hx)
      · split at he
        · rename_i c ho
          split at he
          · rename_i r hr
            obtain ⟨v, E', g, args, hx, L, hrel, hcall⟩ := evSpR_ok hrun.2.2 h ho hr o.dst
            refine ⟨v, fun w' hb => ?_, next L hrel he hs⟩
            unfold Oper.quietAt
            rw [hx w']
            exact ⟨rfl, (hcall w').mono fun e w'' ⟨he, hb'⟩ => ⟨he, hb.trans (hb'.mono hb.size)⟩⟩
          · cases he
        · cases he
    · rename_i hg
      have hw : Region.wanted o (yielded ops a.tmps) = false := evGuard_ok h hg
      rw [if_neg (by simp [hw])]
      exact next (E' := X.E) ⟨Agree.refl _ _, fun _ _ => rfl, by rw [putS_m]; exact Nat.le_refl _, by rw [putS_k]; exact Nat.le_refl _⟩ (h.put o.dst (l := .tup []) (v := undef) undef_ok) he hs
    · rename_i t hg
      have hw : t.tr X.E = Region.wanted o (yielded ops a.tmps) := evGuard_ok h hg
      split at he
      · rename_i x m hq
        by_cases ht : t.tr X.E = true
        · rw [if_pos (by rw [← hw]; exact ht)]
          obtain ⟨hm, hok⟩ := evS_L (h.withPc ht) hq
          obtain ⟨v, hv, hl⟩ := hok (fun t ht => by simp at ht)
          refine ⟨v, fun w' hb => ?_, ?_⟩
          · unfold Oper.quietAt
            rw [hv w' (below_keeps hb)]
            exact ⟨rfl, rfl⟩
          · exact next (E' := X.E) ⟨Agree.refl _ _, fun _ _ => rfl, by rw [putS_m]; exact Nat.le_refl _, by rw [putS_k]; exact Nat.le_refl _⟩ (h.put o.dst (l := .gd t x) ⟨fun _ => hl, fun hc => by rw [ht] at hc; cases hc⟩) he hs
        · rw [if_neg (by rw [← hw]; exact ht)]
          exact next (E' := X.E) ⟨Agree.refl _ _, fun _ _ => rfl, by rw [putS_m]; exact Nat.le_refl _, by rw [putS_k]; exact Nat.le_refl _⟩ (h.put o.dst (l := .gd t x) (v := undef) ⟨fun hc => absurd hc ht, fun _ => rfl⟩) he hs
      · cases he
      · split at he
        · rename_i c ho
          split at he
          · rename_i x pc' k' hr
            cases hb : st.bel && t.bel st.k.nv && ordered st.k.nv (newOf k'.ds st.k.ds) && listB Df.beq (oldOf k'.ds st.k.ds) st.k.ds && Nat.ble st.k.nv k'.nv <;> simp only [hb, cond_true, cond_false] at he
            · cases he
            simp only [Bool.and_eq_true, Nat.ble_eq] at hb
            obtain ⟨⟨⟨⟨b1, b2⟩, b3⟩, b4⟩, b5⟩ := hb
            have b4 := listB_eq (fun _ _ => Df.beq_eq) b4
            by_cases ht : t.tr X.E = true
            · rw [if_pos (by rw [← hw]; exact ht)]
              obtain ⟨v, E', g, args, hx, hE, hk, hl, hp, hd, hbel, hcall⟩ := evSpR_raw hrun.2.2 (h.withPc ht) ho hr
              have base := h.agree b1 hE
              refine ⟨v, fun w' hb => ?_, next (E' := E') ⟨hE, fun _ _ => rfl, by rw [putS_m]; exact Nat.le_refl _, by rw [putS_k]; exact b5⟩ (Rel.put (st := ⟨st.s, st.m, st.pc, k'⟩) ⟨⟨base.slots, base.pc, hd, base.F⟩, base.dfr, base.mr⟩ o.dst (l := .gd t x) ⟨fun _ => hl, fun hc => by rw [T.bel_tr hE b2, ht] at hc; cases hc⟩) he hs⟩
              unfold Oper.quietAt
              rw [hx w']
              exact ⟨rfl, (hcall w').mono fun e w'' ⟨he, hb'⟩ => ⟨he, hb.trans (hb'.mono hb.size)⟩⟩
            · rw [if_neg (by rw [← hw]; exact ht)]
              obtain ⟨hE, x2, x3⟩ := extL_ok (E := X.E) b3
              have base := h.agree b1 hE
              refine next (E' := extL X.E (newOf k'.ds st.k.ds)) ⟨hE, fun _ _ => rfl, by rw [putS_m]; exact Nat.le_refl _, by rw [putS_k]; exact b5⟩ (Rel.put (st := ⟨st.s, st.m, st.pc, k'⟩) (v := undef) ⟨⟨base.slots, base.pc, fun d hd => ?_, base.F⟩, base.dfr, base.mr⟩ o.dst (l := .gd t x) ⟨fun hc => by rw [T.bel_tr hE b2] at hc; exact absurd hc ht, fun _ => rfl⟩) he hs
              rw [← new_old k'.ds st.k.ds, b4] at hd
              rcases List.mem_append.1 hd with hd | hd
              · exact x2 d hd
              · exact base.ds d hd
          · cases he
        · cases he
end alloc

/-! an order that is open -/
structure Nd where
  ls : Nat
  st : St
def Nd.beq (a b : Nd) : Bool := a.ls == b.ls && a.st.beq b.st
theorem Nd.beq_eq [Fs] {a b : Nd} (h : a.beq b = true) : a = b := by
  obtain ⟨l, s⟩ := a
  obtain ⟨l', s'⟩ := b
  simp only [Nd.beq, Bool.and_eq_true, beq_iff_eq] at h
  rw [St.beq_eq h.2, h.1]
def Nd.fc {β : Type} (x : Nd) (k : Nd → β) : β := match x with
  | ⟨ls, st⟩ => fcN ls fun ls => st.fc fun st => k ⟨ls, st⟩
theorem Nd.fc_eq [Fs] {β : Type} (x : Nd) (k : Nd → β) : x.fc k = k x := by cases x; simp only [Nd.fc, fcN_eq, St.fc_eq]
def nub : List Nd → List Nd
  | [] => []
  | x :: r => let r' := nub r; bif r'.any (x.beq ·) then r' else x :: r'
theorem mem_nub [Fs] {x : Nd} : ∀ {l : List Nd}, x ∈ l → x ∈ nub l := by
  intro l
  induction l with
  | nil => intro h; cases h
  | cons y r ih =>
    intro h
    simp only [nub]
    cases hc : (nub r).any (y.beq ·) <;> simp only [cond_true, cond_false]
    · rcases List.mem_cons.1 h with rfl | h
      · exact List.mem_cons_self
      · exact List.mem_cons_of_mem _ (ih h)
    · rcases List.mem_cons.1 h with rfl | h
      · rw [List.any_eq_true] at hc
        obtain ⟨z, h1, h2⟩ := hc
        rw [Nd.beq_eq h2]; exact h1
      · exact ih h
/-- What came up under a guard that is known by now. -/
def L.ung (pc : Pc) : L → L
  | .gd c x => match dec pc c with
    | some true => .a x
    | some false => .a .dead
    | none => .gd c x
  | x => x
theorem L.ung_ok [Fs] {E : Env} {ρ : Nat → Rb} {n : Nat} {pc : Pc} (hp : pcOk E pc) {x : L} {v : Value} (h : Lr E ρ n x v) : Lr E ρ n (x.ung pc) v := by
  unfold L.ung
  split
  · split
    · rename_i hd; exact h.1 (dec_ok hp hd)
    · trivial
    · exact h
  · exact h
def Tr.ung (pc : Pc) : Tr → Tr
  | .nil => .nil
  | .nd x l r => .nd (x.ung pc) (l.ung pc) (r.ung pc)
theorem Tr.ung_get [Fs] {pc : Pc} : ∀ {t : Tr} {i : Nat} {y : L}, (t.ung pc).get i = some y → ∃ x, t.get i = some x ∧ y = x.ung pc := by
  intro t
  induction t with
  | nil => intro i y h; cases h
  | nd x l r ihl ihr =>
    intro i y h
    simp only [Tr.ung, Tr.get] at h ⊢
    cases h0 : Nat.beq i 0 <;> simp only [h0, cond_true, cond_false] at h ⊢
    · cases h1 : Nat.beq (Nat.mod i 2) 1 <;> simp only [h1, cond_true, cond_false] at h ⊢
      · exact ihr h
      · exact ihl h
    · cases h; exact ⟨x, rfl, rfl⟩
def L.isGd : L → Bool
  | .gd _ _ => true
  | _ => false
def Nd.ung (x : Nd) : Nd := bif x.st.s.any L.isGd then (x.st.s.ung x.st.pc).fc fun s => ⟨x.ls, ⟨s, x.st.m, x.st.pc, x.st.k⟩⟩ else x
theorem rel_ung [Fs] {X : Cx} {ρ : Nat → Rb} {st : St} {a : Act} {w : World} (h : Rel X ρ st a w) : Rel X ρ ⟨st.s.ung st.pc, st.m, st.pc, st.k⟩ a w := by
  refine ⟨⟨fun i y hy => ?_, h.pc, h.ds, h.F⟩, h.dfr, h.mr⟩
  obtain ⟨x, h1, rfl⟩ := Tr.ung_get hy
  obtain ⟨v, h2, h3⟩ := h.slots i x h1
  exact ⟨v, h2, L.ung_ok h.pc h3⟩
/-- (where there is more than one) -/
def ungs : List Nd → List Nd
  | [x] => [x]
  | l => l.map Nd.ung
theorem mem_ungs [Fs] {x : Nd} {l : List Nd} (h : x ∈ l) : x ∈ ungs l ∨ x.ung ∈ ungs l := by
  unfold ungs
  split
  · exact .inl h
  · exact .inr (List.mem_map_of_mem h)
/-- The plain ways out are nodes. -/
def sortO (ls : Nat) : List Out → List Nd × List Out
  | [] => ([], [])
  | .good .norm st :: r => let q := sortO ls r; (⟨ls, st⟩ :: q.1, q.2)
  | x :: r => let q := sortO ls r; (q.1, x :: q.2)
theorem sortO_mem [Fs] {ls : Nat} {x : Out} : ∀ {l : List Out}, x ∈ l → (∃ st, x = .good .norm st ∧ (⟨ls, st⟩ : Nd) ∈ (sortO ls l).1) ∨ (x ∈ (sortO ls l).2 ∧ ∀ st, x ≠ .good .norm st) := by
  intro l
  induction l with
  | nil => intro h; cases h
  | cons y r ih =>
    intro h
    unfold sortO
    split
    · rename_i he; cases he
    · rename_i st r' he
      cases he
      rcases List.mem_cons.1 h with rfl | h
      · exact .inl ⟨st, rfl, List.mem_cons_self⟩
      · rcases ih h with ⟨st', h1, h2⟩ | h2
        · exact .inl ⟨st', h1, List.mem_cons_of_mem _ h2⟩
        · exact .inr h2
    · rename_i y' r' hne he
      cases he
      rcases List.mem_cons.1 h with rfl | h
      · exact .inr ⟨List.mem_cons_self, fun st hc => hne st hc⟩
      · rcases ih h with ⟨st', h1, h2⟩ | h2
        · exact .inl ⟨st', h1, h2⟩
        · exact .inr ⟨List.mem_cons_of_mem _ h2.1, h2.2⟩
def takeF (st : St) (dst : Option Tmp) (x : Option L) : Option St := match x with
  | some l => putF st dst l some
  | none => none
theorem takeF_eq [Fs] (st : St) (dst : Option Tmp) (x : Option L) : takeF st dst x = x.map fun l => putS st dst l := by cases x <;> simp only [takeF, putF_eq, Option.map_some, Option.map_none]
def takeOne (P : Program) (ops : Array Oper) (nd : Nd) : List OpJ → Option Nd
  | [] => none
  | y :: rest => match (bif subB y.bad nd.ls then (match ops[y.i]? with | some o => takeF nd.st o.dst (evTake P nd.st ops o) | none => none) else none) with
    | some st' => some ⟨setBit nd.ls y.i, st'⟩
    | none => takeOne P ops nd rest
/-- Who waits for 'i', or for one that does. -/
def wtStep (i wt : Nat) : List OpJ → Nat
  | [] => wt
  | y :: r => let wt := wtStep i wt r; bif bit wt y.i then wt else bif bit y.deps i || !(Nat.beq (Nat.land y.deps wt) 0) then setBit wt y.i else wt
def wtOf (i : Nat) (tb : List OpJ) : Nat → Nat → Nat
  | 0, wt => wt
  | n + 1, wt => let wt' := wtStep i wt tb; bif Nat.beq wt' wt then wt else wtOf i tb n wt'
/-- Whoever is left and doesn't wait for 'i' only reads or makes a block. -/
def calmAll (ops : Array Oper) (tb : List OpJ) (ls i wt : Nat) : List OpJ → Bool
  | [] => true
  | y :: r => (!(bit wt y.i) || !(bit ls y.i) && tb.any (fun z => bit y.deps z.i && (Nat.beq z.i i || bit wt z.i))) && (bit ls y.i || Nat.beq y.i i || bit y.deps i || bit wt y.i || (match ops[y.i]? with | some o => calmOp o.op | none => true)) && calmAll ops tb ls i wt r
def evTakeC (P : Program) (st : St) (ops : Array Oper) (o : Oper) : Option L := match evGuard st ops o with
  | some .yes => match evS P st o with
    | some ⟨l, _, []⟩ => some l
    | _ => none
  | _ => none
def isLoadAt (ops : Array Oper) (i : Nat) : Bool := match ops[i]? with
  | some o => match o.op with
    | .load _ _ => true
    | _ => false
  | none => false
def takeCalm (P : Program) (ops : Array Oper) (tb : List OpJ) (nd : Nd) : List OpJ → Option Nd
  | [] => none
  | y :: rest => match (bif isLoadAt ops y.i then (bif subB y.bad nd.ls && calmAll ops tb nd.ls y.i (wtOf y.i tb ops.size 0) tb then (match ops[y.i]? with | some o => takeF nd.st o.dst (evTakeC P nd.st ops o) | none => none) else none) else none) with
    | some st' => some ⟨setBit nd.ls y.i, st'⟩
    | none => takeCalm P ops tb nd rest
def stepAll (P : Program) (run : Rn) (ops : Array Oper) (base : Nat) (nd : Nd) : List OpJ → Option (List Nd × List Out)
  | [] => some ([], [])
  | y :: rest => match evStep P run ops base y.i nd.st, stepAll P run ops base nd rest with
    | some outs, some r => let q := sortO (setBit nd.ls y.i) outs; some (q.1 ++ r.1, q.2 ++ r.2)
    | _, _ => none
def stepNd (P : Program) (run : Rn) (ops : Array Oper) (tb : List OpJ) (base : Nat) (nd : Nd) : Option (List Nd × List Out) :=
  match readyM nd.ls tb with
  | [] => some ([], [.good .norm nd.st])
  | rs => match takeOne P ops nd rs with
    | some nd' => some ([nd'], [])
    | none => match takeCalm P ops tb nd rs with
      | some nd' => some ([nd'], [])
      | none => stepAll P run ops base nd rs
def stepNds (P : Program) (run : Rn) (ops : Array Oper) (tb : List OpJ) (base : Nat) : List Nd → Option (List Nd × List Out)
  | [] => some ([], [])
  | nd :: rest => match stepNd P run ops tb base nd, stepNds P run ops tb base rest with
    | some a, some b => some (a.1 ++ b.1, a.2 ++ b.2)
    | _, _ => none
def evAny (P : Program) (run : Rn) (ops : Array Oper) (tb : List OpJ) (base : Nat) : Nat → List Nd → Option (List Out)
  | 0, nds => bif nds.all (fun nd => (readyM nd.ls tb).isEmpty) then some (nds.map fun nd => .good .norm nd.st) else none
  | k + 1, nds => match stepNds P run ops tb base nds with
    | some (nds', outs) => match nds' with
      | [] => some outs
      | _ => match evAny P run ops tb base k (nub (ungs nds')) with
        | some outs' => some (outs ++ outs')
        | none => none
    | none => none

section any
variable {P : Program} {X : Cx} {ρ : Nat → Rb} {n v : Nat} {Q : Exit → Act → World → Prop} {ops : Array Oper} {base : Nat} {run : Rn}
/-- A node, with fuel. -/
def NdOk [Fs] (P : Program) (X : Cx) (ρ : Nat → Rb) (n v : Nat) (Q : Exit → Act → World → Prop) (ops : Array Oper) (k : Nat) (nd : Nd) : Prop :=
  ∀ E1 ρ1 a w, Later X.E ρ n v E1 ρ1 nd.st → Rel (X.at E1) ρ1 nd.st a w → wpAny P .any ops Q k (arrOf ops.size nd.ls) a w
theorem nd_ung [Fs] {k : Nat} {nd : Nd} (h : NdOk P X ρ n v Q ops k nd.ung) : NdOk P X ρ n v Q ops k nd :=
  fun E1 ρ1 a w L hr => by
    unfold Nd.ung at h
    cases hg : nd.st.s.any Go.Sy.L.isGd <;> simp only [hg, cond_true, cond_false, Tr.fc_eq] at h
    · exact h E1 ρ1 a w L hr
    · exact h E1 ρ1 a w ⟨L.E, L.ρ, L.n, L.v⟩ (rel_ung hr)
theorem takeOne_ok [Fs] {nd nd' : Nd} : ∀ {l : List OpJ}, takeOne P ops nd l = some nd' → ∃ y o r, y ∈ l ∧ ops[y.i]? = some o ∧ subB y.bad nd.ls = true ∧ evTake P nd.st ops o = some r ∧ nd' = ⟨setBit nd.ls y.i, putS nd.st o.dst r⟩ := by
  intro l
  induction l with
  | nil => intro h; cases h
  | cons y rest ih =>
    intro h
    simp only [takeOne] at h
    split at h
    · rename_i st' hst
      cases h
      cases hb : subB y.bad nd.ls <;> simp only [hb, cond_true, cond_false] at hst
      · cases hst
      · split at hst
        · rename_i o ho
          rw [takeF_eq, Option.map_eq_some_iff] at hst
          obtain ⟨r, h1, rfl⟩ := hst
          exact ⟨y, o, r, List.mem_cons_self, ho, hb, h1, rfl⟩
        · cases hst
    · obtain ⟨y', o, r, h1, h2⟩ := ih h
      exact ⟨y', o, r, List.mem_cons_of_mem _ h1, h2⟩
theorem getD_both' [Fs] {listed : Array Bool} {i : Nat} (h : listed.getD i true = false) : listed.getD i false = false := by
  rcases Nat.lt_or_ge i listed.size with h' | h'
  · simp [h'] at h ⊢; exact h
  · simp [Array.getElem?_eq_none h'] at h
theorem takeCalm_ok [Fs] {tb : List OpJ} {nd nd' : Nd} : ∀ {l : List OpJ}, takeCalm P ops tb nd l = some nd' → ∃ y o r, y ∈ l ∧ ops[y.i]? = some o ∧ subB y.bad nd.ls = true ∧ calmAll ops tb nd.ls y.i (wtOf y.i tb ops.size 0) tb = true ∧ evTakeC P nd.st ops o = some r ∧ nd' = ⟨setBit nd.ls y.i, putS nd.st o.dst r⟩ := by
  intro l
  induction l with
  | nil => intro h; cases h
  | cons y rest ih =>
    intro h
    simp only [takeCalm] at h
    split at h
    · rename_i st' hst
      cases h
      cases hl : isLoadAt ops y.i <;> simp only [hl, cond_true, cond_false] at hst
      · cases hst
      cases hb : subB y.bad nd.ls && calmAll ops tb nd.ls y.i (wtOf y.i tb ops.size 0) tb <;> simp only [hb, cond_true, cond_false] at hst
      · cases hst
      · rw [Bool.and_eq_true] at hb
        split at hst
        · rename_i o ho
          rw [takeF_eq, Option.map_eq_some_iff] at hst
          obtain ⟨r, h1, rfl⟩ := hst
          exact ⟨y, o, r, List.mem_cons_self, ho, hb.1, hb.2, h1, rfl⟩
        · cases hst
    · obtain ⟨y', o, r, h1, h2⟩ := ih h
      exact ⟨y', o, r, List.mem_cons_of_mem _ h1, h2⟩
theorem calmAll_ok [Fs] {ls i wt : Nat} (h : calmAll ops (tabOf ops) ls i wt (tabOf ops) = true) {j : Nat} {oj : Oper} (hj : ops[j]? = some oj) :
    (bit wt j = true → bit ls j = false ∧ ∃ e ∈ oj.after, Region.binds .any e = true ∧ (e.on = i ∨ (bit wt e.on = true ∧ ∃ o, ops[e.on]? = some o))) ∧
    (j ≠ i → (arrOf ops.size ls).getD j true = false → (∀ e ∈ oj.after, Region.binds .any e = true → e.on ≠ i) → bit wt j = false → calmOp oj.op = true) := by
  have gen : ∀ {l : List OpJ}, calmAll ops (tabOf ops) ls i wt l = true → ∀ y ∈ l, (!(bit wt y.i) || !(bit ls y.i) && (tabOf ops).any (fun z => bit y.deps z.i && (Nat.beq z.i i || bit wt z.i))) = true ∧ (bit ls y.i || Nat.beq y.i i || bit y.deps i || bit wt y.i || (match ops[y.i]? with | some o => calmOp o.op | none => true)) = true := by
    intro l
    induction l with
    | nil => intro _ y hy; cases hy
    | cons z r ih =>
      intro hc y hy
      simp only [calmAll, Bool.and_eq_true] at hc
      rcases List.mem_cons.1 hy with rfl | hy
      · exact hc.1
      · exact ih hc.2 y hy
  obtain ⟨g1, g2⟩ := gen h _ (tabOf_mem.2 ⟨j, oj, hj, rfl⟩)
  dsimp only at g1 g2
  have dep : ∀ k, bit (opI ops j oj).deps k = true → ∃ e ∈ oj.after, Region.binds .any e = true ∧ e.on = k := by
    intro k hd
    simp only [opI, bit_bitsOf, List.mem_map, List.mem_filter] at hd
    obtain ⟨e, ⟨he, hb⟩, h1⟩ := hd
    exact ⟨e, by simpa using he, by simpa using hb, h1⟩
  constructor
  · intro hb
    rw [hb] at g1
    simp only [Bool.not_true, Bool.false_or, Bool.and_eq_true, Bool.not_eq_true', List.any_eq_true, Bool.or_eq_true] at g1
    obtain ⟨g3, z, hz, hd, g4⟩ := g1
    obtain ⟨e, he, hbe, hon⟩ := dep _ hd
    refine ⟨g3, e, he, hbe, ?_⟩
    rcases g4 with g4 | g4
    · exact .inl (hon.trans (Nat.eq_of_beq_eq_true g4))
    · obtain ⟨k, ok, hk, rfl⟩ := tabOf_mem.1 hz
      dsimp only at hon g4
      exact .inr ⟨by rw [hon]; exact g4, ok, by rw [hon]; exact hk⟩
  · intro hji hl hw hb
    have hlt : j < ops.size := (Array.getElem?_eq_some_iff.1 hj).1
    have hls : bit ls j = false := by rw [arrOf_getD, if_pos hlt] at hl; exact hl
    have hn : Nat.beq j i = false := nbeq_f hji
    have hd : bit (opI ops j oj).deps i = false := by
      rw [← Bool.not_eq_true]
      intro hd
      obtain ⟨e, he, hbe, hon⟩ := dep _ hd
      exact hw e he hbe hon
    rw [hls, hn, hd, hb, hj] at g2
    simpa using g2
theorem stepAll_ok [Fs] (hrun : RnOk P run) (hb : n ≤ base) (h0 : X.n0 ≤ base) {nd : Nd} {k : Nat} : ∀ {l : List OpJ} {nds : List Nd} {outs : List Out}, stepAll P run ops base nd l = some (nds, outs) → (∀ x ∈ nds, NdOk P X ρ n v Q ops k x) → (∀ x ∈ outs, Sat X ρ n v Q x) →
    ∀ E1 ρ1 a w, Later X.E ρ n v E1 ρ1 nd.st → Rel (X.at E1) ρ1 nd.st a w → ∀ y ∈ l, wpOp P ops Q y.i (wpAny P .any ops Q k (arrOf ops.size (setBit nd.ls y.i))) a w := by
  intro l
  induction l with
  | nil => intro nds outs _ _ _ E1 ρ1 a w _ _ i hi; cases hi
  | cons y rest ih =>
    intro nds outs he hnds houts E1 ρ1 a w L h z hz
    simp only [stepAll] at he
    split at he
    · rename_i outs1 r h1 h2
      cases he
      rcases List.mem_cons.1 hz with rfl | hz
      · refine evStep_ok hrun h1 h hb h0 L.n fun x hx => ?_
        rcases sortO_mem (ls := setBit nd.ls z.i) hx with ⟨st', rfl, hm⟩ | ⟨hm, hne⟩
        · intro E' ρ' a' w' L' g3
          exact hnds _ (List.mem_append_left _ hm) E' ρ' a' w' ⟨L.E.trans L'.E L.v, fun i hi => (L'.ρ i hi).trans (L.ρ i hi), L'.n, Nat.le_trans L.v L'.v⟩ g3
        · have := houts x (List.mem_append_left _ hm)
          cases x with
          | bad pc ds => exact fun E' hE => this E' (L.E.trans hE L.v)
          | good e st' =>
            have hL : ∀ E' ρ', Later E1 ρ1 n nd.st.k.nv E' ρ' st' → Later X.E ρ n v E' ρ' st' := fun E' ρ' L' => ⟨L.E.trans L'.E L.v, fun i hi => (L'.ρ i hi).trans (L.ρ i hi), L'.n, Nat.le_trans L.v L'.v⟩
            cases e with
            | norm => exact (hne st' rfl).elim
            | exit id => exact fun E' ρ' a' w' L' g3 => then_of _ _ _ (by simp [Ex.to]) (this E' ρ' a' w' (hL _ _ L') g3)
            | ret => exact fun E' ρ' a' w' L' g3 => then_of _ _ _ (by simp [Ex.to]) (this E' ρ' a' w' (hL _ _ L') g3)
            | pan c => exact fun E' ρ' a' w' x L' g3 hx => then_of _ _ _ (by simp) (this E' ρ' a' w' x (hL _ _ L') g3 hx)
      · exact ih h2 (fun x hx => hnds x (List.mem_append_right _ hx)) (fun x hx => houts x (List.mem_append_right _ hx)) E1 ρ1 a w L h z hz
    · cases he
theorem evAny_ok [Fs] (hrun : RnOk P run) (hs : Region.noSelect ops = true) (hw : waitsOk ops = true) (hQ : ∀ c a w, ¬ Q (.panic c) a w) (hb : n ≤ base) (h0 : X.n0 ≤ base) : ∀ {k : Nat} {nds : List Nd} {outs : List Out}, evAny P run ops (tabOf ops) base k nds = some outs → (∀ x ∈ outs, Sat X ρ n v Q x) →
    ∀ nd ∈ nds, NdOk P X ρ n v Q ops k nd := by
  have none_ready : ∀ {ls : Nat}, readyM ls (tabOf ops) = [] → Region.ready .any ops (arrOf ops.size ls) = [] := by
    intro ls h
    rw [List.eq_nil_iff_forall_not_mem]
    intro i hi
    obtain ⟨y, hy, _⟩ := (ready_iff hw).1 hi
    rw [h] at hy; cases hy
  intro k
  induction k with
  | zero =>
    intro nds outs he hsat nd hnd E1 ρ1 a w L h
    simp only [evAny] at he
    cases hc : nds.all (fun nd => (readyM nd.ls (tabOf ops)).isEmpty) <;> simp only [hc, cond_true, cond_false] at he
    · cases he
    · cases he
      rw [List.all_eq_true] at hc
      have h1 := hc nd hnd
      rw [List.isEmpty_iff] at h1
      exact ⟨none_ready h1, (hsat _ (List.mem_map_of_mem hnd)) E1 ρ1 a w L h⟩
  | succ k ih =>
    intro nds outs he hsat nd hnd
    simp only [evAny] at he
    split at he
    · rename_i nds' outs1 hst
      -- the next nodes are fine, the ends are fine
      have key : (∀ x ∈ nds', NdOk P X ρ n v Q ops k x) ∧ (∀ x ∈ outs1, Sat X ρ n v Q x) := by
        split at he
        · cases he; exact ⟨fun x hx => (nomatch hx), hsat⟩
        · split at he
          · rename_i outs' he'
            cases he
            exact ⟨fun x hx => (mem_ungs hx).elim (fun h => ih he' (fun x hx => hsat x (List.mem_append_right _ hx)) x (mem_nub h)) fun h => nd_ung (ih he' (fun x hx => hsat x (List.mem_append_right _ hx)) _ (mem_nub h)), fun x hx => hsat x (List.mem_append_left _ hx)⟩
          · cases he
      clear he hsat
      induction nds generalizing nds' outs1 with
      | nil => cases hnd
      | cons nd0 rest ihl =>
        simp only [stepNds] at hst
        split at hst
        · rename_i A B hA hB
          cases hst
          rcases List.mem_cons.1 hnd with rfl | hnd
          · intro E1 ρ1 a w L h
            have k1 : ∀ x ∈ A.1, NdOk P X ρ n v Q ops k x := fun x hx => key.1 x (List.mem_append_left _ hx)
            have k2 : ∀ x ∈ A.2, Sat X ρ n v Q x := fun x hx => key.2 x (List.mem_append_left _ hx)
            unfold stepNd at hA
            split at hA
            · rename_i hr
              cases hA
              exact wpAny_done (none_ready hr) (k2 _ List.mem_cons_self E1 ρ1 a w L h) _
            · rename_i rs hne
              split at hA
              · rename_i nd' ht
                cases hA
                obtain ⟨y, o, l, hy, hi, hf, hl, rfl⟩ := takeOne_ok ht
                obtain ⟨u, hyl, hlr⟩ := evTake_ok h hl
                have hmem := (readyM_mem.1 hy).1
                refine wpAny_take hi hs (free_of hmem hf) (by rw [List.contains_iff_mem]; exact (ready_iff hw).2 ⟨y, hy, rfl⟩) (fun c a w hq => (hQ _ _ _ hq).elim) hyl ?_
                rw [← arrOf_set]
                exact k1 _ List.mem_cons_self E1 ρ1 _ w ⟨L.E, L.ρ, by rw [putS_m]; exact L.n, by rw [putS_k]; exact L.v⟩ (h.put o.dst hlr)
              · split at hA
                · rename_i nd' ht
                  cases hA
                  obtain ⟨y, o, l, hy, hi, hf, hc, hl, rfl⟩ := takeCalm_ok ht
                  have hmem := (readyM_mem.1 hy).1
                  unfold evTakeC at hl
                  split at hl
                  · rename_i hg
                    have hwt : Region.wanted o (yielded ops a.tmps) = true := evGuard_ok h hg
                    split at hl
                    · rename_i l' m' hr
                      cases hl
                      obtain ⟨_, hok⟩ := evS_L h hr
                      obtain ⟨u, hv, hlr⟩ := hok (fun t ht => by simp at ht)
                      have hsp := Region.free_spec hi (free_of hmem hf)
                      refine wpAny_calm (w0 := w) (v := u) (W := fun j => bit (wtOf y.i (tabOf ops) ops.size 0) j = true ∧ ∃ o, ops[j]? = some o) (fun j oj hj hwj => (calmAll_ok hc hj).1 hwj.1 |>.2) hi (Region.noSelect_spec hs) (fun c a w hq => (hQ _ _ _ hq).elim) _ _ _ _ (fun j oj hj hji hl hw' hnw => ⟨hsp j oj hj hji hl hw', (calmAll_ok hc hj).2 hji hl hw' (by rw [← Bool.not_eq_true]; exact fun hb => hnw ⟨hb, oj, hj⟩)⟩) (fun j hwj => by
                        obtain ⟨hb, o', ho'⟩ := hwj
                        have hlt : j < ops.size := (Array.getElem?_eq_some_iff.1 ho').1
                        have := ((calmAll_ok hc ho').1 hb).1
                        have h3 : (arrOf ops.size nd.ls).getD j true = false := by rw [arrOf_getD, if_pos hlt]; exact this
                        exact getD_both' h3) ((ready_iff hw).2 ⟨y, hy, rfl⟩) (.inl ⟨hwt, fun w' hk => hv w' hk⟩) (Keeps.refl w) ?_
                      rw [← arrOf_set]
                      exact k1 _ List.mem_cons_self E1 ρ1 _ w ⟨L.E, L.ρ, by rw [putS_m]; exact L.n, by rw [putS_k]; exact L.v⟩ (h.put o.dst hlr)
                    · cases hl
                  · cases hl
                have hall := stepAll_ok hrun hb h0 hA k1 k2 E1 ρ1 a w L h
                refine ⟨fun hr => ?_, fun i hi => ?_⟩
                · exfalso
                  cases hrs : readyM nd.ls (tabOf ops) with
                  | nil => exact hne hrs
                  | cons y r =>
                    have := (ready_iff hw).2 ⟨y, by rw [hrs]; exact List.mem_cons_self, rfl⟩
                    rw [hr] at this; cases this
                · obtain ⟨y, hy, rfl⟩ := (ready_iff hw).1 hi
                  rw [← arrOf_set]
                  exact hall y hy
          · exact ihl hnd _ _ hB ⟨fun x hx => key.1 x (List.mem_append_right _ hx), fun x hx => key.2 x (List.mem_append_right _ hx)⟩
        · cases hst
    · cases he

def OpJ.fc {β : Type} (x : OpJ) (k : OpJ → β) : β := match x with
  | ⟨i, d, b⟩ => fcN i fun i => fcN d fun d => fcN b fun b => k ⟨i, d, b⟩
theorem OpJ.fc_eq [Fs] {β : Type} (x : OpJ) (k : OpJ → β) : x.fc k = k x := by cases x; simp only [OpJ.fc, fcN_eq]
/-- No panic. -/
def Out.np : Out → Bool
  | .good (.pan _) _ => false
  | _ => true
def evDraw (P : Program) (run : Rn) (ops : Array Oper) (st : St) : Option (List Out) :=
  bif P.follows .mixedOrders && Region.noSelect ops && waitsOk ops then
    fcLs OpJ.fc (tabOf ops) fun tb => match (bif lexM tb tb 0 && nums tb 0 then evLex P run ops ops.toList st else none) with
    | some outs => some outs
    | none => fcFrom Bk.fc st.m.length (st.m ++ List.replicate ops.size .dead) fun m => match evAny P run ops tb st.m.length ops.size [⟨0, ⟨st.s, m, st.pc, st.k⟩⟩] with
      | some outs => bif outs.all Out.np then some outs else none
      | none => none
  else none
theorem evDraw_ok [Fs] (hrun : RnOk P run) {st : St} {outs : List Out} (he : evDraw P run ops st = some outs) {a : Act} {w : World} (h : Rel X ρ st a w) (hsat : ∀ x ∈ outs, Sat X ρ st.m.length st.k.nv Q x) (id : Nat) : (Code.region id ops true).wp P Q a w := by
  unfold evDraw at he
  simp only [fcFrom_eq Bk.fc_eq, fcLs_eq OpJ.fc_eq] at he
  cases hc : P.follows .mixedOrders && Region.noSelect ops && waitsOk ops <;> simp only [hc, cond_true, cond_false] at he
  · cases he
  · rw [Bool.and_eq_true, Bool.and_eq_true] at hc
    obtain ⟨⟨hc1, hc2⟩, hc3⟩ := hc
    have hmr : MemR X ρ st.m { w with drawn := w.drawn + 1 } := ⟨h.mr.mem, h.mr.inj, h.mr.len, h.mr.old, h.mr.new, ⟨h.mr.fr.os, h.mr.fr.tape, h.mr.fr.output, h.mr.fr.size, h.mr.fr.block⟩⟩
    split at he
    · rename_i outs' hl
      cases he
      cases hlex : lexM (tabOf ops) (tabOf ops) 0 && nums (tabOf ops) 0 <;> simp only [hlex, cond_true, cond_false] at hl
      · cases hl
      · rw [Bool.and_eq_true] at hlex
        have hB : Region.lexB .any ops = true := by
          simp only [Region.lexB, Bool.and_eq_true]
          refine ⟨hc2, ?_⟩
          have := lexM_ok hc3 hlex.1 hlex.2 fun y hy => hy
          rw [tabOf_len, arrOf_zero] at this
          exact this
        have := evLex_ok hrun hl (X := X) (ρ := ρ) (a := a) (w := { w with drawn := w.drawn + 1 }) ⟨h.toSRel, h.dfr, hmr⟩ hsat
        exact wp_region_quiet hc1 hB (RowKit.Below.refl _ _) this
    · -- only plain ways out come of a region
      split at he
      · rename_i outs0 he0
        cases hnp : outs0.all Out.np <;> simp only [hnp, cond_true, cond_false] at he
        · cases he
        cases he
        rw [List.all_eq_true] at hnp
        have he := he0
        refine wp_mono (Q := fun e a w => match e with | .panic _ => False | e => Q e a w) (wp_region_any hc1 ?_) (fun e a w hq => by cases e <;> first | exact hq | exact hq.elim)
        have hlen : st.m.length ≤ (st.m ++ List.replicate ops.size Bk.dead).length := by simp
        have := evAny_ok (X := X) (ρ := ρ) (n := st.m.length) (v := st.k.nv) (Q := fun e a w => match e with | .panic _ => False | e => Q e a w) hrun hc2 hc3 (fun c a w hq => hq) (Nat.le_refl _) h.mr.len he (fun x hx => ?_) _ List.mem_cons_self X.E ρ a { w with drawn := w.drawn + 1 } ⟨Agree.refl _ _, fun _ _ => rfl, hlen, Nat.le_refl _⟩ ⟨⟨h.slots.mono fun _ _ => Lr.mono (fun _ _ => rfl) hlen, h.pc, h.ds, h.F⟩, h.dfr, hmr.pad _⟩
        · rw [arrOf_zero] at this
          exact this
        · have := hsat x hx
          cases x with
          | bad pc ds => exact this
          | good e st' =>
            cases e with
            | pan c => exact absurd (hnp _ hx) (by simp [Out.np])
            | _ => exact this
      · cases he
end any
end Go.Sy
