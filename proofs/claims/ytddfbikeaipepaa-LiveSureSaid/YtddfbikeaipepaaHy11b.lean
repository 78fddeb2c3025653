/- Part 11b of a checked reader of Go texts in their model form: it runs a function at terms in the place of numbers, and each part proves that its answers hold of the model. -/
import Derived.Test.YtddfbikeaipepaaHy11
namespace Go.Sy

/-! sets as numbers: which operations have come up, on which one waits -/
def bit (m i : Nat) : Bool := Nat.beq (Nat.mod (Nat.div m (Nat.pow 2 i)) 2) 1
theorem bit_eq (m i : Nat) : bit m i = m.testBit i := by
  rw [Nat.testBit_eq_decide_div_mod_eq]
  show Nat.beq (m / 2 ^ i % 2) 1 = _
  rw [Bool.eq_iff_iff, Nat.beq_eq]
  simp
def setBit (m i : Nat) : Nat := Nat.lor m (Nat.pow 2 i)
theorem bit_setBit (m i j : Nat) : bit (setBit m i) j = (bit m j || i == j) := by
  rw [bit_eq, bit_eq]
  show (m ||| 2 ^ i).testBit j = _
  rw [Nat.testBit_or, Nat.testBit_two_pow]
  rfl
def bitsOf : List Nat → Nat
  | [] => 0
  | i :: r => setBit (bitsOf r) i
theorem bit_bitsOf {j : Nat} : ∀ {l : List Nat}, bit (bitsOf l) j = true ↔ j ∈ l := by
  intro l
  induction l with
  | nil => rw [bit_eq]; simp [bitsOf]
  | cons i r ih =>
    simp only [bitsOf, bit_setBit, Bool.or_eq_true, beq_iff_eq, ih, List.mem_cons]
    exact ⟨fun h => h.elim .inr (fun e => .inl e.symm), fun h => h.elim (fun e => .inr e.symm) .inl⟩
/-- Is all of a set in another? -/
def subB (a b : Nat) : Bool := Nat.beq (Nat.land a b) a
theorem subB_iff {a b : Nat} : subB a b = true ↔ ∀ i, bit a i = true → bit b i = true := by
  have e : subB a b = true ↔ a &&& b = a := by
    unfold subB; exact ⟨Nat.eq_of_beq_eq_true, fun h => by show Nat.beq (a &&& b) a = true; rw [h]; exact Nat.beq_refl a⟩
  rw [e]
  simp only [bit_eq]
  refine ⟨fun h i hi => ?_, fun h => ?_⟩
  · have := congrArg (·.testBit i) h
    simp only [Nat.testBit_and] at this
    rw [hi] at this
    simpa using this
  · refine Nat.eq_of_testBit_eq fun i => ?_
    rw [Nat.testBit_and]
    cases ha : a.testBit i
    · rfl
    · rw [h i ha]; rfl

/-- What is asked of an operation: its number, on which it waits, its slot, the slots that it looks at. -/
structure OpI where
  i : Nat
  deps : Nat
  dst : Option Nat
  looks : Nat
def opI (ops : Array Oper) (i : Nat) (o : Oper) : OpI := ⟨i, bitsOf ((o.after.toList.filter (Region.binds .any)).map (·.on)), o.dst, bitsOf (o.looksAt ops)⟩
def opIs (ops : Array Oper) : List Oper → Nat → List OpI
  | [], _ => []
  | o :: r, i => opI ops i o :: opIs ops r (i + 1)
def apartI (x y : OpI) : Bool :=
  (match x.dst with
   | some d => !(bit y.looks d) && (match y.dst with | some e => !(Nat.beq d e) | none => true)
   | none => true) &&
  (match y.dst with
   | some d => !(bit x.looks d)
   | none => true)
theorem apartI_ok {ops : Array Oper} {i j : Nat} {x y : Oper} (h : apartI (opI ops i x) (opI ops j y) = true) : x.apart ops y = true := by
  have nb : ∀ (l : List Nat) d, (!(bit (bitsOf l) d)) = true → l.contains d = false := by
    intro l d h
    rw [Bool.not_eq_true'] at h
    rw [← Bool.not_eq_true, List.contains_iff_mem, ← bit_bitsOf, h]
    exact Bool.false_ne_true
  unfold apartI opI at h
  unfold Oper.apart
  simp only [Bool.and_eq_true] at h ⊢
  obtain ⟨h1, h2⟩ := h
  refine ⟨?_, ?_⟩
  · cases hx : x.dst with
    | none => rfl
    | some d =>
      simp only [hx, Bool.and_eq_true] at h1 ⊢
      refine ⟨by rw [Bool.not_eq_true']; exact nb _ _ h1.1, ?_⟩
      have h12 := h1.2
      cases hy : y.dst with
      | none => rfl
      | some e =>
        simp only [hy] at h12 ⊢
        rw [bne_iff_ne]
        intro he
        cases he
        rw [Bool.not_eq_true'] at h12
        have := Nat.beq_refl d
        rw [h12] at this; cases this
  · cases hy : y.dst with
    | none => rfl
    | some d =>
      simp only [hy] at h2 ⊢
      rw [Bool.not_eq_true']; exact nb _ _ h2
/-- Those with which an operation may not change places. -/
def badOf (x : OpI) : List OpI → List Nat
  | [] => []
  | y :: r => bif Nat.beq y.i x.i || bit y.deps x.i || apartI x y then badOf x r else y.i :: badOf x r
structure OpJ where
  i : Nat
  deps : Nat
  bad : Nat
def opJs (all : List OpI) : List OpI → List OpJ
  | [] => []
  | x :: r => ⟨x.i, x.deps, bitsOf (badOf x all)⟩ :: opJs all r
/-- A region's table. -/
def tabOf (ops : Array Oper) : List OpJ := let l := opIs ops ops.toList 0; opJs l l
def readyM (ls : Nat) : List OpJ → List OpJ
  | [] => []
  | x :: r => bif !(bit ls x.i) && subB x.deps ls then x :: readyM ls r else readyM ls r
def arrOf (n ls : Nat) : Array Bool := (Array.range n).map fun i => bit ls i
theorem arrOf_getD {n ls i : Nat} {d : Bool} : (arrOf n ls).getD i d = if i < n then bit ls i else d := by
  unfold arrOf
  rw [Array.getD_eq_getD_getElem?]
  by_cases h : i < n
  · simp [h]
  · simp [h]
theorem arrOf_set {n ls i : Nat} : arrOf n (setBit ls i) = (arrOf n ls).setIfInBounds i true := by
  apply Array.ext
  · simp [arrOf]
  · intro j h1 h2
    rw [Array.getElem_setIfInBounds]
    · simp only [arrOf, Array.getElem_map, Array.getElem_range, bit_setBit]
      by_cases h : i = j
      · simp [h]
      · simp [h]
    · simpa [arrOf] using h1
theorem opIs_mem {ops : Array Oper} {x : OpI} : ∀ {l : List Oper} {i : Nat}, x ∈ opIs ops l i ↔ ∃ j o, l[j]? = some o ∧ x = opI ops (i + j) o := by
  intro l
  induction l with
  | nil => intro i; simp [opIs]
  | cons o r ih =>
    intro i
    simp only [opIs, List.mem_cons, ih]
    constructor
    · rintro (rfl | ⟨j, o', h1, h2⟩)
      · exact ⟨0, o, rfl, rfl⟩
      · exact ⟨j + 1, o', h1, by rw [h2]; congr 1; omega⟩
    · rintro ⟨j, o', h1, h2⟩
      cases j with
      | zero => simp at h1; subst h1; exact .inl h2
      | succ j => exact .inr ⟨j, o', by simpa using h1, by rw [h2]; congr 1; omega⟩
theorem opIs_ops {ops : Array Oper} {x : OpI} : x ∈ opIs ops ops.toList 0 ↔ ∃ j o, ops[j]? = some o ∧ x = opI ops j o := by
  rw [opIs_mem]
  simp
theorem opJs_mem {all : List OpI} {y : OpJ} : ∀ {l : List OpI}, y ∈ opJs all l ↔ ∃ x ∈ l, y = ⟨x.i, x.deps, bitsOf (badOf x all)⟩ := by
  intro l
  induction l with
  | nil => simp [opJs]
  | cons x r ih =>
    simp only [opJs, List.mem_cons, ih]
    constructor
    · rintro (h | ⟨x', h1, h2⟩)
      · exact ⟨x, .inl rfl, h⟩
      · exact ⟨x', .inr h1, h2⟩
    · rintro ⟨x', rfl | h1, h2⟩
      · exact .inl h2
      · exact .inr ⟨x', h1, h2⟩
theorem tabOf_mem {ops : Array Oper} {y : OpJ} : y ∈ tabOf ops ↔ ∃ j o, ops[j]? = some o ∧ y = ⟨j, (opI ops j o).deps, bitsOf (badOf (opI ops j o) (opIs ops ops.toList 0))⟩ := by
  unfold tabOf
  rw [opJs_mem]
  constructor
  · rintro ⟨x, h1, h2⟩
    obtain ⟨j, o, h3, rfl⟩ := opIs_ops.1 h1
    exact ⟨j, o, h3, h2⟩
  · rintro ⟨j, o, h3, h4⟩
    exact ⟨_, opIs_ops.2 ⟨j, o, h3, rfl⟩, h4⟩
theorem readyM_mem {ls : Nat} {x : OpJ} : ∀ {l : List OpJ}, x ∈ readyM ls l ↔ x ∈ l ∧ bit ls x.i = false ∧ subB x.deps ls = true := by
  intro l
  induction l with
  | nil => simp [readyM]
  | cons y r ih =>
    simp only [readyM]
    cases h : !(bit ls y.i) && subB y.deps ls <;> simp only [cond_true, cond_false, ih, List.mem_cons]
    · constructor
      · exact fun ⟨h1, h2⟩ => ⟨.inr h1, h2⟩
      · rintro ⟨rfl | h1, h2, h3⟩
        · rw [h2, h3] at h; cases h
        · exact ⟨h1, h2, h3⟩
    · rw [Bool.and_eq_true, Bool.not_eq_true'] at h
      constructor
      · rintro (rfl | ⟨h1, h2⟩)
        · exact ⟨.inl rfl, h⟩
        · exact ⟨.inr h1, h2⟩
      · rintro ⟨rfl | h1, h2⟩
        · exact .inl rfl
        · exact .inr ⟨h1, h2⟩
/-- Every operation waits on operations alone. -/
def waitsOk (ops : Array Oper) : Bool := ops.toList.all fun o => o.after.toList.all fun e => Nat.blt e.on ops.size
theorem ready_iff {ops : Array Oper} (hw : waitsOk ops = true) {ls i : Nat} : i ∈ Region.ready .any ops (arrOf ops.size ls) ↔ ∃ y ∈ readyM ls (tabOf ops), y.i = i := by
  have wait : ∀ (o : Oper), o ∈ ops → ∀ e ∈ o.after, e.on < ops.size := by
    intro o ho e he
    rw [waitsOk, List.all_eq_true] at hw
    have := hw o (by simpa using ho)
    rw [List.all_eq_true] at this
    simpa using this e (by simpa using he)
  have deps : ∀ (j : Nat) (o : Oper), o ∈ ops → ((∀ e ∈ o.after, Region.binds .any e = true → (arrOf ops.size ls).getD e.on false = true) ↔ subB (opI ops j o).deps ls = true) := by
    intro j o ho
    rw [subB_iff]
    simp only [opI, bit_bitsOf, List.mem_map, List.mem_filter]
    constructor
    · rintro h k ⟨e, ⟨he, hb⟩, rfl⟩
      have := h e (by simpa using he) hb
      rw [arrOf_getD, if_pos (wait o ho e (by simpa using he))] at this
      exact this
    · intro h e he hb
      rw [arrOf_getD, if_pos (wait o ho e he)]
      exact h _ ⟨e, ⟨by simpa using he, hb⟩, rfl⟩
  rw [mem_ready]
  constructor
  · rintro ⟨h1, o, ho, h2⟩
    have hlt : i < ops.size := (Array.getElem?_eq_some_iff.1 ho).1
    have hm : o ∈ ops := Array.mem_of_getElem? ho
    rw [arrOf_getD, if_pos hlt] at h1
    exact ⟨_, readyM_mem.2 ⟨tabOf_mem.2 ⟨i, o, ho, rfl⟩, h1, (deps i o hm).1 h2⟩, rfl⟩
  · rintro ⟨y, hy, rfl⟩
    obtain ⟨h1, h2, h3⟩ := readyM_mem.1 hy
    obtain ⟨j, o, ho, rfl⟩ := tabOf_mem.1 h1
    have hlt : j < ops.size := (Array.getElem?_eq_some_iff.1 ho).1
    have hm : o ∈ ops := Array.mem_of_getElem? ho
    refine ⟨by rw [arrOf_getD, if_pos hlt]; exact h2, o, ho, (deps j o hm).2 h3⟩
theorem badOf_mem {x y : OpI} : ∀ {l : List OpI}, y ∈ l → ¬ (y.i = x.i) → bit y.deps x.i = false → apartI x y = false → y.i ∈ badOf x l := by
  intro l
  induction l with
  | nil => intro h; cases h
  | cons z r ih =>
    intro h h1 h2 h3
    simp only [badOf]
    rcases List.mem_cons.1 h with rfl | h
    · have : Nat.beq y.i x.i = false := nbeq_f h1
      rw [this, h2, h3]
      exact List.mem_cons_self
    · cases Nat.beq z.i x.i || bit z.deps x.i || apartI x z <;> simp only [cond_true, cond_false]
      · exact List.mem_cons_of_mem _ (ih h h1 h2 h3)
      · exact ih h h1 h2 h3
theorem free_of {ops : Array Oper} {ls : Nat} {y : OpJ} (hy : y ∈ tabOf ops) (h : subB y.bad ls = true) : Region.free .any ops (arrOf ops.size ls) y.i = true := by
  obtain ⟨i, oi, hi, rfl⟩ := tabOf_mem.1 hy
  simp only [Region.free, hi, List.all_eq_true, List.mem_range]
  intro j hj
  have hoj : ops[j]? = some ops[j] := Array.getElem?_eq_getElem hj
  simp only [hoj, Bool.or_eq_true, beq_iff_eq]
  by_cases hji : j = i
  · exact .inl (.inl hji)
  by_cases hl : bit ls j = true
  · exact .inl (.inr (by rw [arrOf_getD, if_pos hj]; exact hl))
  right
  by_cases hd : bit (opI ops j ops[j]).deps i = true
  · left
    simp only [opI, bit_bitsOf, List.mem_map, List.mem_filter] at hd
    obtain ⟨e, ⟨he, hb⟩, h1⟩ := hd
    rw [Array.any_eq_true']
    exact ⟨e, by simpa using he, by simp [hb, h1]⟩
  · right
    cases ha : apartI (opI ops i oi) (opI ops j ops[j])
    · have := badOf_mem (x := opI ops i oi) (y := opI ops j ops[j]) (l := opIs ops ops.toList 0) (opIs_ops.2 ⟨j, _, hoj, rfl⟩) hji (by rw [Bool.not_eq_true] at hd; exact hd) ha
      exact absurd (subB_iff.1 h _ (bit_bitsOf.2 this)) hl
    · exact apartI_ok ha
/-- The order of the text is one that may be, and each may be taken first. -/
def lexM (all : List OpJ) : List OpJ → Nat → Bool
  | [], ls => match readyM ls all with | [] => true | _ => false
  | y :: r, ls => !(bit ls y.i) && subB y.deps ls && subB y.bad ls && lexM all r (setBit ls y.i)
def nums : List OpJ → Nat → Bool
  | [], _ => true
  | y :: r, k => Nat.beq y.i k && nums r (k + 1)
theorem lexM_ok {ops : Array Oper} (hw : waitsOk ops = true) : ∀ {l : List OpJ} {k ls : Nat}, lexM (tabOf ops) l ls = true → nums l k = true → (∀ y ∈ l, y ∈ tabOf ops) → Region.lexFrom .any ops l.length k (arrOf ops.size ls) = true := by
  intro l
  induction l with
  | nil =>
    intro k ls h _ _
    simp only [List.length_nil, Region.lexFrom, List.isEmpty_iff]
    rw [List.eq_nil_iff_forall_not_mem]
    intro i hi
    obtain ⟨y, hy, _⟩ := (ready_iff hw).1 hi
    simp only [lexM] at h
    split at h
    · rename_i he; rw [he] at hy; cases hy
    · cases h
  | cons y r ih =>
    intro k ls h hn hm
    simp only [lexM, Bool.and_eq_true, Bool.not_eq_true'] at h
    obtain ⟨⟨⟨h1, h2⟩, h3⟩, h4⟩ := h
    simp only [nums, Bool.and_eq_true] at hn
    have hk := Nat.eq_of_beq_eq_true hn.1
    subst hk
    have hy := hm y List.mem_cons_self
    simp only [List.length_cons, Region.lexFrom, Bool.and_eq_true]
    refine ⟨⟨?_, free_of hy h3⟩, ?_⟩
    · rw [List.contains_iff_mem]
      exact (ready_iff hw).2 ⟨y, readyM_mem.2 ⟨hy, h1, h2⟩, rfl⟩
    · rw [← arrOf_set]
      exact ih h4 hn.2 fun z hz => hm z (List.mem_cons_of_mem _ hz)
theorem opIs_len {ops : Array Oper} : ∀ {l : List Oper} {i : Nat}, (opIs ops l i).length = l.length := by
  intro l
  induction l with
  | nil => intro i; rfl
  | cons o r ih => intro i; simp [opIs, ih]
theorem opJs_len {all : List OpI} : ∀ {l : List OpI}, (opJs all l).length = l.length := by
  intro l
  induction l with
  | nil => rfl
  | cons o r ih => simp [opJs, ih]
theorem tabOf_len {ops : Array Oper} : (tabOf ops).length = ops.size := by
  unfold tabOf; rw [opJs_len, opIs_len, Array.length_toList]
theorem arrOf_zero {n : Nat} : arrOf n 0 = Array.replicate n false := by
  apply Array.ext
  · simp [arrOf]
  · intro i h1 h2
    simp only [arrOf, Array.getElem_map, Array.getElem_replicate, bit_eq, Nat.zero_testBit]
end Go.Sy
