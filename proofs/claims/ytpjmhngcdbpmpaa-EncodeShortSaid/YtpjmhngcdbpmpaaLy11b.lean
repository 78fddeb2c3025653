/- Part 11b of a checked reader of Go texts in their model form: it runs a function at terms in the place of numbers, and each part proves that its answers hold of the model. -/
import Derived.Test.YtpjmhngcdbpmpaaLy10
import Derived.OrdersHeld
import Derived.Stop.Looks
namespace Go.Sy

/-! sets as numbers: which operations have come up, on which one waits -/
def bit (m i : Nat) : Bool := Nat.beq (Nat.mod (Nat.div m (Nat.pow 2 i)) 2) 1
theorem bit_eq (m i : Nat) : bit m i = m.testBit i := by
  rw [Nat.testBit_eq_decide_div_mod_eq]
  show Nat.beq (m / 2 ^ i % 2) 1 = _
  rw [Bool.eq_iff_iff, Nat.beq_eq]
  simp
def setBit (m i : Nat) : Nat := Nat.lor m (Nat.pow 2 i)
theorem bit_setBit (m i j : Nat) : bit (setBit m i) j = (bit m j || i == j) := by
  rw [bit_eq, bit_eq]
  show (m ||| 2 ^ i).testBit j = _
  rw [Nat.testBit_or, Nat.testBit_two_pow]
  rfl
def bitsOf : List Nat → Nat
  | [] => 0
  | i :: r => setBit (bitsOf r) i
theorem bit_bitsOf {j : Nat} : ∀ {l : List Nat}, bit (bitsOf l) j = true ↔ j ∈ l := by
  intro l
  induction l with
  | nil => rw [bit_eq]; simp [bitsOf]
  | cons i r ih =>
    simp only [bitsOf, bit_setBit, Bool.or_eq_true, beq_iff_eq, ih, List.mem_cons]
    exact ⟨fun h => h.elim .inr (fun e => .inl e.symm), fun h => h.elim (fun e => .inr e.symm) .inl⟩
/-- Is all of a set in another? -/
def subB (a b : Nat) : Bool := Nat.beq (Nat.land a b) a
theorem subB_iff {a b : Nat} : subB a b = true ↔ ∀ i, bit a i = true → bit b i = true := by
  have e : subB a b = true ↔ a &&& b = a := by
    unfold subB; exact ⟨Nat.eq_of_beq_eq_true, fun h => by show Nat.beq (a &&& b) a = true; rw [h]; exact Nat.beq_refl a⟩
  rw [e]
  simp only [bit_eq]
  refine ⟨fun h i hi => ?_, fun h => ?_⟩
  · have := congrArg (·.testBit i) h
    simp only [Nat.testBit_and] at this
    rw [hi] at this
    simpa using this
  · refine Nat.eq_of_testBit_eq fun i => ?_
    rw [Nat.testBit_and]
    cases ha : a.testBit i
    · rfl
    · rw [h i ha]; rfl

/-- What is asked of an operation: its number, on which it waits, its slot, the slots that it looks at. -/
structure OpI where
  i : Nat
  deps : Nat
  dst : Option Nat
  looks : Nat
def opI (ops : Array Oper) (i : Nat) (o : Oper) : OpI := ⟨i, bitsOf ((o.after.toList.filter (Region.binds .any)).map (·.on)), o.dst, bitsOf (o.looksAt ops)⟩
def opIs (ops : Array Oper) : List Oper → Nat → List OpI
  | [], _ => []
  | o :: r, i => opI ops i o :: opIs ops r (i + 1)
def apartI (x y : OpI) : Bool :=
  (match x.dst with
   | some d => !(bit y.looks d) && (match y.dst with | some e => !(Nat.beq d e) | none => true)
   | none => true) &&
  (match y.dst with
   | some d => !(bit x.looks d)
   | none => true)
theorem apartI_ok {ops : Array Oper} {i j : Nat} {x y : Oper} (h : apartI (opI ops i x) (opI ops j y) = true) : x.apart ops y = true := by
  have nb : ∀ (l : List Nat) d, (!(bit (bitsOf l) d)) = true → l.contains d = false := by
    intro l d h
    rw [Bool.not_eq_true'] at h
    rw [← Bool.not_eq_true, List.contains_iff_mem, ← bit_bitsOf, h]
    exact Bool.false_ne_true
  unfold apartI opI at h
  unfold Oper.apart
  simp only [Bool.and_eq_true] at h ⊢
  obtain ⟨h1, h2⟩ := h
  refine ⟨?_, ?_⟩
  · cases hx : x.dst with
    | none => rfl
    | some d =>
      simp only [hx, Bool.and_eq_true] at h1 ⊢
      refine ⟨by rw [Bool.not_eq_true']; exact nb _ _ h1.1, ?_⟩
      have h12 := h1.2
      cases hy : y.dst with
      | none => rfl
      | some e =>
        simp only [hy] at h12 ⊢
        rw [bne_iff_ne]
        intro he
        cases he
        rw [Bool.not_eq_true'] at h12
        have := Nat.beq_refl d
        rw [h12] at this; cases this
  · cases hy : y.dst with
    | none => rfl
    | some d =>
      simp only [hy] at h2 ⊢
      rw [Bool.not_eq_true']; exact nb _ _ h2
/-- Those with which an operation may not change places. -/
def badOf (x : OpI) : List OpI → List Nat
  | [] => []
  | y :: r => bif Nat.beq y.i x.i || bit y.deps x.i || apartI x y then badOf x r else y.i :: badOf x r
structure OpJ where
  i : Nat
  deps : Nat
  bad : Nat
def opJs (all : List OpI) : List OpI → List OpJ
  | [] => []
  | x :: r => ⟨x.i, x.deps, bitsOf (badOf x all)⟩ :: opJs all r
/-- A region's table. -/
def tabOf (ops : Array Oper) : List OpJ := let l := opIs ops ops.toList 0; opJs l l
def readyM (ls : Nat) : List OpJ → List OpJ
  | [] => []
  | x :: r => bif !(bit ls x.i) && subB x.deps ls then x :: readyM ls r else readyM ls r
def arrOf (n ls : Nat) : Array Bool := (Array.range n).map fun i => bit ls i
theorem arrOf_getD {n ls i : Nat} {d : Bool} : (arrOf n ls).getD i d = if i < n then bit ls i else d := by
  unfold arrOf
  rw [Array.getD_eq_getD_getElem?]
  by_cases h : i < n
  · simp [h]
  · simp [h]
theorem arrOf_set {n ls i : Nat} : arrOf n (setBit ls i) = (arrOf n ls).setIfInBounds i true := by
  apply Array.ext
  · simp [arrOf]
  · intro j h1 h2
    rw [Array.getElem_setIfInBounds]
    · simp only [arrOf, Array.getElem_map, Array.getElem_range, bit_setBit]
      by_cases h : i = j
      · simp [h]
      · simp [h]
    · simpa [arrOf] using h1
theorem opIs_mem {ops : Array Oper} {x : OpI} : ∀ {l : List Oper} {i : Nat}, x ∈ opIs ops l i ↔ ∃ j o, l[j]? = some o ∧ x = opI ops (i + j) o := by
  intro l
  induction l with
  | nil => intro i; simp [opIs]
  | cons o r ih =>
    intro i
    simp only [opIs, List.mem_cons, ih]
    constructor
    · rintro (rfl | ⟨j, o', h1, h2⟩)
      · exact ⟨0, o, rfl, rfl⟩
      · exact ⟨j + 1, o', h1, by rw [h2]; congr 1; omega⟩
    · rintro ⟨j, o', h1, h2⟩
      cases j with
      | zero => simp at h1; subst h1; exact .inl h2
      | succ j => exact .inr ⟨j, o', by simpa using h1, by rw [h2]; congr 1; omega⟩
theorem opIs_ops {ops : Array Oper} {x : OpI} : x ∈ opIs ops ops.toList 0 ↔ ∃ j o, ops[j]? = some o ∧ x = opI ops j o := by
  rw [opIs_mem]
  simp
theorem opJs_mem {all : List OpI} {y : OpJ} : ∀ {l : List OpI}, y ∈ opJs all l ↔ ∃ x ∈ l, y = ⟨x.i, x.deps, bitsOf (badOf x all)⟩ := by
  intro l
  induction l with
  | nil => simp [opJs]
  | cons x r ih =>
    simp only [opJs, List.mem_cons, ih]
    constructor
    · rintro (h | ⟨x', h1, h2⟩)
      · exact ⟨x, .inl rfl, h⟩
      · exact ⟨x', .inr h1, h2⟩
    · rintro ⟨x', rfl | h1, h2⟩
      · exact .inl h2
      · exact .inr ⟨x', h1, h2⟩
theorem tabOf_mem {ops : Array Oper} {y : OpJ} : y ∈ tabOf ops ↔ ∃ j o, ops[j]? = some o ∧ y = ⟨j, (opI ops j o).deps, bitsOf (badOf (opI ops j o) (opIs ops ops.toList 0))⟩ := by
  unfold tabOf
  rw [opJs_mem]
  constructor
  · rintro ⟨x, h1, h2⟩
    obtain ⟨j, o, h3, rfl⟩ := opIs_ops.1 h1
    exact ⟨j, o, h3, h2⟩
  · rintro ⟨j, o, h3, h4⟩
    exact ⟨_, opIs_ops.2 ⟨j, o, h3, rfl⟩, h4⟩
theorem readyM_mem {ls : Nat} {x : OpJ} : ∀ {l : List OpJ}, x ∈ readyM ls l ↔ x ∈ l ∧ bit ls x.i = false ∧ subB x.deps ls = true := by
  intro l
  induction l with
  | nil => simp [readyM]
  | cons y r ih =>
    simp only [readyM]
    cases h : !(bit ls y.i) && subB y.deps ls <;> simp only [cond_true, cond_false, ih, List.mem_cons]
    · constructor
      · exact fun ⟨h1, h2⟩ => ⟨.inr h1, h2⟩
      · rintro ⟨rfl | h1, h2, h3⟩
        · rw [h2, h3] at h; cases h
        · exact ⟨h1, h2, h3⟩
    · rw [Bool.and_eq_true, Bool.not_eq_true'] at h
      constructor
      · rintro (rfl | ⟨h1, h2⟩)
        · exact ⟨.inl rfl, h⟩
        · exact ⟨.inr h1, h2⟩
      · rintro ⟨rfl | h1, h2⟩
        · exact .inl rfl
        · exact .inr ⟨h1, h2⟩
/-- Every operation waits on operations alone. -/
def waitsOk (ops : Array Oper) : Bool := ops.toList.all fun o => o.after.toList.all fun e => Nat.blt e.on ops.size
theorem ready_iff {ops : Array Oper} (hw : waitsOk ops = true) {ls i : Nat} : i ∈ Region.ready .any ops (arrOf ops.size ls) ↔ ∃ y ∈ readyM ls (tabOf ops), y.i = i := by
  have wait : ∀ (o : Oper), o ∈ ops → ∀ e ∈ o.after, e.on < ops.size := by
    intro o ho e he
    rw [waitsOk, List.all_eq_true] at hw
    have := hw o (by simpa using ho)
    rw [List.all_eq_true] at this
    simpa using this e (by simpa using he)
  have deps : ∀ (j : Nat) (o : Oper), o ∈ ops → ((∀ e ∈ o.after, Region.binds .any e = true → (arrOf ops.size ls).getD e.on false = true) ↔ subB (opI ops j o).deps ls = true) := by
    intro j o ho
    rw [subB_iff]
    simp only [opI, bit_bitsOf, List.mem_map, List.mem_filter]
    constructor
    · rintro h k ⟨e, ⟨he, hb⟩, rfl⟩
      have := h e (by simpa using he) hb
      rw [arrOf_getD, if_pos (wait o ho e (by simpa using he))] at this
      exact this
    · intro h e he hb
      rw [arrOf_getD, if_pos (wait o ho e he)]
      exact h _ ⟨e, ⟨by simpa using he, hb⟩, rfl⟩
  rw [mem_ready]
  constructor
  · rintro ⟨h1, o, ho, h2⟩
    have hlt : i < ops.size := (Array.getElem?_eq_some_iff.1 ho).1
    have hm : o ∈ ops := Array.mem_of_getElem? ho
    rw [arrOf_getD, if_pos hlt] at h1
    exact ⟨_, readyM_mem.2 ⟨tabOf_mem.2 ⟨i, o, ho, rfl⟩, h1, (deps i o hm).1 h2⟩, rfl⟩
  · rintro ⟨y, hy, rfl⟩
    obtain ⟨h1, h2, h3⟩ := readyM_mem.1 hy
    obtain ⟨j, o, ho, rfl⟩ := tabOf_mem.1 h1
    have hlt : j < ops.size := (Array.getElem?_eq_some_iff.1 ho).1
    have hm : o ∈ ops := Array.mem_of_getElem? ho
    refine ⟨by rw [arrOf_getD, if_pos hlt]; exact h2, o, ho, (deps j o hm).2 h3⟩
theorem badOf_mem {x y : OpI} : ∀ {l : List OpI}, y ∈ l → ¬ (y.i = x.i) → bit y.deps x.i = false → apartI x y = false → y.i ∈ badOf x l := by
  intro l
  induction l with
  | nil => intro h; cases h
  | cons z r ih =>
    intro h h1 h2 h3
    simp only [badOf]
    rcases List.mem_cons.1 h with rfl | h
    · have : Nat.beq y.i x.i = false := nbeq_f h1
      rw [this, h2, h3]
      exact List.mem_cons_self
    · cases Nat.beq z.i x.i || bit z.deps x.i || apartI x z <;> simp only [cond_true, cond_false]
      · exact List.mem_cons_of_mem _ (ih h h1 h2 h3)
      · exact ih h h1 h2 h3
theorem free_of {ops : Array Oper} {ls : Nat} {y : OpJ} (hy : y ∈ tabOf ops) (h : subB y.bad ls = true) : Region.free .any ops (arrOf ops.size ls) y.i = true := by
  obtain ⟨i, oi, hi, rfl⟩ := tabOf_mem.1 hy
  simp only [Region.free, hi, List.all_eq_true, List.mem_range]
  intro j hj
  have hoj : ops[j]? = some ops[j] := Array.getElem?_eq_getElem hj
  simp only [hoj, Bool.or_eq_true, beq_iff_eq]
  by_cases hji : j = i
  · exact .inl (.inl hji)
  by_cases hl : bit ls j = true
  · exact .inl (.inr (by rw [arrOf_getD, if_pos hj]; exact hl))
  right
  by_cases hd : bit (opI ops j ops[j]).deps i = true
  · left
    simp only [opI, bit_bitsOf, List.mem_map, List.mem_filter] at hd
    obtain ⟨e, ⟨he, hb⟩, h1⟩ := hd
    rw [Array.any_eq_true']
    exact ⟨e, by simpa using he, by simp [hb, h1]⟩
  · right
    cases ha : apartI (opI ops i oi) (opI ops j ops[j])
    · have := badOf_mem (x := opI ops i oi) (y := opI ops j ops[j]) (l := opIs ops ops.toList 0) (opIs_ops.2 ⟨j, _, hoj, rfl⟩) hji (by rw [Bool.not_eq_true] at hd; exact hd) ha
      exact absurd (subB_iff.1 h _ (bit_bitsOf.2 this)) hl
    · exact apartI_ok ha
/-- The order of the text is one that may be, and each may be taken first. -/
def lexM (all : List OpJ) : List OpJ → Nat → Bool
  | [], ls => match readyM ls all with | [] => true | _ => false
  | y :: r, ls => !(bit ls y.i) && subB y.deps ls && subB y.bad ls && lexM all r (setBit ls y.i)
def nums : List OpJ → Nat → Bool
  | [], _ => true
  | y :: r, k => Nat.beq y.i k && nums r (k + 1)
theorem lexM_ok {ops : Array Oper} (hw : waitsOk ops = true) : ∀ {l : List OpJ} {k ls : Nat}, lexM (tabOf ops) l ls = true → nums l k = true → (∀ y ∈ l, y ∈ tabOf ops) → Region.lexFrom .any ops l.length k (arrOf ops.size ls) = true := by
  intro l
  induction l with
  | nil =>
    intro k ls h _ _
    simp only [List.length_nil, Region.lexFrom, List.isEmpty_iff]
    rw [List.eq_nil_iff_forall_not_mem]
    intro i hi
    obtain ⟨y, hy, _⟩ := (ready_iff hw).1 hi
    simp only [lexM] at h
    split at h
    · rename_i he; rw [he] at hy; cases hy
    · cases h
  | cons y r ih =>
    intro k ls h hn hm
    simp only [lexM, Bool.and_eq_true, Bool.not_eq_true'] at h
    obtain ⟨⟨⟨h1, h2⟩, h3⟩, h4⟩ := h
    simp only [nums, Bool.and_eq_true] at hn
    have hk := Nat.eq_of_beq_eq_true hn.1
    subst hk
    have hy := hm y List.mem_cons_self
    simp only [List.length_cons, Region.lexFrom, Bool.and_eq_true]
    refine ⟨⟨?_, free_of hy h3⟩, ?_⟩
    · rw [List.contains_iff_mem]
      exact (ready_iff hw).2 ⟨y, readyM_mem.2 ⟨hy, h1, h2⟩, rfl⟩
    · rw [← arrOf_set]
      exact ih h4 hn.2 fun z hz => hm z (List.mem_cons_of_mem _ hz)
theorem opIs_len {ops : Array Oper} : ∀ {l : List Oper} {i : Nat}, (opIs ops l i).length = l.length := by
  intro l
  induction l with
  | nil => intro i; rfl
  | cons o r ih => intro i; simp [opIs, ih]
theorem opJs_len {all : List OpI} : ∀ {l : List OpI}, (opJs all l).length = l.length := by
  intro l
  induction l with
  | nil => rfl
  | cons o r ih => simp [opJs, ih]
theorem tabOf_len {ops : Array Oper} : (tabOf ops).length = ops.size := by
  unfold tabOf; rw [opJs_len, opIs_len, Array.length_toList]
theorem arrOf_zero {n : Nat} : arrOf n 0 = Array.replicate n false := by
  apply Array.ext
  · simp [arrOf]
  · intro i h1 h2
    simp only [arrOf, Array.getElem_map, Array.getElem_replicate, bit_eq, Nat.zero_testBit]
end Go.Sy
namespace Go.Sy
/-! letters given their meanings -/
def setX (E : Env) (i cnt : Nat) (f : Nat → Arg) : Env := { E with x := fun j => if i ≤ j ∧ j < i + cnt then f (j - i) else E.x j }
def Df.ext (E : Env) : Df → Env
  | .one i t => setX E i 1 fun _ => t.me E
  | .call i g args cnt => setX E i cnt fun k => ((E.F g (args.map (T.me E)))[k]?).getD default
/-- (the newest stands first) -/
def extL (E : Env) : List Df → Env
  | [] => E
  | d :: r => d.ext (extL E r)
def Df.lo : Df → Nat
  | .one i _ => i
  | .call i _ _ _ => i
def Df.hi : Df → Nat
  | .one i _ => i + 1
  | .call i _ _ cnt => i + cnt
def Df.args : Df → List T
  | .one _ t => [t]
  | .call _ _ args _ => args
/-- In order: each speaks of letters below its own alone, those behind are below. -/
def ordered (n : Nat) : List Df → Bool
  | [] => true
  | d :: r => Nat.ble n d.lo && d.args.all (·.bel d.lo) && r.all (fun e => Nat.ble e.hi d.lo) && ordered n r
theorem ext_agree [Fs] (E : Env) (d : Df) : Agree E (d.ext E) d.lo := by
  cases d with
  | one i t => exact ⟨rfl, fun j hj => by simp only [Df.ext, setX]; rw [if_neg (by simp only [Df.lo] at hj; omega)]⟩
  | call i g args cnt => exact ⟨rfl, fun j hj => by simp only [Df.ext, setX]; rw [if_neg (by simp only [Df.lo] at hj; omega)]⟩
theorem ext_above [Fs] (E : Env) (d : Df) {j : Nat} (hj : d.hi ≤ j) : (d.ext E).x j = E.x j := by
  cases d with
  | one i t => simp only [Df.ext, setX]; rw [if_neg (by simp only [Df.hi] at hj; omega)]
  | call i g args cnt => simp only [Df.ext, setX]; rw [if_neg (by simp only [Df.hi] at hj; omega)]
theorem ext_ok [Fs] {E : Env} {d : Df} (h : d.args.all (·.bel d.lo) = true) : d.ok (d.ext E) := by
  have ha := ext_agree E d
  rw [List.all_eq_true] at h
  cases d with
  | one i t =>
    have := T.bel_me ha (h t List.mem_cons_self)
    simp only [Df.ok, this]
    simp [Df.ext, setX]
  | call i g args cnt =>
    intro k hk
    have e : args.map (T.me ((Df.call i g args cnt).ext E)) = args.map (T.me E) := List.map_congr_left fun t ht => T.bel_me ha (h t ht)
    rw [e, ha.F]
    simp only [Df.ext, setX]
    rw [if_pos (by omega), show i + k - i = k by omega]
theorem extL_ok [Fs] {E : Env} {n : Nat} : ∀ {l : List Df}, ordered n l = true → Agree E (extL E l) n ∧ (∀ d ∈ l, d.ok (extL E l)) ∧ ∀ j, (∀ d ∈ l, d.hi ≤ j) → (extL E l).x j = E.x j := by
  intro l
  induction l with
  | nil => intro _; exact ⟨Agree.refl _ _, fun d hd => (nomatch hd), fun j _ => rfl⟩
  | cons d r ih =>
    intro h
    simp only [ordered, Bool.and_eq_true, Nat.ble_eq] at h
    obtain ⟨⟨⟨h1, h2⟩, h3⟩, h4⟩ := h
    obtain ⟨g1, g2, g3⟩ := ih h4
    have ha := ext_agree (extL E r) d
    refine ⟨g1.trans (ha.mono h1) (Nat.le_refl _), fun e he => ?_, fun j hj => ?_⟩
    · rcases List.mem_cons.1 he with rfl | he
      · exact ext_ok h2
      · rw [List.all_eq_true] at h3
        have hhi := h3 e he
        rw [Nat.ble_eq] at hhi
        -- 'e' speaks of letters below 'd' alone
        have hb : e.bel d.lo = true := by
          have hord : ∀ {l : List Df}, ordered n l = true → ∀ e ∈ l, e.args.all (·.bel e.lo) = true := by
            intro l
            induction l with
            | nil => intro _ e he; cases he
            | cons d l ih =>
              intro h e he
              simp only [ordered, Bool.and_eq_true] at h
              rcases List.mem_cons.1 he with rfl | he
              · exact h.1.1.2
              · exact ih h.2 e he
          have hbel : ∀ (t : T) {a b : Nat}, a ≤ b → t.bel a = true → t.bel b = true := by
            intro t a b hab
            induction t with
            | lit => intro _; rfl
            | v i lo hi => simp only [T.bel, Nat.blt_eq]; omega
            | un o x ih => exact ih
            | bin o x y ihx ihy => simp only [T.bel, Bool.and_eq_true]; exact fun ⟨p, q⟩ => ⟨ihx p, ihy q⟩
            | ite c x y ihc ihx ihy => simp only [T.bel, Bool.and_eq_true]; exact fun ⟨⟨o, p⟩, q⟩ => ⟨⟨ihc o, ihx p⟩, ihy q⟩
            | sel s i ihs ihi => simp only [T.bel, Bool.and_eq_true]; exact fun ⟨p, q⟩ => ⟨ihs p, ihi q⟩
            | upd s i x ihs ihi ihx => simp only [T.bel, Bool.and_eq_true]; exact fun ⟨⟨o, p⟩, q⟩ => ⟨⟨ihs o, ihi p⟩, ihx q⟩
            | sh s o ihs iho => simp only [T.bel, Bool.and_eq_true]; exact fun ⟨p, q⟩ => ⟨ihs p, iho q⟩
            | blit d o k s ihd iho ihk ihs => simp only [T.bel, Bool.and_eq_true]; exact fun ⟨⟨⟨m, o⟩, p⟩, q⟩ => ⟨⟨⟨ihd m, iho o⟩, ihk p⟩, ihs q⟩
            | eqr k x y ihk ihx ihy => simp only [T.bel, Bool.and_eq_true]; exact fun ⟨⟨o, p⟩, q⟩ => ⟨⟨ihk o, ihx p⟩, ihy q⟩
          have hargs := hord h4 e he
          rw [List.all_eq_true] at hargs
          cases e with
          | one i t =>
            simp only [Df.hi] at hhi
            simp only [Df.bel, Bool.and_eq_true, Nat.blt_eq]
            exact ⟨by omega, hbel t (show i ≤ d.lo by omega) (hargs t List.mem_cons_self)⟩
          | call i g args cnt =>
            simp only [Df.hi] at hhi
            simp only [Df.bel, Bool.and_eq_true, Nat.ble_eq, List.all_eq_true]
            exact ⟨hhi, fun t ht => hbel t (show i ≤ d.lo by omega) (hargs t ht)⟩
        exact Df.ok_agree ha hb (g2 e he)
    · simp only [extL]
      rw [ext_above _ _ (hj d List.mem_cons_self)]
      exact g3 j fun e he => hj e (List.mem_cons_of_mem _ he)
/-- What came up besides. -/
def newOf {α : Type} (l B : List α) : List α := l.take (l.length - B.length)
def oldOf {α : Type} (l B : List α) : List α := l.drop (l.length - B.length)
theorem new_old [Fs] {α : Type} (l B : List α) : newOf l B ++ oldOf l B = l := List.take_append_drop _ _
end Go.Sy
namespace Go.Sy
/-! what only reads, or makes a block: it may be left for later -/
def calmOp : Op → Bool
  | .load _ _ | .alloc _ | .move _ | .assign _ => true
  | _ => false
theorem loadVar_looks [Fs] (t : TypeId) (a : Addr) : (loadVar t a).Looks := by
  unfold loadVar isAgg
  refine Sem.Looks.bind (Sem.Looks.bind (underlying_looks t) fun d => by cases d <;> exact pure_looks _) fun b => ?_
  cases b
  · exact load_looks _ _
  · exact Sem.Looks.bind (sizeOf_looks t) fun n => Sem.Looks.bind (loadCells_looks _ _) fun _ => pure_looks _
theorem loadAt_looks [Fs] (t : TypeId) (v : Value) : (Instr.loadAt t v).Looks := by
  unfold Instr.loadAt
  refine Sem.Looks.bind ?_ fun a => loadVar_looks t a
  unfold Instr.sureAddr
  split
  · exact pure_looks _
  · exact stuck_looks _
theorem zeroValue_looks [Fs] (t : TypeId) : (zeroValue t).Looks := by
  unfold zeroValue
  refine Sem.Looks.bind (typeInfo_looks t) fun i => ?_
  split <;> first | exact pure_looks _ | exact stuck_looks _ | exact unsupported_looks _
theorem heap_alloc_old' [Fs] (w : World) (o : Obj) {r : Nat} (h : r < w.heap.size) : (w.alloc o).heap[r]? = w.heap[r]? := by
  unfold World.alloc
  simp [Array.getElem?_push, Nat.ne_of_lt h]
theorem calm_keeps [Fs] {P : Program} {o : Oper} (h : calmOp o.op = true) {ρ : Operand → Value} {w w' : World} {n : Next} (hr : (execOp ρ o).run P w = .ok n w') : (∃ v, n = .value v) ∧ Keeps w w' := by
  unfold calmOp at h
  split at h
  · rename_i t x ho
    simp only [execOp, ho, Sem.run_bind] at hr
    cases hq : (Instr.loadAt t (ρ x)).run P w with
    | ok v w1 =>
      rw [hq] at hr
      simp at hr
      obtain ⟨rfl, rfl⟩ := hr
      rw [(loadAt_looks t (ρ x)).ok hq]
      exact ⟨⟨v, rfl⟩, Keeps.refl w⟩
    | halt x w1 => rw [hq] at hr; cases hr
  · rename_i e ho
    simp only [execOp, ho, Instr.alloc, Sem.run_bind] at hr
    cases hq : (zeroValue e).run P w with
    | ok v w1 =>
      rw [hq] at hr
      simp [newVar, newRow] at hr
      obtain ⟨rfl, rfl⟩ := hr
      rw [(zeroValue_looks e).ok hq]
      refine ⟨⟨_, rfl⟩, fun k hk => ?_⟩
      exact heap_alloc_old' w _ hk
    | halt x w1 => rw [hq] at hr; cases hr
  · rename_i x ho
    simp [execOp, ho] at hr
    obtain ⟨rfl, rfl⟩ := hr
    exact ⟨⟨_, rfl⟩, Keeps.refl w⟩
  · rename_i x ho
    simp [execOp, ho] at hr
    obtain ⟨rfl, rfl⟩ := hr
    exact ⟨⟨_, rfl⟩, Keeps.refl w⟩
  · cases h
theorem Keeps.trans [Fs] {w1 w2 w3 : World} (h : Keeps w1 w2) (h' : Keeps w2 w3) (hl : w1.heap.size ≤ w2.heap.size) : Keeps w1 w3 := fun k hk => (h' k (Nat.lt_of_lt_of_le hk hl)).trans (h k hk)
section
variable {P : Program} {ops : Array Oper} {md : Region.Mode} {Q : Exit → Act → World → Prop}
theorem Keeps.size [Fs] {w w' : World} (h : Keeps w w') : w.heap.size ≤ w'.heap.size := by
  rcases Nat.eq_zero_or_pos w.heap.size with h0 | h0
  · omega
  · have := h (w.heap.size - 1) (by omega)
    rw [Array.getElem?_eq_getElem (by omega : w.heap.size - 1 < w.heap.size)] at this
    have := (Array.getElem?_eq_some_iff.1 this).1
    omega
theorem wpOp_calm [Fs] {j : Nat} {oj : Oper} (hj : ops[j]? = some oj) (hc : calmOp oj.op = true) {K : Act → World → Prop} {a : Act} {w : World} (h : wpOp P ops Q j K a w) : wpOp P ops Q j (fun a' w' => Keeps w w' ∧ K a' w') a w := by
  unfold wpOp at *
  simp only [hj] at *
  split
  · rename_i hw
    rw [if_pos hw] at h
    rcases h with h | h
    · left
      unfold Oper.wp at *
      generalize hr : (execOp a.eval oj).run P w = r at *
      cases r with
      | ok n w1 =>
        obtain ⟨⟨v, rfl⟩, hk⟩ := calm_keeps hc hr
        exact ⟨hk, h⟩
      | halt x w1 => cases x <;> exact h
    · exact .inr h
  · rename_i hw
    rw [if_neg hw] at h
    exact ⟨Keeps.refl w, h⟩
theorem wpAny_calm [Fs] {i : Nat} {oi : Oper} {v : Value} {w0 : World} {W : Nat → Prop} (hW : ∀ j oj, ops[j]? = some oj → W j → ∃ e ∈ oj.after, Region.binds md e = true ∧ (e.on = i ∨ W e.on)) (hi : ops[i]? = some oi) (hsel : ∀ (j : Nat) (o : Oper) cs b, ops[j]? = some o → o.op ≠ .select cs b)
    (hQ : ∀ c a w, Q (.panic c) (a.put oi.dst v) w → Q (.panic c) a w) :
    ∀ (fuel : Nat) (listed : Array Bool) (a : Act) (w : World),
      (∀ j oj, ops[j]? = some oj → j ≠ i → listed.getD j true = false → (∀ e ∈ oj.after, Region.binds md e = true → e.on ≠ i) → ¬ W j → oi.apart ops oj = true ∧ calmOp oj.op = true) → (∀ j, W j → listed.getD j false = false) →
      i ∈ Region.ready md ops listed → YieldsIf P ops (Keeps w0) oi v a → Keeps w0 w →
      wpAny P md ops Q fuel (listed.setIfInBounds i true) (a.put oi.dst v) w → wpAny P md ops Q (fuel + 1) listed a w := by
  intro fuel
  induction fuel with
  | zero =>
    intro listed a w _ _ hr hy hS H
    refine ⟨fun h => (by rw [h] at hr; cases hr), fun j hj => ?_⟩
    by_cases hji : j = i
    · subst hji; exact hy.wpOp hi hS H
    · have := ready_mono hj hji
      rw [H.1] at this
      cases this
  | succ fuel ih =>
    intro listed a w hfree hL hr hy hS H
    refine ⟨fun h => (by rw [h] at hr; cases hr), fun j hj => ?_⟩
    by_cases hji : j = i
    · subst hji; exact hy.wpOp hi hS H
    · have h1 := H.2 j (ready_mono hj hji)
      obtain ⟨hjun, oj, hoj, hall⟩ := mem_ready.1 hj
      have hnot : ∀ e ∈ oj.after, Region.binds md e = true → e.on ≠ i := fun e he hb heq => by
        have h1 := hall e he hb
        have h0 := (mem_ready.1 hr).1
        rw [heq] at h1
        rcases Nat.lt_or_ge i listed.size with h' | h'
        · simp [h'] at h0 h1; rw [h0] at h1; cases h1
        · simp [Array.getElem?_eq_none h'] at h1
      have hnw : ¬ W j := fun hwj => by
        obtain ⟨e, he, hb, h2⟩ := hW j oj hoj hwj
        rcases h2 with h2 | h2
        · exact hnot e he hb h2
        · have h3 := hall e he hb
          rw [hL _ h2] at h3
          cases h3
      have h2 := wpOp_calm hoj (hfree j oj hoj hji hjun hnot hnw).2 (wpOp_putIf hoj (hfree j oj hoj hji hjun hnot hnw).1 (fun cs b => hsel i oi cs b hi) (fun cs b => hsel j oj cs b hoj) hQ hy h1)
      have hfree' : ∀ k ok, ops[k]? = some ok → k ≠ i → (listed.setIfInBounds j true).getD k true = false →
          (∀ e ∈ ok.after, Region.binds md e = true → e.on ≠ i) → ¬ W k → oi.apart ops ok = true ∧ calmOp ok.op = true := fun k ok hk hki hun hno hkw => by
        refine hfree k ok hk hki ?_ hno hkw
        by_cases hjk : j = k
        · subst hjk; exact hjun
        · rw [getD_set_ne true hjk] at hun; exact hun
      refine wpOp_mono (fun a' w' h3 => ih (listed.setIfInBounds j true) a' w' hfree' (fun k hk => by
        have hjk : ¬ j = k := by intro he; subst he; exact hnw hk
        rw [getD_set_ne false hjk]; exact hL k hk) (ready_mono hr (Ne.symm hji)) h3.2.1 (hS.trans h3.1 hS.size) ?_) h2
      rw [Array.setIfInBounds_comm _ _ hji]
      exact h3.2.2
end
end Go.Sy
