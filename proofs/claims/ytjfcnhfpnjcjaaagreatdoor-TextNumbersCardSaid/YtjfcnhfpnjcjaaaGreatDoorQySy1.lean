/- Part Sy1 of a checked reader of Go texts in their model form: it runs a function at terms in the place of numbers, and each part proves that its answers hold of the model. -/
import Derived.WalkKit
import Derived.LoopN
namespace Go.Sy

inductive O1 where
  | wrap (k : IntKind)
  | not
  | cl (lo hi : Int)
  deriving DecidableEq
inductive O2 where
  | add | sub | mul | tdiv | tmod | eq | lt | le | and | or
  | band (k : IntKind) | bor (k : IntKind) | bxor (k : IntKind) | bandn (k : IntKind) | shl (k : IntKind) | shr (k : IntKind)
  deriving DecidableEq

/-- Terms: whole numbers, and rows of them; a truth is 1 or 0. 'v' bears its range. -/
inductive T where
  | lit (n : Int)
  | v (i : Nat) (lo hi : Int)
  | un (o : O1) (a : T)
  | bin (o : O2) (a b : T)
  | ite (c a b : T)
  | sel (s i : T)
  | upd (s i x : T)
  | sh (s o : T)
  | blit (d o n s : T)
  | eqr (n a b : T)

/-- What a term means: a number, a row. -/
structure Arg where
  n : Int
  s : Int → Int
instance : Inhabited Arg := ⟨⟨0, fun _ => 0⟩⟩

structure Env where
  x : Nat → Arg
  F : Nat → List Arg → List Arg
  V : Nat → Value := fun _ => .nilIface

def tb (b : Bool) : Int := cond b 1 0
def clamp (lo hi n : Int) : Int := if n < lo then lo else if hi < n then hi else n

/-- Comparisons as truths (no instance inside). -/
def ltb (a b : Int) : Bool := decide (a < b)
def leb (a b : Int) : Bool := decide (a ≤ b)
theorem ltb_t {a b : Int} : (ltb a b = true) = (a < b) := by simp [ltb]
theorem ltb_f {a b : Int} : (ltb a b = false) = (b ≤ a) := by simp [ltb]
theorem leb_t {a b : Int} : (leb a b = true) = (a ≤ b) := by simp [leb]
theorem leb_f {a b : Int} : (leb a b = false) = (b < a) := by simp [leb]
def O1.den : O1 → Int → Int
  | .wrap k, a => k.wrap a
  | .not, a => tb (a == 0)
  | .cl lo hi, a => clamp lo hi a
def O2.den : O2 → Int → Int → Int
  | .add, a, b => a + b
  | .sub, a, b => a - b
  | .mul, a, b => a * b
  | .tdiv, a, b => a.tdiv b
  | .tmod, a, b => a.tmod b
  | .eq, a, b => tb (a == b)
  | .lt, a, b => tb (ltb a b)
  | .le, a, b => tb (leb a b)
  | .and, a, b => tb (a != 0 && b != 0)
  | .or, a, b => tb (a != 0 || b != 0)
  | .band k, a, b => k.wrap (BitVec.ofInt k.bits a &&& BitVec.ofInt k.bits b).toNat
  | .bor k, a, b => k.wrap (BitVec.ofInt k.bits a ||| BitVec.ofInt k.bits b).toNat
  | .bxor k, a, b => k.wrap (BitVec.ofInt k.bits a ^^^ BitVec.ofInt k.bits b).toNat
  | .bandn k, a, b => k.wrap (BitVec.ofInt k.bits a &&& ~~~BitVec.ofInt k.bits b).toNat
  | .shl k, a, b => k.wrap (a * 2 ^ (min b.toNat k.bits))
  | .shr k, a, b => a.fdiv (2 ^ (min b.toNat k.bits))

/-- Are two rows alike below a number? -/
def eqRow (a b : Int → Int) : Nat → Bool
  | 0 => true
  | n + 1 => a n == b n && eqRow a b n
theorem eqRow_iff {a b : Int → Int} : ∀ {n : Nat}, eqRow a b n = true ↔ ∀ i : Nat, i < n → a i = b i := by
  intro n
  induction n with
  | zero => simp [eqRow]
  | succ n ih =>
    simp only [eqRow, Bool.and_eq_true, beq_iff_eq, ih]
    exact ⟨fun ⟨h1, h2⟩ i hi => by rcases Nat.lt_succ_iff_lt_or_eq.1 hi with h | rfl; exact h2 i h; exact h1, fun h => ⟨h n (Nat.lt_succ_self n), fun i hi => h i (Nat.lt_succ_of_lt hi)⟩⟩
mutual
def T.den (E : Env) : T → Int
  | .lit n => n
  | .v i lo hi => clamp lo hi (E.x i).n
  | .un o a => o.den (a.den E)
  | .bin o a b => o.den (a.den E) (b.den E)
  | .ite c a b => if c.den E = 0 then b.den E else a.den E
  | .sel s i => s.row E (i.den E)
  | .upd _ _ _ => 0
  | .sh _ _ => 0
  | .blit _ _ _ _ => 0
  | .eqr n a b => tb (eqRow (a.row E) (b.row E) (n.den E).toNat)
def T.row (E : Env) : T → Int → Int
  | .lit n, _ => n
  | .v i lo hi, j => clamp lo hi ((E.x i).s j)
  | .un (.cl lo hi) a, j => clamp lo hi (a.row E j)
  | .un (.wrap k) a, _ => k.wrap (a.den E)
  | .un .not a, _ => tb (a.den E == 0)
  | .bin o a b, _ => o.den (a.den E) (b.den E)
  | .ite c a b, j => if c.den E = 0 then b.row E j else a.row E j
  | .sel s i, _ => s.row E (i.den E)
  | .upd s i x, j => if j = i.den E then x.den E else s.row E j
  | .sh s o, j => s.row E (j + o.den E)
  | .blit d o n s, j => if o.den E ≤ j ∧ j < o.den E + n.den E then s.row E (j - o.den E) else d.row E j
  | .eqr n a b, _ => tb (eqRow (a.row E) (b.row E) (n.den E).toNat)
end
def T.me (E : Env) (t : T) : Arg := ⟨t.den E, t.row E⟩

/-- The truth of a term. -/
def T.tr (E : Env) (t : T) : Bool := t.den E != 0

def T.beq : T → T → Bool
  | .lit a, .lit b => a == b
  | .v i a b, .v j c d => i == j && a == c && b == d
  | .un o a, .un o' a' => decide (o = o') && a.beq a'
  | .bin o a b, .bin o' a' b' => decide (o = o') && a.beq a' && b.beq b'
  | .ite c a b, .ite c' a' b' => c.beq c' && a.beq a' && b.beq b'
  | .sel s i, .sel s' i' => i.beq i' && s.beq s'
  | .upd s i x, .upd s' i' x' => i.beq i' && x.beq x' && s.beq s'
  | .sh s o, .sh s' o' => o.beq o' && s.beq s'
  | .blit d o n s, .blit d' o' n' s' => o.beq o' && n.beq n' && s.beq s' && d.beq d'
  | .eqr n a b, .eqr n' a' b' => n.beq n' && a.beq a' && b.beq b'
  | _, _ => false

theorem T.beq_eq {a : T} : ∀ {b : T}, a.beq b = true → a = b := by
  induction a with
  | lit n => intro b h; cases b <;> simp [T.beq] at h; subst h; rfl
  | v i lo hi => intro b h; cases b <;> simp [T.beq] at h; obtain ⟨⟨rfl, rfl⟩, rfl⟩ := h; rfl
  | un o a ih => intro b h; cases b <;> simp [T.beq] at h; obtain ⟨rfl, h⟩ := h; rw [ih h]
  | bin o a b iha ihb => intro b h; cases b <;> simp [T.beq] at h; obtain ⟨⟨rfl, h⟩, h'⟩ := h; rw [iha h, ihb h']
  | ite c a b ihc iha ihb => intro b h; cases b <;> simp [T.beq] at h; obtain ⟨⟨h0, h⟩, h'⟩ := h; rw [ihc h0, iha h, ihb h']
  | sel s i ihs ihi => intro b h; cases b <;> simp [T.beq] at h; rw [ihi h.1, ihs h.2]
  | upd s i x ihs ihi ihx => intro b h; cases b <;> simp [T.beq] at h; rw [ihi h.1.1, ihx h.1.2, ihs h.2]
  | sh s o ihs iho => intro b h; cases b <;> simp [T.beq] at h; rw [iho h.1, ihs h.2]
  | blit d o n s ihd iho ihn ihs => intro b h; cases b <;> simp [T.beq] at h; rw [iho h.1.1.1, ihn h.1.1.2, ihs h.1.2, ihd h.2]
  | eqr n a b ihn iha ihb => intro b h; cases b <;> simp [T.beq] at h; rw [ihn h.1.1, iha h.1.2, ihb h.2]

@[simp] theorem tb_true : tb true = 1 := rfl
@[simp] theorem tb_false : tb false = 0 := rfl
theorem tb_cases (b : Bool) : (b = true ∧ tb b = 1) ∨ (b = false ∧ tb b = 0) := by cases b <;> simp
theorem tb_ne (b : Bool) : (tb b != 0) = b := by cases b <;> rfl
theorem tb_eq0 (b : Bool) : (tb b == 0) = !b := by cases b <;> rfl
theorem tb_range (b : Bool) : 0 ≤ tb b ∧ tb b ≤ 1 := by cases b <;> simp

/-! ranges -/
structure Iv where
  lo : Option Int
  hi : Option Int

def Iv.has (r : Iv) (n : Int) : Prop := (∀ l, r.lo = some l → l ≤ n) ∧ (∀ h, r.hi = some h → n ≤ h)
def Iv.top : Iv := ⟨none, none⟩
theorem Iv.top_has (n : Int) : Iv.top.has n := by
  refine ⟨?_, ?_⟩ <;> intro _ h <;> simp [Iv.top] at h
def Iv.mk2 (a b : Int) : Iv := ⟨some a, some b⟩
theorem Iv.mk2_has {a b n : Int} (h : a ≤ n ∧ n ≤ b) : (Iv.mk2 a b).has n :=
  ⟨fun l hl => by simp [Iv.mk2] at hl; omega, fun l hl => by simp [Iv.mk2] at hl; omega⟩
def optMax : Option Int → Option Int → Option Int
  | some a, some b => some (if a ≤ b then b else a)
  | some a, none => some a
  | none, x => x
def optMin : Option Int → Option Int → Option Int
  | some a, some b => some (if a ≤ b then a else b)
  | some a, none => some a
  | none, x => x
def Iv.meet (r s : Iv) : Iv := ⟨optMax r.lo s.lo, optMin r.hi s.hi⟩
theorem Iv.meet_has {r s : Iv} {n : Int} (hr : r.has n) (hs : s.has n) : (r.meet s).has n := by
  obtain ⟨r1, r2⟩ := hr
  obtain ⟨s1, s2⟩ := hs
  refine ⟨fun l hl => ?_, fun l hl => ?_⟩
  · simp only [Iv.meet] at hl
    cases h1 : r.lo <;> cases h2 : s.lo <;> simp only [h1, h2, optMax] at hl
    · cases hl
    · exact s1 _ (h2.trans hl)
    · exact r1 _ (h1.trans hl)
    · have := r1 _ h1; have := s1 _ h2
      simp only [Option.some.injEq] at hl
      split at hl <;> omega
  · simp only [Iv.meet] at hl
    cases h1 : r.hi <;> cases h2 : s.hi <;> simp only [h1, h2, optMin] at hl
    · cases hl
    · exact s2 _ (h2.trans hl)
    · exact r2 _ (h1.trans hl)
    · have := r2 _ h1; have := s2 _ h2
      simp only [Option.some.injEq] at hl
      split at hl <;> omega
def Iv.join (r s : Iv) : Iv :=
  ⟨match r.lo, s.lo with | some a, some b => some (if a ≤ b then a else b) | _, _ => none, match r.hi, s.hi with | some a, some b => some (if a ≤ b then b else a) | _, _ => none⟩
theorem Iv.join_has {r s : Iv} {n : Int} (h : r.has n ∨ s.has n) : (r.join s).has n := by
  refine ⟨fun l hl => ?_, fun l hl => ?_⟩
  · simp only [Iv.join] at hl
    cases h1 : r.lo <;> cases h2 : s.lo <;> simp only [h1, h2] at hl <;> try (cases hl; done)
    simp only [Option.some.injEq] at hl
    rcases h with h | h
    · have := h.1 _ h1; split at hl <;> omega
    · have := h.1 _ h2; split at hl <;> omega
  · simp only [Iv.join] at hl
    cases h1 : r.hi <;> cases h2 : s.hi <;> simp only [h1, h2] at hl <;> try (cases hl; done)
    simp only [Option.some.injEq] at hl
    rcases h with h | h
    · have := h.2 _ h1; split at hl <;> omega
    · have := h.2 _ h2; split at hl <;> omega

def Iv.add (r s : Iv) : Iv :=
  ⟨match r.lo, s.lo with | some a, some b => some (a + b) | _, _ => none, match r.hi, s.hi with | some a, some b => some (a + b) | _, _ => none⟩
theorem Iv.add_has {r s : Iv} {n m : Int} (hr : r.has n) (hs : s.has m) : (r.add s).has (n + m) := by
  refine ⟨fun l hl => ?_, fun l hl => ?_⟩
  · simp only [Iv.add] at hl
    cases h1 : r.lo <;> cases h2 : s.lo <;> simp only [h1, h2] at hl <;> try (cases hl; done)
    simp only [Option.some.injEq] at hl
    have := hr.1 _ h1; have := hs.1 _ h2; omega
  · simp only [Iv.add] at hl
    cases h1 : r.hi <;> cases h2 : s.hi <;> simp only [h1, h2] at hl <;> try (cases hl; done)
    simp only [Option.some.injEq] at hl
    have := hr.2 _ h1; have := hs.2 _ h2; omega
def Iv.sub (r s : Iv) : Iv :=
  ⟨match r.lo, s.hi with | some a, some b => some (a - b) | _, _ => none, match r.hi, s.lo with | some a, some b => some (a - b) | _, _ => none⟩
theorem Iv.sub_has {r s : Iv} {n m : Int} (hr : r.has n) (hs : s.has m) : (r.sub s).has (n - m) := by
  refine ⟨fun l hl => ?_, fun l hl => ?_⟩
  · simp only [Iv.sub] at hl
    cases h1 : r.lo <;> cases h2 : s.hi <;> simp only [h1, h2] at hl <;> try (cases hl; done)
    simp only [Option.some.injEq] at hl
    have := hr.1 _ h1; have := hs.2 _ h2; omega
  · simp only [Iv.sub] at hl
    cases h1 : r.hi <;> cases h2 : s.lo <;> simp only [h1, h2] at hl <;> try (cases hl; done)
    simp only [Option.some.injEq] at hl
    have := hr.2 _ h1; have := hs.1 _ h2; omega
/-- Is 0 a lower bound? -/
def Iv.nneg (r : Iv) : Bool := match r.lo with | some a => decide (0 ≤ a) | none => false
theorem Iv.nneg_has {r : Iv} {n : Int} (h : r.nneg = true) (hr : r.has n) : 0 ≤ n := by
  unfold Iv.nneg at h
  cases h1 : r.lo <;> simp only [h1] at h
  · cases h
  · have := hr.1 _ h1; simp at h; omega
def Iv.within (r : Iv) (a b : Int) : Bool := match r.lo, r.hi with | some l, some h => decide (a ≤ l) && decide (h ≤ b) | _, _ => false
theorem Iv.within_has {r : Iv} {a b n : Int} (h : r.within a b = true) (hr : r.has n) : a ≤ n ∧ n ≤ b := by
  unfold Iv.within at h
  cases h1 : r.lo <;> cases h2 : r.hi <;> simp only [h1, h2] at h <;> try (cases h; done)
  have := hr.1 _ h1; have := hr.2 _ h2; simp at h; omega
/-- Number or below, for numbers that are not negative. -/
def Iv.upTo (r : Iv) : Iv := ⟨some 0, r.hi⟩

theorem wrap_range (k : IntKind) (n : Int) : k.min ≤ k.wrap n ∧ k.wrap n ≤ k.max := by
  cases k <;> simp [IntKind.wrap, IntKind.min, IntKind.max, IntKind.bits, IntKind.signed] <;> (try split) <;> omega
theorem wrap_in (k : IntKind) (n : Int) (h : k.min ≤ n ∧ n ≤ k.max) : k.wrap n = n := by
  cases k <;> simp [IntKind.wrap, IntKind.min, IntKind.max, IntKind.bits, IntKind.signed] at h ⊢ <;> (try split) <;> omega
theorem wrap_pos_le (k : IntKind) (n : Nat) (m : Int) (h : (n : Int) ≤ m) (hm : m ≤ k.max) : 0 ≤ k.wrap n ∧ k.wrap n ≤ m := by
  have : k.wrap n = n := wrap_in k n ⟨by cases k <;> simp [IntKind.min, IntKind.bits, IntKind.signed] <;> omega, by omega⟩
  omega
theorem ofInt_toNat_lit (k : IntKind) (m : Int) (h0 : 0 ≤ m) (hm : m ≤ k.max) : ((BitVec.ofInt k.bits m).toNat : Int) = m := by
  rw [BitVec.toNat_ofInt]
  have : m < 2 ^ k.bits := by
    cases k <;> simp [IntKind.max, IntKind.bits, IntKind.signed] at hm ⊢ <;> omega
  rw [Int.emod_eq_of_lt h0 (by exact_mod_cast this)]
  omega
theorem band_le (k : IntKind) (x m : Int) (h0 : 0 ≤ m) (hm : m ≤ k.max) : 0 ≤ O2.den (.band k) x m ∧ O2.den (.band k) x m ≤ m := by
  refine wrap_pos_le k _ m ?_ hm
  rw [BitVec.toNat_and]
  have h1 : (BitVec.ofInt k.bits x).toNat &&& (BitVec.ofInt k.bits m).toNat ≤ (BitVec.ofInt k.bits m).toNat := Nat.and_le_right
  have := ofInt_toNat_lit k m h0 hm
  omega

/-- A range's part within. -/
def Iv.clip (lo hi : Int) (r : Iv) : Iv := if lo ≤ hi then (match r.lo, r.hi with
  | some l, some h => .mk2 (clamp lo hi l) (clamp lo hi h)
  | _, _ => .mk2 lo hi) else .top
/-- The range of what grows with a number. -/
def Iv.mapm (f : Int → Int) (r : Iv) : Iv := ⟨match r.lo with | some l => some (f l) | none => none, match r.hi with | some h => some (f h) | none => none⟩
theorem Iv.mapm_has {f : Int → Int} (hf : ∀ x y, x ≤ y → f x ≤ f y) {r : Iv} {n : Int} (h : r.has n) : (r.mapm f).has (f n) := by
  refine ⟨fun l hl => ?_, fun l hl => ?_⟩
  · simp only [Iv.mapm] at hl
    split at hl
    · rename_i l' hl'
      cases hl
      exact hf _ _ (h.1 _ hl')
    · cases hl
  · simp only [Iv.mapm] at hl
    split at hl
    · rename_i l' hl'
      cases hl
      exact hf _ _ (h.2 _ hl')
    · cases hl
/-- The rests of a range that has one quotient. -/
def sameQ (r : Iv) (m : Int) : Option Iv := match r.lo, r.hi with
  | some l, some h => if decide (l.tdiv m = h.tdiv m) then some (.mk2 (l.tmod m) (h.tmod m)) else none
  | _, _ => none
theorem sameQ_has {r s : Iv} {m n : Int} (hm : 0 < m) (h : r.has n) (hs : sameQ r m = some s) : s.has (n.tmod m) := by
  unfold sameQ at hs
  split at hs
  · rename_i l u hl hu
    split at hs
    · rename_i hq
      cases hs
      rw [decide_eq_true_eq] at hq
      have h1 := h.1 _ hl
      have h2 := h.2 _ hu
      have h3 := Int.tdiv_le_tdiv hm h1
      have h4 := Int.tdiv_le_tdiv hm h2
      have e : n.tdiv m = l.tdiv m := by omega
      have a1 := Int.tmod_def n m
      have a2 := Int.tmod_def l m
      have a3 := Int.tmod_def u m
      rw [e] at a1
      rw [← hq] at a3
      generalize m * l.tdiv m = q at *
      exact Iv.mk2_has (by omega)
    · cases hs
  · cases hs
/-- The range of what two make. -/
def binIv (o : O2) (ra rb : Iv) (b : T) : Iv := match o with
  | .add => ra.add rb
  | .sub => ra.sub rb
  | .eq | .lt | .le | .and | .or => .mk2 0 1
  | .tdiv => match b with
    | .lit m => if decide (0 < m) then ra.mapm (fun x => x.tdiv m) else if ra.nneg && rb.nneg then ra.upTo else .top
    | _ => if ra.nneg && rb.nneg then ra.upTo else .top
  | .tmod => match b with
    | .lit m => if ra.nneg && decide (0 < m) then (match sameQ ra m with
      | some r => r
      | none => (Iv.mk2 0 (m - 1)).meet ra.upTo) else .top
    | _ => if ra.nneg then ra.upTo else .top
  | .band k => match b with
    | .lit m => if decide (0 ≤ m) && decide (m ≤ k.max) then .mk2 0 m else .mk2 k.min k.max
    | _ => .mk2 k.min k.max
  | .bor k | .bxor k | .bandn k | .shl k => .mk2 k.min k.max
  | .shr k => match b with
    | .lit m => ra.mapm (fun x => x.fdiv (2 ^ min m.toNat k.bits))
    | _ => if ra.nneg then ra.upTo else .top
  | .mul => match b with
    | .lit m => if decide (0 ≤ m) then ra.mapm (fun x => x * m) else .top
    | _ => .top
def wrapIv (k : IntKind) (r : Iv) : Iv := if r.within k.min k.max then r else .mk2 k.min k.max
mutual
def T.rng : T → Iv
  | .lit n => .mk2 n n
  | .v _ lo hi => if lo ≤ hi then .mk2 lo hi else .top
  | .un (.cl lo hi) a => a.rng.clip lo hi
  | .sel s _ => s.rrg
  | .upd _ _ _ => .mk2 0 0
  | .sh _ _ => .mk2 0 0
  | .blit _ _ _ _ => .mk2 0 0
  | .eqr _ _ _ => .mk2 0 1
  | .un (.wrap k) a => wrapIv k a.rng
  | .un .not _ => .mk2 0 1
  | .bin o a b => binIv o a.rng b.rng b
  | .ite _ a b => a.rng.join b.rng
/-- A row's numbers' range. -/
def T.rrg : T → Iv
  | .v _ lo hi => if lo ≤ hi then .mk2 lo hi else .top
  | .lit n => .mk2 n n
  | .un (.cl lo hi) a => a.rrg.clip lo hi
  | .upd s _ x => x.rng.join s.rrg
  | .sh s _ => s.rrg
  | .blit d _ _ s => s.rrg.join d.rrg
  | .ite _ a b => a.rrg.join b.rrg
  | .sel s _ => s.rrg
  | .eqr _ _ _ => .mk2 0 1
  | .un (.wrap k) a => wrapIv k a.rng
  | .un .not _ => .mk2 0 1
  | .bin o a b => binIv o a.rng b.rng b
end

theorem clamp_has {lo hi n : Int} : (if lo ≤ hi then Iv.mk2 lo hi else .top).has (clamp lo hi n) := by
  split
  · refine Iv.mk2_has ?_
    unfold clamp
    split <;> (try split) <;> omega
  · exact Iv.top_has _
theorem upTo_has {r : Iv} {n m : Int} (hr : r.has n) (h0 : 0 ≤ m) (h : m ≤ n) : r.upTo.has m :=
  ⟨fun l hl => by simp [Iv.upTo] at hl; omega, fun l hl => by have := hr.2 l hl; omega⟩
theorem tdiv_nn (a b : Int) (ha : 0 ≤ a) (hb : 0 ≤ b) : 0 ≤ a.tdiv b ∧ a.tdiv b ≤ a :=
  ⟨Int.tdiv_nonneg ha hb, by rw [Int.tdiv_eq_ediv_of_nonneg ha]; exact Int.ediv_le_self _ ha⟩
theorem fdiv_nn (a : Int) (n : Nat) (ha : 0 ≤ a) : 0 ≤ a.fdiv (2 ^ n) ∧ a.fdiv (2 ^ n) ≤ a := by
  have h2 : (0 : Int) ≤ 2 ^ n := Int.le_of_lt (Int.pow_pos (by decide))
  rw [Int.fdiv_eq_ediv_of_nonneg _ h2]
  exact ⟨Int.ediv_nonneg ha h2, Int.ediv_le_self _ ha⟩
theorem emod_le_self (a m : Int) (h : 0 ≤ a) (hm : 0 < m) : a % m ≤ a := by
  rcases Int.lt_or_le a m with h' | h'
  · rw [Int.emod_eq_of_lt h h']; omega
  · have := Int.emod_lt_of_pos a hm; omega
theorem tmod_nn (a b : Int) (ha : 0 ≤ a) : 0 ≤ a.tmod b ∧ a.tmod b ≤ a := by
  rw [Int.tmod_eq_emod_of_nonneg ha]
  by_cases hb : b = 0
  · subst hb; simp [ha]
  · have h1 := Int.emod_nonneg a hb
    refine ⟨h1, ?_⟩
    have h2 : a % b = a % b.natAbs := by
      rcases Int.natAbs_eq b with h | h
      · rw [← h]
      · conv => lhs; rw [h]
        exact Int.emod_neg _ _
    rw [h2]
    exact emod_le_self a _ ha (by omega)
theorem clip_has {r : Iv} {lo hi n : Int} (h : r.has n) : (r.clip lo hi).has (clamp lo hi n) := by
  unfold Iv.clip
  split
  · rename_i hle
    split
    · rename_i l u h1 h2
      have := h.1 _ h1; have := h.2 _ h2
      refine Iv.mk2_has ?_
      unfold clamp
      repeat' split
      all_goals omega
    · refine Iv.mk2_has ?_
      unfold clamp
      repeat' split
      all_goals omega
  · exact Iv.top_has _
theorem wrapIv_has (k : IntKind) {r : Iv} {n : Int} (ih : r.has n) : (wrapIv k r).has (k.wrap n) := by
  unfold wrapIv
  split
  · rename_i h
    rw [wrap_in k _ (Iv.within_has h ih)]
    exact ih
  · exact Iv.mk2_has (wrap_range k _)
theorem binIv_has {E : Env} {o : O2} {a b : T} {ra rb : Iv} (iha : ra.has (a.den E)) (ihb : rb.has (b.den E)) : (binIv o ra rb b).has (o.den (a.den E) (b.den E)) := by
  cases o with
  | add => exact Iv.add_has iha ihb
  | sub => exact Iv.sub_has iha ihb
  | eq => exact Iv.mk2_has (tb_range _)
  | lt => exact Iv.mk2_has (tb_range _)
  | le => exact Iv.mk2_has (tb_range _)
  | and => exact Iv.mk2_has (tb_range _)
  | or => exact Iv.mk2_has (tb_range _)
  | mul =>
    simp only [binIv]
    split
    · rename_i m
      split
      · rename_i h
        rw [decide_eq_true_eq] at h
        exact Iv.mapm_has (f := fun x => x * m) (fun x y hxy => Int.mul_le_mul_of_nonneg_right hxy h) iha
      · exact Iv.top_has _
    · exact Iv.top_has _
  | bor k => exact Iv.mk2_has (wrap_range k _)
  | bxor k => exact Iv.mk2_has (wrap_range k _)
  | bandn k => exact Iv.mk2_has (wrap_range k _)
  | shl k => exact Iv.mk2_has (wrap_range k _)
  | tdiv =>
    have old : (if ra.nneg && rb.nneg then ra.upTo else .top : Iv).has (O2.den .tdiv (a.den E) (b.den E)) := by
      simp only [O2.den]
      split
      · rename_i h
        simp only [Bool.and_eq_true] at h
        have h1 := Iv.nneg_has h.1 iha
        have h2 := Iv.nneg_has h.2 ihb
        have := tdiv_nn _ _ h1 h2
        exact upTo_has iha this.1 this.2
      · exact Iv.top_has _
    simp only [binIv]
    split
    · rename_i m
      split
      · rename_i h
        rw [decide_eq_true_eq] at h
        exact Iv.mapm_has (f := fun x => x.tdiv m) (fun x y hxy => Int.tdiv_le_tdiv h hxy) iha
      · exact old
    · exact old
  | shr k =>
    have old : (if ra.nneg then ra.upTo else .top : Iv).has (O2.den (.shr k) (a.den E) (b.den E)) := by
      simp only [O2.den]
      split
      · rename_i h
        have h1 := Iv.nneg_has h iha
        have := fdiv_nn _ (min (b.den E).toNat k.bits) h1
        exact upTo_has iha this.1 this.2
      · exact Iv.top_has _
    simp only [binIv]
    split
    · rename_i m
      refine Iv.mapm_has (f := fun x => x.fdiv (2 ^ min m.toNat k.bits)) (fun x y hxy => ?_) iha
      have hp : (0 : Int) ≤ 2 ^ min m.toNat k.bits := Int.le_of_lt (Int.pow_pos (by decide))
      rw [Int.fdiv_eq_ediv_of_nonneg _ hp, Int.fdiv_eq_ediv_of_nonneg _ hp]
      exact Int.ediv_le_ediv (Int.pow_pos (by decide)) hxy
    · exact old
  | tmod =>
    simp only [binIv]
    split
    · rename_i m
      split
      · rename_i h
        simp only [Bool.and_eq_true, decide_eq_true_eq] at h
        have h1 := Iv.nneg_has h.1 iha
        simp only [T.den, O2.den]
        split
        · rename_i r hr
          exact sameQ_has h.2 iha hr
        rw [Int.tmod_eq_emod_of_nonneg h1]
        have e1 := Int.emod_nonneg (a.den E) (show m ≠ 0 by omega)
        have e2 := Int.emod_lt_of_pos (a.den E) h.2
        refine Iv.meet_has (Iv.mk2_has ⟨e1, by omega⟩) (upTo_has iha e1 ?_)
        exact emod_le_self _ m h1 h.2
      · exact Iv.top_has _
    · split
      · rename_i h
        have h1 := Iv.nneg_has h iha
        have := tmod_nn (a.den E) (b.den E) h1
        exact upTo_has iha this.1 this.2
      · exact Iv.top_has _
  | band k =>
    simp only [binIv]
    split
    · rename_i m
      split
      · rename_i h
        simp only [Bool.and_eq_true, decide_eq_true_eq] at h
        exact Iv.mk2_has (band_le k _ m h.1 h.2)
      · exact Iv.mk2_has (wrap_range k _)
    · exact Iv.mk2_has (wrap_range k _)
theorem T.rng_has2 (E : Env) (t : T) : t.rng.has (t.den E) ∧ ∀ j, t.rrg.has (t.row E j) := by
  induction t with
  | lit n => exact ⟨by simp only [T.rng, T.den]; exact Iv.mk2_has ⟨Int.le_refl _, Int.le_refl _⟩, fun j => by simp only [T.rrg, T.row]; exact Iv.mk2_has ⟨Int.le_refl _, Int.le_refl _⟩⟩
  | v i lo hi => exact ⟨by simp only [T.rng, T.den]; exact clamp_has, fun j => by simp only [T.rrg, T.row]; exact clamp_has⟩
  | sel s i ihs ihi => exact ⟨by simp only [T.rng, T.den]; exact ihs.2 _, fun j => by simp only [T.rrg, T.row]; exact ihs.2 _⟩
  | upd s i x ihs ihi ihx => exact ⟨by simp only [T.rng, T.den]; exact Iv.mk2_has ⟨Int.le_refl _, Int.le_refl _⟩, fun j => by
      simp only [T.rrg, T.row]
      split
      · exact Iv.join_has (.inl ihx.1)
      · exact Iv.join_has (.inr (ihs.2 _))⟩
  | sh s o ihs iho => exact ⟨by simp only [T.rng, T.den]; exact Iv.mk2_has ⟨Int.le_refl _, Int.le_refl _⟩, fun j => by simp only [T.rrg, T.row]; exact ihs.2 _⟩
  | blit d o n s ihd iho ihn ihs => exact ⟨by simp only [T.rng, T.den]; exact Iv.mk2_has ⟨Int.le_refl _, Int.le_refl _⟩, fun j => by
      simp only [T.rrg, T.row]
      split
      · exact Iv.join_has (.inl (ihs.2 _))
      · exact Iv.join_has (.inr (ihd.2 _))⟩
  | eqr n a b ihn iha ihb => exact ⟨by simp only [T.rng, T.den]; exact Iv.mk2_has (tb_range _), fun j => by simp only [T.rrg, T.row]; exact Iv.mk2_has (tb_range _)⟩
  | ite c a b ihc iha ihb =>
    refine ⟨?_, fun j => ?_⟩
    · simp only [T.rng, T.den]
      split
      · exact Iv.join_has (.inr ihb.1)
      · exact Iv.join_has (.inl iha.1)
    · simp only [T.rrg, T.row]
      split
      · exact Iv.join_has (.inr (ihb.2 _))
      · exact Iv.join_has (.inl (iha.2 _))
  | un o a ih =>
    refine ⟨?_, fun j => ?_⟩
    · replace ih := ih.1
      cases o with
      | not => simp only [T.rng, T.den, O1.den]; exact Iv.mk2_has (tb_range _)
      | cl lo hi => simp only [T.rng, T.den, O1.den]; exact clip_has ih
      | wrap k => exact wrapIv_has k ih
    · cases o with
      | not => simp only [T.rrg, T.row]; exact Iv.mk2_has (tb_range _)
      | cl lo hi => simp only [T.rrg, T.row]; exact clip_has (ih.2 _)
      | wrap k => exact wrapIv_has k ih.1
  | bin o a b iha ihb => exact ⟨binIv_has iha.1 ihb.1, fun j => binIv_has iha.1 ihb.1⟩

theorem T.rng_has (E : Env) (t : T) : t.rng.has (t.den E) := (T.rng_has2 E t).1
theorem T.rrg_has (E : Env) (t : T) (j : Int) : t.rrg.has (t.row E j) := (T.rng_has2 E t).2 j
end Go.Sy
