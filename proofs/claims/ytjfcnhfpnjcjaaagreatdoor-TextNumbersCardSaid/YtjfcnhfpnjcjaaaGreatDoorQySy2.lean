/- Part Sy2 of a checked reader of Go texts in their model form: it runs a function at terms in the place of numbers, and each part proves that its answers hold of the model. -/
import Derived.Test.YtjfcnhfpnjcjaaaGreatDoorQySy1
namespace Go.Sy

def kmin : IntKind → Int
  | .i8 => -128 | .i16 => -32768 | .i32 => -2147483648 | .i64 => -9223372036854775808 | .u8 | .u16 | .u32 | .u64 => 0
def kmax : IntKind → Int
  | .i8 => 127 | .i16 => 32767 | .i32 => 2147483647 | .i64 => 9223372036854775807 | .u8 => 255 | .u16 => 65535 | .u32 => 4294967295 | .u64 => 18446744073709551615
theorem kmin_eq (k : IntKind) : kmin k = k.min := by cases k <;> rfl
theorem kmax_eq (k : IntKind) : kmax k = k.max := by cases k <;> rfl
def kmod : IntKind → Int
  | .i8 | .u8 => 256 | .i16 | .u16 => 65536 | .i32 | .u32 => 4294967296 | .i64 | .u64 => 18446744073709551616
def ksig : IntKind → Bool
  | .i8 | .i16 | .i32 | .i64 => true
  | .u8 | .u16 | .u32 | .u64 => false
/-- 'wrap', quick at numbers. -/
def kwrap (k : IntKind) (n : Int) : Int :=
  bif leb (kmin k) n && leb n (kmax k) then n else
  bif ksig k && leb (kmax k + 1) (n % kmod k) then n % kmod k - kmod k else n % kmod k
theorem kwrap_eq (k : IntKind) (n : Int) : kwrap k n = k.wrap n := by
  unfold kwrap
  cases h : leb (kmin k) n && leb n (kmax k)
  · cases k <;> simp [kmax, kmod, ksig, IntKind.wrap, IntKind.bits, IntKind.signed, cond_eq_ite, leb_t]
  · simp only [Bool.and_eq_true, leb_t] at h
    rw [wrap_in k n (by rw [← kmin_eq, ← kmax_eq]; exact h)]
    rfl

def O1.fold : O1 → Int → Int
  | .wrap k, a => kwrap k a
  | .not, a => tb (a == 0)
  | .cl lo hi, a => clamp lo hi a
theorem O1.fold_eq (o : O1) (a : Int) : o.fold a = o.den a := by cases o <;> simp [O1.fold, O1.den, kwrap_eq]
def kbits : IntKind → Nat
  | .i8 | .u8 => 8 | .i16 | .u16 => 16 | .i32 | .u32 => 32 | .i64 | .u64 => 64
theorem kbits_eq (k : IntKind) : kbits k = k.bits := by cases k <;> rfl
/-- A number as its bits, quick. -/
def toBits (k : IntKind) (a : Int) : Nat := (a % kmod k).toNat
theorem toBits_eq (k : IntKind) (a : Int) : toBits k a = (BitVec.ofInt k.bits a).toNat := by
  rw [BitVec.toNat_ofInt]; cases k <;> rfl
def pow2 (n : Nat) : Int := ((2 ^ n : Nat) : Int)
theorem pow2_eq (n : Nat) : pow2 n = (2 : Int) ^ n := by simp [pow2]
def O2.fold : O2 → Int → Int → Int
  | .band k, a, b => kwrap k (toBits k a &&& toBits k b : Nat)
  | .bor k, a, b => kwrap k (toBits k a ||| toBits k b : Nat)
  | .bxor k, a, b => kwrap k (toBits k a ^^^ toBits k b : Nat)
  | .bandn k, a, b => kwrap k (toBits k a &&& toBits k (-b - 1) : Nat)
  | .shl k, a, b => kwrap k (a * pow2 (min b.toNat (kbits k)))
  | .shr k, a, b => a.fdiv (pow2 (min b.toNat (kbits k)))
  | .add, a, b => a + b
  | .sub, a, b => a - b
  | .mul, a, b => a * b
  | .tdiv, a, b => a.tdiv b
  | .tmod, a, b => a.tmod b
  | .eq, a, b => tb (a == b)
  | .lt, a, b => tb (ltb a b)
  | .le, a, b => tb (leb a b)
  | .and, a, b => tb (a != 0 && b != 0)
  | .or, a, b => tb (a != 0 || b != 0)
theorem O2.fold_eq (o : O2) (a b : Int) : o.fold a b = o.den a b := by
  cases o <;> simp only [O2.fold, O2.den, kwrap_eq, toBits_eq, kbits_eq, pow2_eq, BitVec.toNat_and, BitVec.toNat_or, BitVec.toNat_xor]
  rename_i k
  congr 4
  have : BitVec.ofInt k.bits (-b - 1) = ~~~ BitVec.ofInt k.bits b := by
    rw [BitVec.not_eq_neg_add, Int.sub_eq_add_neg, BitVec.ofInt_add, BitVec.ofInt_neg, BitVec.ofInt_neg, BitVec.sub_eq_add_neg]
    rfl
  rw [this]

/-! what is known on the way -/
abbrev Pc := List (T × Bool)
def pcOk (E : Env) (pc : Pc) : Prop := ∀ p ∈ pc, p.1.tr E = p.2

def addF : T → Bool → Pc → Pc
  | .un .not a, b, pc => addF a (!b) pc
  | .bin .and a c, true, pc => addF a true (addF c true pc)
  | .bin .or a c, false, pc => addF a false (addF c false pc)
  | .lit n, b, pc => bif (n != 0) == b then pc else (.lit n, b) :: pc
  | t, b, pc => (t, b) :: pc

theorem tr_not (E : Env) (a : T) : (T.un .not a).tr E = !(a.tr E) := by
  simp only [T.tr, T.den, O1.den, tb_ne]; cases h : a.den E == 0 <;> simp [bne, h]
theorem tr_and (E : Env) (a b : T) : (T.bin .and a b).tr E = (a.tr E && b.tr E) := by
  simp only [T.tr, T.den, O2.den, tb_ne]
theorem tr_or (E : Env) (a b : T) : (T.bin .or a b).tr E = (a.tr E || b.tr E) := by
  simp only [T.tr, T.den, O2.den, tb_ne]
theorem pcOk_cons {E : Env} {t : T} {b : Bool} {pc : Pc} : pcOk E ((t, b) :: pc) ↔ t.tr E = b ∧ pcOk E pc := by
  simp [pcOk]
theorem pcOk_addF {E : Env} {t : T} : ∀ {b : Bool} {pc : Pc}, pcOk E (addF t b pc) ↔ t.tr E = b ∧ pcOk E pc := by
  induction t with
  | un o a ih =>
    intro b pc
    cases o with
    | wrap k => simp only [addF, pcOk_cons]
    | cl lo hi => simp only [addF, pcOk_cons]
    | not => simp only [addF, ih, tr_not]; cases b <;> cases a.tr E <;> simp
  | bin o a c iha ihc =>
    intro b pc
    cases o <;> try (cases b <;> simp only [addF, pcOk_cons]; done)
    · cases b
      · simp only [addF, pcOk_cons]
      · simp only [addF, iha, ihc, tr_and, Bool.and_eq_true]; exact ⟨fun ⟨x, y, z⟩ => ⟨⟨x, y⟩, z⟩, fun ⟨⟨x, y⟩, z⟩ => ⟨x, y, z⟩⟩
    · cases b
      · simp only [addF, iha, ihc, tr_or, Bool.or_eq_false_iff]; exact ⟨fun ⟨x, y, z⟩ => ⟨⟨x, y⟩, z⟩, fun ⟨⟨x, y⟩, z⟩ => ⟨x, y, z⟩⟩
      · simp only [addF, pcOk_cons]
  | lit n =>
    intro b pc
    simp only [addF]
    cases h : (n != 0) == b
    · simp only [cond_false, pcOk_cons]
    · simp only [cond_true]
      have : (T.lit n).tr E = b := by simp only [T.tr, T.den]; simpa using h
      exact ⟨fun x => ⟨this, x⟩, fun x => x.2⟩
  | v i lo hi => intro b pc; cases b <;> simp only [addF, pcOk_cons]
  | ite c a b _ _ _ => intro b pc; cases b <;> simp only [addF, pcOk_cons]
  | _ => intro b pc; cases b <;> simp only [addF, pcOk_cons]

/-- What one known thing says of a term's range. -/
def ivFact (a : T) : T × Bool → Iv
  | (.bin .eq x (.lit n), true) => bif x.beq a then .mk2 n n else .top
  | (.bin .lt x (.lit n), true) => bif x.beq a then ⟨none, some (n - 1)⟩ else .top
  | (.bin .lt x (.lit n), false) => bif x.beq a then ⟨some n, none⟩ else .top
  | (.bin .le x (.lit n), true) => bif x.beq a then ⟨none, some n⟩ else .top
  | (.bin .le x (.lit n), false) => bif x.beq a then ⟨some (n + 1), none⟩ else .top
  | (.bin .lt (.lit n) x, true) => bif x.beq a then ⟨some (n + 1), none⟩ else .top
  | (.bin .lt (.lit n) x, false) => bif x.beq a then ⟨none, some n⟩ else .top
  | (.bin .le (.lit n) x, true) => bif x.beq a then ⟨some n, none⟩ else .top
  | (.bin .le (.lit n) x, false) => bif x.beq a then ⟨none, some (n - 1)⟩ else .top
  | _ => .top
theorem bif_top {r : Iv} {c : Bool} {n : Int} (h : c = true → r.has n) : (bif c then r else Iv.top).has n := by
  cases c
  · exact Iv.top_has _
  · exact h rfl
theorem ivFact_has {E : Env} {a : T} {p : T × Bool} (h : p.1.tr E = p.2) : (ivFact a p).has (a.den E) := by
  obtain ⟨t, b⟩ := p
  simp only at h
  unfold ivFact
  split <;> rename_i he <;> simp only [Prod.mk.injEq] at he <;> (try (obtain ⟨rfl, rfl⟩ := he)) <;> first
    | exact Iv.top_has _
    | (refine bif_top fun hb => ?_
       have := T.beq_eq hb
       subst this
       simp only [T.tr, T.den, O2.den, tb_ne, beq_iff_eq, ltb_t, ltb_f, leb_t, leb_f] at h
       first
         | exact Iv.mk2_has (by omega)
         | (refine ⟨fun l hl => ?_, fun l hl => ?_⟩ <;> simp at hl <;> omega)
)

def ivAll (a : T) : Pc → Iv → Iv
  | [], r => r
  | p :: pc, r => ivAll a pc (r.meet (ivFact a p))
theorem ivAll_has {E : Env} {a : T} : ∀ {pc : Pc} {r : Iv}, pcOk E pc → r.has (a.den E) → (ivAll a pc r).has (a.den E)
  | [], _, _, h => h
  | p :: pc, r, hp, h => by
    simp only [ivAll]
    exact ivAll_has (fun q hq => hp q (List.mem_cons_of_mem _ hq)) (Iv.meet_has h (ivFact_has (hp p List.mem_cons_self)))
/-- A number that it isn't, at an end of its range. -/
def ivNe (r : Iv) (n : Int) : Iv := ⟨match r.lo with | some l => some (bif l == n then n + 1 else l) | none => none, match r.hi with | some l => some (bif l == n then n - 1 else l) | none => none⟩
theorem ivNe_has {r : Iv} {n m : Int} (hr : r.has m) (h : m ≠ n) : (ivNe r n).has m := by
  refine ⟨fun l hl => ?_, fun l hl => ?_⟩
  · simp only [ivNe] at hl
    cases h1 : r.lo <;> simp only [h1] at hl
    · cases hl
    · rename_i x
      have := hr.1 _ h1
      cases hx : x == n <;> simp [hx] at hl <;> (try simp at hx) <;> omega
  · simp only [ivNe] at hl
    cases h1 : r.hi <;> simp only [h1] at hl
    · cases hl
    · rename_i x
      have := hr.2 _ h1
      cases hx : x == n <;> simp [hx] at hl <;> (try simp at hx) <;> omega
def ivNes (a : T) : Pc → Iv → Iv
  | [], r => r
  | (.bin .eq x (.lit n), false) :: pc, r => ivNes a pc (bif x.beq a then ivNe r n else r)
  | _ :: pc, r => ivNes a pc r
theorem ivNes_has {E : Env} {a : T} : ∀ {pc : Pc} {r : Iv}, pcOk E pc → r.has (a.den E) → (ivNes a pc r).has (a.den E) := by
  intro pc
  induction pc with
  | nil => intro r _ h; exact h
  | cons p pc ih =>
    intro r hp h
    have hp' : pcOk E pc := fun q hq => hp q (List.mem_cons_of_mem _ hq)
    have h0 := hp p List.mem_cons_self
    unfold ivNes
    split
    · rename_i he; cases he
    · rename_i he
      simp only [List.cons.injEq] at he
      obtain ⟨rfl, rfl⟩ := he
      refine ih hp' ?_
      rename_i x n
      cases hb : T.beq x a
      · exact h
      · have := T.beq_eq hb
        subst this
        simp only [T.tr, T.den, O2.den, tb_ne] at h0
        exact ivNe_has h (by simpa using h0)
    · rename_i he
      simp only [List.cons.injEq] at he
      obtain ⟨rfl, rfl⟩ := he
      exact ih hp' h
def rngP (pc : Pc) (a : T) : Iv := match a with
  | .lit n => .mk2 n n
  | a => ivNes a pc (ivAll a pc a.rng)
theorem rngP_has {E : Env} {pc : Pc} (a : T) (h : pcOk E pc) : (rngP pc a).has (a.den E) := by
  unfold rngP
  split
  · exact Iv.mk2_has ⟨Int.le_refl _, Int.le_refl _⟩
  · exact ivNes_has h (ivAll_has h (a.rng_has E))

def findF (t : T) : Pc → Option Bool
  | [] => none
  | (x, b) :: pc => bif x.beq t then some b else findF t pc
theorem findF_ok {E : Env} {t : T} {b : Bool} : ∀ {pc : Pc}, pcOk E pc → findF t pc = some b → t.tr E = b
  | [], _, h => by cases h
  | (x, c) :: pc, hp, h => by
    simp only [findF] at h
    cases hb : x.beq t <;> simp only [hb, cond_true, cond_false] at h
    · exact findF_ok (fun q hq => hp q (List.mem_cons_of_mem _ hq)) h
    · have := T.beq_eq hb
      subst this
      cases h
      exact hp _ List.mem_cons_self

def ltIv (r s : Iv) : Option Bool :=
  match (match r.hi, s.lo with | some h, some l => bif ltb h l then some true else none | _, _ => none) with
  | some b => some b
  | none => match r.lo, s.hi with | some l, some h => bif leb h l then some false else none | _, _ => none
theorem ltIv_ok {r s : Iv} {n m : Int} {b : Bool} (hr : r.has n) (hs : s.has m) (h : ltIv r s = some b) : ltb n m = b := by
  unfold ltIv at h
  split at h
  · rename_i b' h'
    cases h
    split at h'
    · rename_i x y h1 h2
      have := hr.2 _ h1; have := hs.1 _ h2
      cases hd : ltb x y <;> simp [hd] at h'
      subst h'; rw [ltb_t] at hd ⊢; omega
    · cases h'
  · split at h
    · rename_i x y h1 h2
      have := hr.1 _ h1; have := hs.2 _ h2
      cases hd : leb y x <;> simp [hd] at h
      subst h; rw [leb_t] at hd; rw [ltb_f]; omega
    · cases h
def leIv (r s : Iv) : Option Bool := (ltIv s r).map (!·)
theorem leIv_ok {r s : Iv} {n m : Int} {b : Bool} (hr : r.has n) (hs : s.has m) (h : leIv r s = some b) : leb n m = b := by
  unfold leIv at h
  cases h' : ltIv s r with
  | none => simp [h'] at h
  | some c =>
    have := ltIv_ok hs hr h'
    simp [h'] at h
    cases c <;> cases b <;> simp at h
    · rw [ltb_f] at this; rw [leb_t]; omega
    · rw [ltb_t] at this; rw [leb_f]; omega
def oneOf (r : Iv) : Option Int := match r.lo, r.hi with | some l, some h => bif leb h l then some l else none | _, _ => none
theorem oneOf_ok {r : Iv} {n m : Int} (hr : r.has n) (h : oneOf r = some m) : n = m := by
  unfold oneOf at h
  split at h
  · rename_i x y h1 h2
    have := hr.1 _ h1; have := hr.2 _ h2
    cases hd : leb y x <;> simp [hd] at h
    rw [leb_t] at hd; omega
  · cases h
def eqIv (r s : Iv) : Option Bool :=
  match ltIv r s with
  | some true => some false
  | _ => match ltIv s r with
    | some true => some false
    | _ => match oneOf r, oneOf s with
      | some a, some b => bif a == b then some true else none
      | _, _ => none
theorem eqIv_ok {r s : Iv} {n m : Int} {b : Bool} (hr : r.has n) (hs : s.has m) (h : eqIv r s = some b) : (n == m) = b := by
  unfold eqIv at h
  split at h
  · rename_i h'
    have := ltIv_ok hr hs h'
    rw [ltb_t] at this
    cases h; rw [beq_eq_false_iff_ne]; omega
  · split at h
    · rename_i h'
      have := ltIv_ok hs hr h'
      rw [ltb_t] at this
      cases h; rw [beq_eq_false_iff_ne]; omega
    · split at h
      · rename_i x y h1 h2
        have e1 := oneOf_ok hr h1; have e2 := oneOf_ok hs h2
        cases hd : x == y <;> simp [hd] at h
        subst h; rw [beq_iff_eq] at hd ⊢; omega
      · cases h
def neIv (r : Iv) : Option Bool := (eqIv r (Iv.mk2 0 0)).map (!·)
theorem neIv_ok {r : Iv} {n : Int} {b : Bool} (hr : r.has n) (h : neIv r = some b) : (n != 0) = b := by
  unfold neIv at h
  cases h' : eqIv r (Iv.mk2 0 0) with
  | none => simp [h'] at h
  | some c =>
    have := eqIv_ok hr (Iv.mk2_has (n := 0) ⟨Int.le_refl 0, Int.le_refl 0⟩) h'
    simp [h'] at h
    subst this
    cases b <;> cases hn : n == 0 <;> simp_all [bne]

/-! sums -/
/-- A number and multiples of terms. -/
structure Ln where
  c : Int
  ms : List (T × Int)
def msDen (E : Env) : List (T × Int) → Int
  | [] => 0
  | (t, k) :: r => k * t.den E + msDen E r
def Ln.den (E : Env) (l : Ln) : Int := l.c + msDen E l.ms
def msAdd (a : T) (k : Int) : List (T × Int) → List (T × Int)
  | [] => [(a, k)]
  | (b, j) :: r => bif a.beq b then (bif k + j == 0 then r else (b, k + j) :: r) else (b, j) :: msAdd a k r
theorem msAdd_den (E : Env) (a : T) (k : Int) : ∀ l : List (T × Int), msDen E (msAdd a k l) = k * a.den E + msDen E l := by
  intro l
  induction l with
  | nil => simp [msAdd, msDen]
  | cons p r ih =>
    obtain ⟨b, j⟩ := p
    simp only [msAdd]
    cases hb : a.beq b <;> simp only [cond_true, cond_false]
    · simp only [msDen, ih]; omega
    · rw [T.beq_eq hb]
      cases hz : k + j == 0 <;> simp only [cond_true, cond_false, msDen]
      · rw [Int.add_mul]; omega
      · have : k + j = 0 := by simpa using hz
        rw [← Int.add_assoc, ← Int.add_mul, this]; omega
def linT : T → Int → Ln → Ln
  | .lit n, m, l => ⟨l.c + m * n, l.ms⟩
  | .bin .add a b, m, l => linT b m (linT a m l)
  | .bin .sub a b, m, l => linT b (-m) (linT a m l)
  | t, m, l => ⟨l.c, msAdd t m l.ms⟩
theorem linT_den (E : Env) : ∀ (t : T) (m : Int) (l : Ln), (linT t m l).den E = l.den E + m * t.den E := by
  have base : ∀ (t : T) (m : Int) (l : Ln), Ln.den E ⟨l.c, msAdd t m l.ms⟩ = l.den E + m * t.den E := fun t m l => by
    simp only [Ln.den, msAdd_den]; omega
  intro t
  induction t with
  | lit n => intro m l; simp only [linT, Ln.den, T.den]; omega
  | bin o a b iha ihb =>
    intro m l
    cases o with
    | add => simp only [linT, iha, ihb, T.den, O2.den, Int.mul_add]; omega
    | sub => simp only [linT, iha, ihb, T.den, O2.den, Int.mul_sub, Int.neg_mul]; omega
    | _ => exact base _ m l
  | _ => intro m l; exact base _ m l
/-- At least so much. -/
def lowMs (pc : Pc) : List (T × Int) → Option Int
  | [] => some 0
  | (t, k) :: r => match lowMs pc r with
    | some n => bif ltb 0 k then (match (rngP pc t).lo with | some x => some (k * x + n) | none => none) else (match (rngP pc t).hi with | some x => some (k * x + n) | none => none)
    | none => none
theorem lowMs_ok {E : Env} {pc : Pc} (hp : pcOk E pc) : ∀ {l : List (T × Int)} {n : Int}, lowMs pc l = some n → n ≤ msDen E l := by
  intro l
  induction l with
  | nil => intro n h; cases h; exact Int.le_refl _
  | cons p r ih =>
    intro n h
    obtain ⟨t, k⟩ := p
    simp only [lowMs] at h
    split at h
    · rename_i n0 h0
      have h1 := ih h0
      have h2 := rngP_has (a := t) hp
      cases hk : ltb 0 k <;> simp only [hk, cond_true, cond_false] at h
      · rw [ltb_f] at hk
        split at h
        · rename_i x hx
          cases h
          have := Int.mul_le_mul_of_nonpos_left hk (h2.2 x hx)
          simp only [msDen]; omega
        · cases h
      · rw [ltb_t] at hk
        split at h
        · rename_i x hx
          cases h
          have := Int.mul_le_mul_of_nonneg_left (h2.1 x hx) (Int.le_of_lt hk)
          simp only [msDen]; omega
        · cases h
    · cases h
def atL (pc : Pc) (l : Ln) (n : Int) : Bool := match lowMs pc l.ms with
  | some x => leb n (l.c + x)
  | none => false
theorem atL_ok {E : Env} {pc : Pc} (hp : pcOk E pc) {l : Ln} {n : Int} (h : atL pc l n = true) : n ≤ l.den E := by
  unfold atL at h
  split at h
  · rename_i x hx
    have := lowMs_ok hp hx
    rw [leb_t] at h
    simp only [Ln.den]; omega
  · cases h
/-- By one fact more: 'l' less what the fact tells to be at least 0. -/
def viaF (l : Ln) : T × Bool → List Ln
  | (.bin .lt a b, true) => [let r := linT a 1 (linT b (-1) l); ⟨r.c + 1, r.ms⟩]
  | (.bin .lt a b, false) => [linT b 1 (linT a (-1) l)]
  | (.bin .le a b, true) => [linT a 1 (linT b (-1) l)]
  | (.bin .le a b, false) => [let r := linT b 1 (linT a (-1) l); ⟨r.c + 1, r.ms⟩]
  | (.bin .eq a b, true) => [linT a 1 (linT b (-1) l), linT b 1 (linT a (-1) l)]
  | _ => []
theorem viaF_ok {E : Env} {l : Ln} {p : T × Bool} (hp : p.1.tr E = p.2) : ∀ r ∈ viaF l p, r.den E ≤ l.den E := by
  intro r hr
  unfold viaF at hr
  split at hr
  · rename_i a b
    simp only [T.tr, T.den, O2.den, tb_ne, ltb_t] at hp
    rw [List.mem_singleton] at hr; subst hr
    have := linT_den E a 1 (linT b (-1) l)
    have h2 := linT_den E b (-1) l
    simp only [Ln.den] at this h2 ⊢; omega
  · rename_i a b
    simp only [T.tr, T.den, O2.den, tb_ne, ltb_f] at hp
    rw [List.mem_singleton] at hr; subst hr
    rw [linT_den, linT_den]; omega
  · rename_i a b
    simp only [T.tr, T.den, O2.den, tb_ne, leb_t] at hp
    rw [List.mem_singleton] at hr; subst hr
    rw [linT_den, linT_den]; omega
  · rename_i a b
    simp only [T.tr, T.den, O2.den, tb_ne, leb_f] at hp
    rw [List.mem_singleton] at hr; subst hr
    have := linT_den E b 1 (linT a (-1) l)
    have h2 := linT_den E a (-1) l
    simp only [Ln.den] at this h2 ⊢; omega
  · rename_i a b
    simp only [T.tr, T.den, O2.den, tb_ne, beq_iff_eq] at hp
    simp only [List.mem_cons, List.not_mem_nil, or_false] at hr
    rcases hr with rfl | rfl <;> rw [linT_den, linT_den] <;> omega
  · cases hr
/-- By one fact more still, where few terms are left. -/
def via2 (pc : Pc) (r : Ln) : Bool := Nat.ble r.ms.length 2 && pc.any fun q => (viaF r q).any fun s => Nat.ble s.ms.length 1 && atL pc s 0
theorem via2_ok {E : Env} {pc : Pc} (hp : pcOk E pc) {r : Ln} (h : via2 pc r = true) : 0 ≤ r.den E := by
  unfold via2 at h
  rw [Bool.and_eq_true, List.any_eq_true] at h
  obtain ⟨_, p, h1, h2⟩ := h
  rw [List.any_eq_true] at h2
  obtain ⟨s, h3, h4⟩ := h2
  rw [Bool.and_eq_true] at h4
  have := atL_ok hp h4.2
  have := viaF_ok (hp p h1) s h3
  omega
/-- Is it at least 0? -/
def geL (pc : Pc) (l : Ln) : Bool := atL pc l 0 || pc.any fun p => (viaF l p).any fun r => Nat.ble r.ms.length l.ms.length && (atL pc r 0 || via2 pc r)
theorem geL_ok {E : Env} {pc : Pc} (hp : pcOk E pc) {l : Ln} (h : geL pc l = true) : 0 ≤ l.den E := by
  unfold geL at h
  rw [Bool.or_eq_true, List.any_eq_true] at h
  rcases h with h | ⟨p, h1, h2⟩
  · exact atL_ok hp h
  · rw [List.any_eq_true] at h2
    obtain ⟨r, h3, h4⟩ := h2
    rw [Bool.and_eq_true, Bool.or_eq_true] at h4
    have := viaF_ok (hp p h1) r h3
    rcases h4.2 with h5 | h5
    · have := atL_ok hp h5
      omega
    · have := via2_ok hp h5
      omega
def T.isSum : T → Bool
  | .bin .add _ _ | .bin .sub _ _ => true
  | _ => false
def T.isNum : T → Bool
  | .lit _ => true
  | _ => false
/-- Below, by sums. -/
def ltLn (pc : Pc) (a b : T) : Option Bool :=
  bif a.isSum || b.isSum || !(a.isNum || b.isNum) then
    bif geL pc (let r := linT b 1 (linT a (-1) ⟨0, []⟩); ⟨r.c - 1, r.ms⟩) then some true else bif geL pc (linT a 1 (linT b (-1) ⟨0, []⟩)) then some false else none
  else none
theorem ltLn_ok {E : Env} {pc : Pc} (hp : pcOk E pc) {a b : T} {r : Bool} (h : ltLn pc a b = some r) : ltb (a.den E) (b.den E) = r := by
  unfold ltLn at h
  cases hs : a.isSum || b.isSum || !(a.isNum || b.isNum) <;> simp only [hs, cond_true, cond_false] at h
  · cases h
  have z : Ln.den E ⟨0, []⟩ = 0 := rfl
  cases h1 : geL pc (let r := linT b 1 (linT a (-1) ⟨0, []⟩); ⟨r.c - 1, r.ms⟩) <;> simp only [h1, cond_true, cond_false] at h
  · cases h2 : geL pc (linT a 1 (linT b (-1) ⟨0, []⟩)) <;> simp only [h2, cond_true, cond_false] at h
    · cases h
    · cases h
      have := geL_ok hp h2
      rw [linT_den, linT_den, z] at this
      rw [ltb_f]; omega
  · cases h
    have := geL_ok hp h1
    have e : 0 ≤ (linT b 1 (linT a (-1) ⟨0, []⟩)).den E - 1 := by
      simp only [Ln.den] at this ⊢; omega
    rw [linT_den, linT_den, z] at e
    rw [ltb_t]; omega
def leLn (pc : Pc) (a b : T) : Option Bool := (ltLn pc b a).map (!·)
theorem leLn_ok {E : Env} {pc : Pc} (hp : pcOk E pc) {a b : T} {r : Bool} (h : leLn pc a b = some r) : leb (a.den E) (b.den E) = r := by
  unfold leLn at h
  cases h' : ltLn pc b a with
  | none => simp [h'] at h
  | some c =>
    have := ltLn_ok hp h'
    simp [h'] at h
    cases c <;> cases r <;> simp at h
    · rw [ltb_f] at this; rw [leb_t]; omega
    · rw [ltb_t] at this; rw [leb_f]; omega
def orElse2 (x y : Option Bool) : Option Bool := match x with
  | some b => some b
  | none => y
theorem orElse2_ok {x y : Option Bool} {r : Bool} {p : Prop} (h : orElse2 x y = some r) (h1 : x = some r → p) (h2 : y = some r → p) : p := by
  cases x with
  | some b => exact h1 h
  | none => exact h2 h

/-- A rest is below what it was divided by. -/
def ltMod (pc : Pc) : T → T → Option Bool
  | .bin .tmod x y, b => bif y.beq b && (rngP pc x).nneg && (match (rngP pc y).lo with | some l => leb 1 l | none => false) then some true else none
  | _, _ => none
theorem ltMod_ok {E : Env} {pc : Pc} (hp : pcOk E pc) {a b : T} {r : Bool} (h : ltMod pc a b = some r) : ltb (a.den E) (b.den E) = r := by
  unfold ltMod at h
  split at h
  · rename_i x y
    cases hc : y.beq b && (rngP pc x).nneg && (match (rngP pc y).lo with | some l => leb 1 l | none => false) <;> simp only [hc, cond_true, cond_false] at h
    · cases h
    cases h
    simp only [Bool.and_eq_true] at hc
    obtain ⟨⟨h1, h2⟩, h3⟩ := hc
    have h1 := T.beq_eq h1
    subst h1
    have h2 := Iv.nneg_has h2 (rngP_has x hp)
    split at h3
    · rename_i l hl
      rw [leb_t] at h3
      have h4 := (rngP_has y hp).1 l hl
      rw [ltb_t]
      simp only [T.den, O2.den]
      rw [Int.tmod_eq_emod_of_nonneg h2]
      exact Int.emod_lt_of_pos _ (by omega)
    · cases h3
  · cases h
/-- Is a term true, by what is known? -/
def dec (pc : Pc) : T → Option Bool
  | .lit n => some (n != 0)
  | .un .not a => (dec pc a).map (!·)
  | .bin .and a b => match dec pc a with
    | some false => some false
    | some true => dec pc b
    | none => match dec pc b with
      | some false => some false
      | _ => findF (.bin .and a b) pc
  | .bin .or a b => match dec pc a with
    | some true => some true
    | some false => dec pc b
    | none => match dec pc b with
      | some true => some true
      | _ => findF (.bin .or a b) pc
  | .bin .eq a b => match findF (.bin .eq a b) pc with
    | some r => some r
    | none => bif a.beq b then some true else eqIv (rngP pc a) (rngP pc b)
  | .bin .lt a b => match findF (.bin .lt a b) pc with
    | some r => some r
    | none => bif a.beq b then some false else orElse2 (ltIv (rngP pc a) (rngP pc b)) (orElse2 (ltMod pc a b) (ltLn pc a b))
  | .bin .le a b => match findF (.bin .le a b) pc with
    | some r => some r
    | none => bif a.beq b then some true else orElse2 (leIv (rngP pc a) (rngP pc b)) (leLn pc a b)
  | .ite c a b => match dec pc c with
    | some true => dec pc a
    | some false => dec pc b
    | none => match dec pc a, dec pc b with
      | some x, some y => bif x == y then some x else findF (.ite c a b) pc
      | _, _ => findF (.ite c a b) pc
  | t => match findF t pc with
    | some r => some r
    | none => neIv (rngP pc t)
theorem dec_other {E : Env} {pc : Pc} {t : T} {r : Bool} (hp : pcOk E pc) (h : (match findF t pc with | some r => some r | none => neIv (rngP pc t)) = some r) : t.tr E = r := by
  split at h
  · rename_i h'; cases h; exact findF_ok hp h'
  · exact neIv_ok (rngP_has t hp) h
theorem dec_cmp {E : Env} {pc : Pc} {t : T} {r : Bool} {c : Bool} {d : Bool} {x : Option Bool} (hp : pcOk E pc) (h : (match findF t pc with | some r => some r | none => bif c then some d else x) = some r)
    (hc : c = true → t.tr E = d) (hx : x = some r → t.tr E = r) : t.tr E = r := by
  split at h
  · rename_i h'; cases h; exact findF_ok hp h'
  · cases c
    · exact hx h
    · simp at h; rw [← h]; exact hc rfl
theorem dec_ok {E : Env} {pc : Pc} (hp : pcOk E pc) : ∀ {t : T} {r : Bool}, dec pc t = some r → t.tr E = r := by
  intro t
  induction t with
  | lit n => intro r h; simp only [dec, Option.some.injEq] at h; simpa [T.tr, T.den] using h
  | v i lo hi => intro r h; exact dec_other hp h
  | sel s i _ _ => intro r h; exact dec_other hp h
  | upd s i x _ _ _ => intro r h; exact dec_other hp h
  | sh s o _ _ => intro r h; exact dec_other hp h
  | blit d o n s _ _ _ _ => intro r h; exact dec_other hp h
  | eqr n a b _ _ _ => intro r h; exact dec_other hp h
  | un o a ih =>
    intro r h
    cases o with
    | wrap k => exact dec_other hp h
    | cl lo hi => exact dec_other hp h
    | not =>
      simp only [dec] at h
      cases h' : dec pc a <;> simp [h'] at h
      rw [tr_not, ih h', h]; simp
  | ite c a b ihc iha ihb =>
    intro r h
    have hf : findF (.ite c a b) pc = some r → (T.ite c a b).tr E = r := findF_ok hp
    have hc1 : ∀ x, c.tr E = x → (T.ite c a b).tr E = if x then a.tr E else b.tr E := by
      intro x hx
      simp only [T.tr, T.den] at hx ⊢
      cases x
      · simp at hx; simp [hx]
      · simp at hx; simp [hx]
    simp only [dec] at h
    split at h
    · rename_i h'; rw [hc1 _ (ihc h')]; exact iha h
    · rename_i h'; rw [hc1 _ (ihc h')]; exact ihb h
    · split at h
      · rename_i x y h1 h2
        cases hxy : x == y <;> simp only [hxy, cond_true, cond_false] at h
        · exact hf h
        · simp at hxy h
          rw [hc1 _ rfl, iha h1, ihb h2, hxy]
          simp; rw [← h, hxy]
      · exact hf h
  | bin o a b iha ihb =>
    intro r h
    cases o with
    | and =>
      have hf : findF (.bin .and a b) pc = some r → (T.bin .and a b).tr E = r := findF_ok hp
      simp only [dec] at h
      rw [tr_and] at hf ⊢
      split at h
      · rename_i h'; rw [iha h']; simpa using h
      · rename_i h'; rw [iha h', ihb h]; simp
      · split at h
        · rename_i h'; rw [ihb h']; simpa using h
        · exact hf h
    | or =>
      have hf : findF (.bin .or a b) pc = some r → (T.bin .or a b).tr E = r := findF_ok hp
      simp only [dec] at h
      rw [tr_or] at hf ⊢
      split at h
      · rename_i h'; rw [iha h']; simpa using h
      · rename_i h'; rw [iha h', ihb h]; simp
      · split at h
        · rename_i h'; rw [ihb h']; simpa using h
        · exact hf h
    | eq =>
      refine dec_cmp hp h (fun hc => ?_) (fun hx => ?_)
      · rw [T.beq_eq hc]; simp [T.tr, T.den, O2.den]
      · simp only [T.tr, T.den, O2.den, tb_ne]; exact eqIv_ok (rngP_has a hp) (rngP_has b hp) hx
    | lt =>
      refine dec_cmp hp h (fun hc => ?_) (fun hx => ?_)
      · rw [T.beq_eq hc]; simp only [T.tr, T.den, O2.den, tb_ne, ltb_f]; exact Int.le_refl _
      · simp only [T.tr, T.den, O2.den, tb_ne]; exact orElse2_ok hx (fun h => ltIv_ok (rngP_has a hp) (rngP_has b hp) h) (fun h => orElse2_ok h (fun h => ltMod_ok hp h) (fun h => ltLn_ok hp h))
    | le =>
      refine dec_cmp hp h (fun hc => ?_) (fun hx => ?_)
      · rw [T.beq_eq hc]; simp only [T.tr, T.den, O2.den, tb_ne, leb_t]; exact Int.le_refl _
      · simp only [T.tr, T.den, O2.den, tb_ne]; exact orElse2_ok hx (fun h => leIv_ok (rngP_has a hp) (rngP_has b hp) h) (fun h => leLn_ok hp h)
    | _ => exact dec_other hp h

end Go.Sy
