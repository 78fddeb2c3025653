/- Part Sy3 of a checked reader of Go texts in their model form: it runs a function at terms in the place of numbers, and each part proves that its answers hold of the model. -/
import Derived.Test.YtjfcnhfpnjcjaaaGreatDoorQySy2
namespace Go.Sy

def T.isL (n : Int) : T → Bool
  | .lit m => m == n
  | _ => false
theorem T.isL_eq {n : Int} {t : T} (h : t.isL n = true) : t = .lit n := by
  cases t <;> simp [T.isL] at h; rw [h]
def T.is01 (t : T) : Bool := t.rng.within 0 1
theorem T.is01_or (E : Env) {t : T} (h : t.is01 = true) : t.den E = 0 ∨ t.den E = 1 := by
  have := Iv.within_has h (t.rng_has E); omega
theorem T.is01_tb (E : Env) {t : T} (h : t.is01 = true) : tb (t.den E != 0) = t.den E := by
  rcases T.is01_or E h with h | h <;> rw [h] <;> rfl

def mkNot (a : T) : T := match a with
  | .lit n => .lit (tb (n == 0))
  | .un .not x => bif x.is01 then x else .un .not (.un .not x)
  | a => .un .not a
theorem mkNot_den (E : Env) (a : T) : (mkNot a).den E = tb (a.den E == 0) := by
  unfold mkNot
  split
  · rfl
  · rename_i x
    cases h : x.is01
    · rfl
    · simp only [cond_true, T.den, O1.den]
      rcases T.is01_or E h with h | h <;> rw [h] <;> rfl
  · rfl

def mkAndS (a b : T) : T := bif a.isL 0 || b.isL 0 then .lit 0 else bif a.isL 1 && b.is01 then b else bif b.isL 1 && a.is01 then a else .bin .and a b
def mkOrS (a b : T) : T := bif a.isL 1 || b.isL 1 then .lit 1 else bif a.isL 0 && b.is01 then b else bif b.isL 0 && a.is01 then a else .bin .or a b
theorem mkAndS_den (E : Env) (a b : T) : (mkAndS a b).den E = tb (a.den E != 0 && b.den E != 0) := by
  unfold mkAndS
  cases h1 : a.isL 0 || b.isL 0
  · cases h2 : a.isL 1 && b.is01
    · cases h3 : b.isL 1 && a.is01
      · rfl
      · simp only [Bool.and_eq_true] at h3
        rw [T.isL_eq h3.1]; simp only [cond_true, cond_false, T.den]
        rcases T.is01_or E h3.2 with h | h <;> rw [h] <;> rfl
    · simp only [Bool.and_eq_true] at h2
      rw [T.isL_eq h2.1]; simp only [cond_true, cond_false, T.den]
      rcases T.is01_or E h2.2 with h | h <;> rw [h] <;> rfl
  · simp only [Bool.or_eq_true] at h1
    rcases h1 with h | h <;> rw [T.isL_eq h] <;> simp [T.den]
theorem mkOrS_den (E : Env) (a b : T) : (mkOrS a b).den E = tb (a.den E != 0 || b.den E != 0) := by
  unfold mkOrS
  cases h1 : a.isL 1 || b.isL 1
  · cases h2 : a.isL 0 && b.is01
    · cases h3 : b.isL 0 && a.is01
      · rfl
      · simp only [Bool.and_eq_true] at h3
        rw [T.isL_eq h3.1]; simp only [cond_true, cond_false, T.den]
        rcases T.is01_or E h3.2 with h | h <;> rw [h] <;> rfl
    · simp only [Bool.and_eq_true] at h2
      rw [T.isL_eq h2.1]; simp only [cond_true, cond_false, T.den]
      rcases T.is01_or E h2.2 with h | h <;> rw [h] <;> rfl
  · simp only [Bool.or_eq_true] at h1
    rcases h1 with h | h <;> rw [T.isL_eq h] <;> simp [T.den]
def mkIte (c a b : T) : T :=
  match c with
  | .lit n => bif n == 0 then b else a
  | c => bif a.beq b then a else
    bif a.isL 1 && b.isL 0 && c.is01 then c else
    bif a.isL 0 && b.isL 1 then mkNot c else
    bif a.beq c && c.is01 && b.is01 then mkOrS c b else
    bif b.isL 0 && a.is01 then mkAndS c a else
    bif a.isL 1 && b.is01 then mkOrS c b else
    bif a.isL 0 && b.is01 then mkAndS (mkNot c) b else
    bif b.isL 1 && a.is01 then mkOrS (mkNot c) a else .ite c a b
theorem mkIte_den (E : Env) (c a b : T) : (mkIte c a b).den E = if c.den E = 0 then b.den E else a.den E := by
  unfold mkIte
  have hc : (c.den E = 0 ∧ (c.den E == 0) = true) ∨ (c.den E ≠ 0 ∧ (c.den E == 0) = false) := by
    by_cases h : c.den E = 0
    · exact .inl ⟨h, by simp [h]⟩
    · exact .inr ⟨h, by simp [h]⟩
  split
  · rename_i n
    simp only [T.den]
    cases h : n == 0 <;> simp at h <;> simp [h]
  · cases h1 : a.beq b
    · simp only [cond_false]
      cases h2 : a.isL 1 && b.isL 0 && c.is01
      · simp only [cond_false]
        cases h3 : a.isL 0 && b.isL 1
        · simp only [cond_false]
          cases h8 : a.beq c && c.is01 && b.is01
          case true =>
            simp only [Bool.and_eq_true] at h8
            have e8 := T.beq_eq h8.1.1
            subst e8
            rw [cond_true, mkOrS_den]
            rcases hc with ⟨hc, hc'⟩ | ⟨hc, hc'⟩ <;> rcases T.is01_or E h8.2 with h | h <;> rcases T.is01_or E h8.1.2 with h' | h' <;> simp_all [bne]
          simp only [cond_false]
          cases h4 : b.isL 0 && a.is01
          · simp only [cond_false]
            cases h5 : a.isL 1 && b.is01
            · simp only [cond_false]
              cases h6 : a.isL 0 && b.is01
              · simp only [cond_false]
                cases h7 : b.isL 1 && a.is01
                · rfl
                · simp only [Bool.and_eq_true] at h7
                  rw [cond_true, mkOrS_den, mkNot_den, T.isL_eq h7.1]
                  simp only [T.den]
                  rcases hc with ⟨hc, hc'⟩ | ⟨hc, hc'⟩ <;> rcases T.is01_or E h7.2 with h | h <;> simp [h, hc, hc', bne]
              · simp only [Bool.and_eq_true] at h6
                rw [cond_true, mkAndS_den, mkNot_den, T.isL_eq h6.1]
                simp only [T.den]
                rcases hc with ⟨hc, hc'⟩ | ⟨hc, hc'⟩ <;> rcases T.is01_or E h6.2 with h | h <;> simp [h, hc, hc', bne]
            · simp only [Bool.and_eq_true] at h5
              rw [cond_true, mkOrS_den, T.isL_eq h5.1]
              simp only [T.den]
              rcases hc with ⟨hc, hc'⟩ | ⟨hc, hc'⟩ <;> rcases T.is01_or E h5.2 with h | h <;> simp [h, hc, hc', bne]
          · simp only [Bool.and_eq_true] at h4
            rw [cond_true, mkAndS_den, T.isL_eq h4.1]
            simp only [T.den]
            rcases hc with ⟨hc, hc'⟩ | ⟨hc, hc'⟩ <;> rcases T.is01_or E h4.2 with h | h <;> simp [h, hc, hc', bne]
        · simp only [Bool.and_eq_true] at h3
          rw [T.isL_eq h3.1, T.isL_eq h3.2, cond_true, mkNot_den]
          simp only [T.den]
          rcases hc with ⟨hc, hc'⟩ | ⟨hc, hc'⟩ <;> simp [hc, hc']
      · simp only [Bool.and_eq_true] at h2
        rw [T.isL_eq h2.1.1, T.isL_eq h2.1.2, cond_true]
        simp only [T.den]
        rcases T.is01_or E h2.2 with h | h <;> simp [h]
    · rw [T.beq_eq h1]; simp

def pushL (f : Int → Int) : T → Option T
  | .lit n => some (.lit (f n))
  | .ite c a b => match pushL f a with
    | some x => match pushL f b with
      | some y => some (mkIte c x y)
      | none => none
    | none => none
  | _ => none
theorem pushL_den (E : Env) (f : Int → Int) : ∀ {t t' : T}, pushL f t = some t' → t'.den E = f (t.den E) := by
  intro t
  induction t with
  | lit n => intro t' h; cases h; rfl
  | ite c a b ihc iha ihb =>
    intro t' h
    simp only [pushL] at h
    split at h
    · rename_i x h1
      split at h
      · rename_i y h2
        cases h
        rw [mkIte_den, iha h1, ihb h2]
        simp only [T.den]
        split <;> rfl
      · cases h
    · cases h
  | _ => intro t' h; cases h

/-- 'at most' told as 'below', where a number stands on a side. -/
def leS (a b : T) : T := match b with
  | .lit n => .bin .lt a (.lit (n + 1))
  | b => match a with
    | .lit n => .bin .lt (.lit (n - 1)) b
    | a => .bin .le a b
theorem leS_den (E : Env) (a b : T) : (leS a b).den E = O2.den .le (a.den E) (b.den E) := by
  unfold leS
  split
  · rename_i n
    simp only [T.den, O2.den]
    congr 1
    rw [Bool.eq_iff_iff, ltb_t, leb_t]; omega
  · split
    · rename_i n
      simp only [T.den, O2.den]
      congr 1
      rw [Bool.eq_iff_iff, ltb_t, leb_t]; omega
    · rfl
theorem wrap_zero {k : IntKind} {n : Int} (h0 : 0 ≤ n) (h1 : n ≤ 2 ^ k.bits - 1) : (k.wrap n == 0) = (n == 0) := by
  rw [Bool.eq_iff_iff, beq_iff_eq, beq_iff_eq]
  cases k <;> simp [IntKind.wrap, IntKind.signed, IntKind.bits] at h1 ⊢ <;> (try split) <;> omega
/-- A number that is wrapped is none where it was none. -/
def eqS (a b : T) : T := match b with
  | .lit n => match a with
    | .un (.wrap k) t => bif n == 0 && t.rng.within 0 (2 ^ k.bits - 1) then .bin .eq t (.lit 0) else .bin .eq (.un (.wrap k) t) (.lit n)
    | a => .bin .eq a (.lit n)
  | b => .bin .eq a b
theorem eqS_den (E : Env) (a b : T) : (eqS a b).den E = O2.den .eq (a.den E) (b.den E) := by
  unfold eqS
  split
  · split
    · rename_i n _ k t
      cases h : n == 0 && t.rng.within 0 (2 ^ k.bits - 1)
      · rfl
      · rw [Bool.and_eq_true, beq_iff_eq] at h
        obtain ⟨rfl, h⟩ := h
        have hr := Iv.within_has h (t.rng_has E)
        simp only [cond_true, T.den, O2.den, O1.den]
        rw [wrap_zero hr.1 hr.2]
    · rfl
  · rfl
/-! quotients and rests: one of another -/
def div1 (q : T) (n : Int) : T := match q with
  | .bin .tdiv x (.lit m) => bif ltb 0 m then .bin .tdiv x (.lit (m * n)) else .bin .tdiv q (.lit n)
  | q => .bin .tdiv q (.lit n)
theorem tdiv_two (q : Int) {m n : Int} (hm : 0 < m) (hn : 0 < n) : (q.tdiv m).tdiv n = q.tdiv (m * n) := by
  obtain ⟨a, rfl⟩ := Int.eq_ofNat_of_zero_le (Int.le_of_lt hm)
  obtain ⟨b, rfl⟩ := Int.eq_ofNat_of_zero_le (Int.le_of_lt hn)
  have key : ∀ p : Nat, ((p : Int).tdiv a).tdiv b = (p : Int).tdiv ((a : Int) * b) := fun p => by
    rw [← Int.natCast_mul, ← Int.ofNat_tdiv, ← Int.ofNat_tdiv, ← Int.ofNat_tdiv, Nat.div_div_eq_div_mul]
  rcases Int.eq_nat_or_neg q with ⟨p, rfl | rfl⟩
  · exact key p
  · rw [Int.neg_tdiv, Int.neg_tdiv, Int.neg_tdiv, key]
theorem div1_den (E : Env) (q : T) {n : Int} (hn : 0 < n) : (div1 q n).den E = (q.den E).tdiv n := by
  unfold div1
  split
  · rename_i x m
    cases h : ltb 0 m
    · rfl
    · rw [ltb_t] at h
      simp only [cond_true, T.den, O2.den]
      exact (tdiv_two _ h hn).symm
  · rfl
theorem tdiv_tmod (q : Int) {k l : Int} (hk : 0 < k) (hl : 0 < l) : (q.tmod (k * l)).tdiv k = (q.tdiv k).tmod l := by
  obtain ⟨a, rfl⟩ := Int.eq_ofNat_of_zero_le (Int.le_of_lt hk)
  obtain ⟨b, rfl⟩ := Int.eq_ofNat_of_zero_le (Int.le_of_lt hl)
  have key : ∀ p : Nat, ((p : Int).tmod ((a : Int) * b)).tdiv a = ((p : Int).tdiv a).tmod b := fun p => by
    rw [← Int.natCast_mul, ← Int.ofNat_tmod, ← Int.ofNat_tdiv, ← Int.ofNat_tdiv, ← Int.ofNat_tmod, Nat.mod_mul_right_div_self]
  rcases Int.eq_nat_or_neg q with ⟨p, rfl | rfl⟩
  · exact key p
  · rw [Int.neg_tmod, Int.neg_tdiv, Int.neg_tdiv, Int.neg_tmod, key]
def divS (a b : T) : T := match b with
  | .lit n => bif ltb 0 n then (match a with
    | .bin .tmod q (.lit m) => bif ltb 0 (Int.tdiv m n) && (Int.mul n (Int.tdiv m n) == m) then .bin .tmod (div1 q n) (.lit (Int.tdiv m n)) else .bin .tdiv a (.lit n)
    | a => div1 a n) else .bin .tdiv a (.lit n)
  | b => .bin .tdiv a b
theorem divS_den (E : Env) (a b : T) : (divS a b).den E = (a.den E).tdiv (b.den E) := by
  unfold divS
  split
  · rename_i n
    cases hn : ltb 0 n
    · rfl
    · rw [ltb_t] at hn
      simp only [cond_true]
      split
      · rename_i q m
        cases h : ltb 0 (Int.tdiv m n) && (Int.mul n (Int.tdiv m n) == m)
        · rfl
        · simp only [Bool.and_eq_true, ltb_t, beq_iff_eq] at h
          obtain ⟨h1, h2⟩ := h
          change n * (m.tdiv n) = m at h2
          simp only [cond_true, T.den, O2.den, div1_den E q hn]
          rw [← tdiv_tmod _ hn h1, h2]
      · exact div1_den E _ hn
  · rfl
def modS (a b : T) : T := match b with
  | .lit n => match a with
    | .bin .tmod q (.lit m) => bif ltb 0 n && (Int.mul n (Int.tdiv m n) == m) then .bin .tmod q (.lit n) else .bin .tmod a (.lit n)
    | a => .bin .tmod a (.lit n)
  | b => .bin .tmod a b
theorem modS_den (E : Env) (a b : T) : (modS a b).den E = (a.den E).tmod (b.den E) := by
  unfold modS
  split
  · rename_i n
    split
    · rename_i q m
      cases h : ltb 0 n && (Int.mul n (Int.tdiv m n) == m)
      · rfl
      · simp only [Bool.and_eq_true, ltb_t, beq_iff_eq] at h
        obtain ⟨h1, h2⟩ := h
        change n * (m.tdiv n) = m at h2
        simp only [cond_true, T.den, O2.den]
        exact (Int.tmod_tmod_of_dvd _ ⟨m.tdiv n, h2.symm⟩).symm
    · rfl
  · rfl
/-- A quotient below a number; a number below its quotient's multiple (never). -/
def ltS (a b : T) : T := match b with
  | .lit n => match a with
    | .bin .tdiv x (.lit k) => bif leb 1 k && x.rng.within 0 9223372036854775807 then .bin .lt x (.lit (n * k)) else .bin .lt (.bin .tdiv x (.lit k)) (.lit n)
    | a => .bin .lt a (.lit n)
  | .bin .mul y (.lit k) => bif ltb 0 k && a.rng.nneg && (div1 a k).beq y then .lit 0 else .bin .lt a (.bin .mul y (.lit k))
  | b => .bin .lt a b
theorem ltS_den (E : Env) (a b : T) : (ltS a b).den E = O2.den .lt (a.den E) (b.den E) := by
  unfold ltS
  split
  · split
    · rename_i n _ x k
      cases h : leb 1 k && x.rng.within 0 9223372036854775807
      · rfl
      · rw [Bool.and_eq_true, leb_t] at h
        have hr := Iv.within_has h.2 (x.rng_has E)
        simp only [cond_true, T.den, O2.den]
        congr 1
        rw [Bool.eq_iff_iff, ltb_t, ltb_t, Int.tdiv_eq_ediv_of_nonneg hr.1]
        exact (Int.ediv_lt_iff_lt_mul (by omega)).symm
    · rfl
  · rename_i y k
    cases h : ltb 0 k && a.rng.nneg && (div1 a k).beq y
    · rfl
    · simp only [Bool.and_eq_true, ltb_t] at h
      obtain ⟨⟨h1, h2⟩, h3⟩ := h
      have h2 := Iv.nneg_has h2 (a.rng_has E)
      have h3 := T.beq_eq h3
      subst h3
      simp only [cond_true, T.den, O2.den, div1_den E a h1]
      have h4 : a.den E / k * k ≤ a.den E := Int.ediv_mul_le _ (by omega)
      have : ltb (a.den E) ((a.den E).tdiv k * k) = false := by
        rw [ltb_f, Int.tdiv_eq_ediv_of_nonneg h2]; exact h4
      rw [this]; rfl
  · rfl
/-- 'q / k * k + q % k' is q; a number comes last. -/
def addDm (a b : T) : T := match a with
  | .lit n => match b with
    | .bin .tmod q (.lit k) => bif ltb 0 k && (match oneOf (div1 q k).rng with | some m => m * k == n | none => false) then q else .bin .add (.bin .tmod q (.lit k)) (.lit n)
    | b => .bin .add b (.lit n)
  | .bin .mul x (.lit k) => match b with
    | .bin .tmod q (.lit k') => bif ltb 0 k && (k' == k) && (div1 q k).beq x then q else .bin .add (.bin .mul x (.lit k)) (.bin .tmod q (.lit k'))
    | b => .bin .add (.bin .mul x (.lit k)) b
  | a => .bin .add a b
theorem addDm_den (E : Env) (a b : T) : (addDm a b).den E = a.den E + b.den E := by
  unfold addDm
  split
  · rename_i n
    split
    · rename_i q k
      cases h : ltb 0 k && (match oneOf (div1 q k).rng with | some m => m * k == n | none => false)
      · exact Int.add_comm _ _
      · rw [Bool.and_eq_true, ltb_t] at h
        obtain ⟨h1, h2⟩ := h
        split at h2
        · rename_i m hm
          have h3 := oneOf_ok ((div1 q k).rng_has E) hm
          rw [div1_den E q h1] at h3
          have h2 := beq_iff_eq.1 h2
          simp only [cond_true, T.den, O2.den]
          have h4 := Int.tmod_def (q.den E) k
          rw [h3, Int.mul_comm, h2] at h4
          omega
        · cases h2
    · exact Int.add_comm _ _
  · rename_i x k
    split
    · rename_i q k'
      cases h : ltb 0 k && (k' == k) && (div1 q k).beq x
      · rfl
      · simp only [Bool.and_eq_true, ltb_t, beq_iff_eq] at h
        obtain ⟨⟨h1, rfl⟩, h3⟩ := h
        have h3 := T.beq_eq h3
        simp only [cond_true, T.den, O2.den, ← h3, div1_den E q h1]
        have := Int.tmod_def (q.den E) k'
        rw [this, Int.mul_comm]; omega
    · rfl
  · rfl
/-- A sum with a number. -/
def addN (a : T) (n : Int) : T := match a with
  | .bin .add x (.lit m) => bif m + n == 0 then x else .bin .add x (.lit (m + n))
  | a => bif n == 0 then a else .bin .add a (.lit n)
theorem addN_den (E : Env) (a : T) (n : Int) : (addN a n).den E = a.den E + n := by
  unfold addN
  split
  · rename_i x m
    cases h : m + n == 0
    · simp only [cond_false, T.den, O2.den]; omega
    · have := beq_iff_eq.1 h
      simp only [cond_true, T.den, O2.den]; omega
  · cases h : n == 0
    · rfl
    · have := beq_iff_eq.1 h
      simp only [cond_true]; omega
def negL (t : T) : T := match t with
  | .bin .sub (.lit m) x => addN x (-m)
  | .bin .sub x (.lit m) => .bin .sub (.lit m) x
  | .bin .add x (.lit m) => .bin .sub (.lit (-m)) x
  | t => .bin .sub (.lit 0) t
theorem negL_den (E : Env) (t : T) : (negL t).den E = - t.den E := by
  unfold negL
  split
  · rw [addN_den]; simp only [T.den, O2.den]; omega
  · simp only [T.den, O2.den]; omega
  · simp only [T.den, O2.den]; omega
  · simp only [T.den, O2.den]; omega
/-- What is taken from nought. -/
def subS (a b : T) : T := match a with
  | .lit n => bif n == 0 then negL b else .bin .sub (.lit n) b
  | a => .bin .sub a b
theorem subS_den (E : Env) (a b : T) : (subS a b).den E = a.den E - b.den E := by
  unfold subS
  split
  · rename_i n
    cases h : n == 0
    · rfl
    · rw [beq_iff_eq] at h
      subst h
      simp only [cond_true, negL_den, T.den]; omega
  · rfl
def mk2s (o : O2) (a b : T) : T :=
  match o with
  | .and => mkAndS a b
  | .or => mkOrS a b
  | .eq => bif a.beq b then .lit 1 else eqS a b
  | .add => bif a.isL 0 then b else bif b.isL 0 then a else addDm a b
  | .tdiv => divS a b
  | .tmod => modS a b
  | .sub => bif b.isL 0 then a else bif a.beq b then .lit 0 else subS a b
  | .le => leS a b
  | .lt => ltS a b
  | .shl k => bif b.isL 0 && a.rng.within (kmin k) (kmax k) then a else .bin (.shl k) a b
  | .shr k => bif b.isL 0 then a else .bin (.shr k) a b
  | o => .bin o a b
theorem mk2s_den (E : Env) (o : O2) (a b : T) : (mk2s o a b).den E = o.den (a.den E) (b.den E) := by
  unfold mk2s
  split
  · exact mkAndS_den E a b
  · exact mkOrS_den E a b
  · cases h1 : a.beq b
    · exact eqS_den E a b
    · rw [T.beq_eq h1]; simp [T.den, O2.den]
  · cases h1 : a.isL 0
    · cases h2 : b.isL 0
      · exact addDm_den E a b
      · rw [T.isL_eq h2]; simp [T.den, O2.den]
    · rw [T.isL_eq h1]; simp [T.den, O2.den]
  · exact divS_den E a b
  · exact modS_den E a b
  · cases h2 : b.isL 0
    · cases h1 : a.beq b
      · exact subS_den E a b
      · rw [T.beq_eq h1]; simp [T.den, O2.den]
    · rw [T.isL_eq h2]; simp [T.den, O2.den]
  · exact leS_den E a b
  · exact ltS_den E a b
  · rename_i k
    cases h : b.isL 0 && a.rng.within (kmin k) (kmax k)
    · rfl
    · rw [Bool.and_eq_true] at h
      rw [T.isL_eq h.1]
      have := Iv.within_has h.2 (a.rng_has E)
      rw [kmin_eq, kmax_eq] at this
      simp only [cond_true, T.den, O2.den]
      have e : (2 : Int) ^ (min (Int.toNat 0) k.bits) = 1 := by simp
      rw [e, Int.mul_one, wrap_in k _ this]
  · rename_i k
    cases h : b.isL 0
    · rfl
    · rw [T.isL_eq h]
      simp only [cond_true, T.den, O2.den]
      have e : (2 : Int) ^ (min (Int.toNat 0) k.bits) = 1 := by simp
      rw [e, Int.fdiv_one]
  · rfl
def mk2 (o : O2) (a b : T) : T :=
  match b with
  | .lit y => match a with
    | .lit x => .lit (o.fold x y)
    | a => match pushL (fun x => o.fold x y) a with
      | some t => t
      | none => mk2s o a (.lit y)
  | b => match a with
    | .lit x => match pushL (fun y => o.fold x y) b with
      | some t => t
      | none => mk2s o (.lit x) b
    | a => mk2s o a b
theorem mk2_den (E : Env) (o : O2) (a b : T) : (mk2 o a b).den E = o.den (a.den E) (b.den E) := by
  unfold mk2
  split
  · split
    · simp only [T.den, O2.fold_eq]
    · split
      · rename_i h; rw [pushL_den E _ h, O2.fold_eq]; rfl
      · exact mk2s_den E _ _ _
  · split
    · split
      · rename_i h; rw [pushL_den E _ h, O2.fold_eq]; rfl
      · exact mk2s_den E _ _ _
    · exact mk2s_den E _ _ _
/-- Does a sum lie within a range, by sums? -/
def inR (pc : Pc) (lo hi : Int) (t : T) : Bool := t.isSum && geL pc (linT t (-1) ⟨hi, []⟩) && geL pc (linT t 1 ⟨-lo, []⟩)
theorem inR_ok {E : Env} {pc : Pc} (hp : pcOk E pc) {lo hi : Int} {t : T} (h : inR pc lo hi t = true) : (lo ≤ t.den E ∧ t.den E ≤ hi) ∧ ∀ j, t.row E j = t.den E := by
  simp only [inR, Bool.and_eq_true] at h
  have h1 := geL_ok hp h.1.2
  have h2 := geL_ok hp h.2
  rw [linT_den] at h1 h2
  simp only [Ln.den, msDen] at h1 h2
  refine ⟨by omega, fun j => ?_⟩
  have h0 := h.1.1
  unfold T.isSum at h0
  split at h0
  · rfl
  · rfl
  · cases h0
theorem wrapOff (k : IntKind) (n q : Int) : k.wrap (n - q * kmod k) = k.wrap n := by
  cases k <;> simp [IntKind.wrap, IntKind.bits, IntKind.signed, kmod] <;> (try split) <;> (try split) <;> omega
theorem wrapIs (k : IntKind) (n : Int) : ∃ q : Int, k.wrap n = n - q * kmod k := by
  by_cases h : ksig k = true ∧ kmod k ≤ 2 * (n % kmod k)
  · refine ⟨n / kmod k + 1, ?_⟩
    cases k <;> simp [ksig, kmod] at h <;> simp [IntKind.wrap, IntKind.bits, IntKind.signed, kmod] <;> (try split) <;> omega
  · refine ⟨n / kmod k, ?_⟩
    cases k <;> simp [ksig, kmod] at h <;> simp [IntKind.wrap, IntKind.bits, IntKind.signed, kmod] <;> (try split) <;> omega
theorem wrap_plus (k : IntKind) (a n : Int) : k.wrap (k.wrap a + n) = k.wrap (a + n) := by
  obtain ⟨q, h⟩ := wrapIs k a
  rw [h, ← wrapOff k (a + n) q]
  congr 1; omega
theorem kmod_dvd {k k' : IntKind} (h : Nat.ble (kbits k) (kbits k') = true) : ∃ c : Int, kmod k' = c * kmod k := by
  cases k <;> cases k' <;> first | (cases h; done) | exact ⟨1, rfl⟩ | exact ⟨256, rfl⟩ | exact ⟨65536, rfl⟩ | exact ⟨16777216, rfl⟩ | exact ⟨4294967296, rfl⟩ | exact ⟨281474976710656, rfl⟩ | exact ⟨72057594037927936, rfl⟩
theorem wrap_less {k k' : IntKind} (h : Nat.ble (kbits k) (kbits k') = true) (n : Int) : k.wrap (k'.wrap n) = k.wrap n := by
  obtain ⟨q, hq⟩ := wrapIs k' n
  obtain ⟨c, hc⟩ := kmod_dvd h
  rw [hq, hc, ← Int.mul_assoc, wrapOff]
/-- A sum, its number last. -/
def addT (a b : T) : T := match a with
  | .bin .add x (.lit n) => addN (.bin .add x b) n
  | a => .bin .add a b
theorem addT_den (E : Env) (a b : T) : (addT a b).den E = a.den E + b.den E := by
  unfold addT
  split
  · rw [addN_den]; simp only [T.den, O2.den]; omega
  · rfl
/-- 'p - q + q' is p. -/
def addS (a b : T) : T := match a with
  | .bin .sub p q => bif q.beq b then p else .bin .add a b
  | a => addT a b
theorem addS_den (E : Env) (a b : T) : (addS a b).den E = a.den E + b.den E := by
  unfold addS
  split
  · rename_i p q
    cases h : q.beq b <;> simp only [cond_true, cond_false]
    · rfl
    · rw [T.beq_eq h]; simp only [T.den, O2.den]; omega
  · exact addT_den E _ b
/-- What is wrapped anyway: less of it. -/
def flatS (k : IntKind) (t : T) : T := match t with
  | .bin .add (.un (.wrap k') a) (.lit n) => bif decide (k = k') then addN a n else addN (.un (.wrap k') a) n
  | .bin .sub (.un (.wrap k') a) (.lit n) => bif decide (k = k') then addN a (-n) else addN (.un (.wrap k') a) (-n)
  | .bin .add a (.lit n) => addN a n
  | .bin .sub a (.lit n) => addN a (-n)
  | .bin .add (.un (.wrap k') a) b => bif decide (k = k') then addS a b else .bin .add (.un (.wrap k') a) b
  | .un (.wrap k') a => bif Nat.beq (kbits k) (kbits k') then a else .un (.wrap k') a
  | t => t
theorem flatS_den (E : Env) (k : IntKind) (t : T) : k.wrap ((flatS k t).den E) = k.wrap (t.den E) := by
  unfold flatS
  split
  · rename_i k' a n
    cases h : decide (k = k') <;> simp only [cond_true, cond_false, addN_den]
    · rfl
    · rw [decide_eq_true_eq] at h; subst h
      exact (wrap_plus k _ n).symm
  · rename_i k' a n
    cases h : decide (k = k') <;> simp only [cond_true, cond_false, addN_den]
    · simp only [T.den, O2.den]; congr 1
    · rw [decide_eq_true_eq] at h; subst h
      rw [← wrap_plus k _ (-n)]
      simp only [T.den, O2.den, O1.den]; congr 1
  · rw [addN_den]; rfl
  · rw [addN_den]; simp only [T.den, O2.den]; congr 1
  · rename_i k' a b _
    cases h : decide (k = k') <;> simp only [cond_true, cond_false]
    rw [decide_eq_true_eq] at h; subst h
    rw [addS_den]
    exact (wrap_plus k _ _).symm
  · rename_i k' a
    cases h : Nat.beq (kbits k) (kbits k') <;> simp only [cond_true, cond_false]
    exact (wrap_less (by rw [Nat.ble_eq, Nat.eq_of_beq_eq_true h]; exact Nat.le_refl _) _).symm
  · rfl
/-- A term taken from a number, its sum told shorter. -/
def subL0 (m : Int) (x : T) : T := match x with
  | .bin .sub (.lit c) y => addN y (m - c)
  | .bin .add y (.lit c) => .bin .sub (.lit (m - c)) y
  | .bin .sub y (.lit c) => .bin .sub (.lit (m + c)) y
  | x => .bin .sub (.lit m) x
theorem subL0_den (E : Env) (m : Int) (x : T) : (subL0 m x).den E = m - x.den E := by
  unfold subL0
  split
  · rw [addN_den]; simp only [T.den, O2.den]; omega
  · simp only [T.den, O2.den]; omega
  · simp only [T.den, O2.den]; omega
  · rfl
def subL (m : Int) (x : T) : T := match x with
  | .bin .add y (.lit c) => subL0 (m - c) y
  | .bin .sub y (.lit c) => subL0 (m + c) y
  | x => subL0 m x
theorem subL_den (E : Env) (m : Int) (x : T) : (subL m x).den E = m - x.den E := by
  unfold subL
  split
  · rw [subL0_den]; simp only [T.den, O2.den]; omega
  · rw [subL0_den]; simp only [T.den, O2.den]; omega
  · exact subL0_den E _ _
def linN (t : T) (n : Int) : T := match t with
  | .bin .sub (.lit m) x => subL (m + n) x
  | .bin .sub x (.lit m) => addN x (n - m)
  | t => addN t n
theorem linN_den (E : Env) (t : T) (n : Int) : (linN t n).den E = t.den E + n := by
  unfold linN
  split
  · rw [subL_den]; simp only [T.den, O2.den]; omega
  · rw [addN_den]; simp only [T.den, O2.den]; omega
  · exact addN_den E _ _
/-- What lies one turn off. -/
def shW (pc : Pc) (k : IntKind) (t : T) : Option T :=
  bif (rngP pc t).within (kmin k - kmod k) (kmax k - kmod k) then some (linN t (kmod k)) else bif (rngP pc t).within (kmin k + kmod k) (kmax k + kmod k) then some (linN t (-kmod k)) else none
theorem shW_ok {E : Env} {pc : Pc} (hp : pcOk E pc) {k : IntKind} {t u : T} (h : shW pc k t = some u) : u.den E = k.wrap (t.den E) := by
  unfold shW at h
  cases h1 : (rngP pc t).within (kmin k - kmod k) (kmax k - kmod k) <;> simp only [h1, cond_true, cond_false] at h
  · cases h2 : (rngP pc t).within (kmin k + kmod k) (kmax k + kmod k) <;> simp only [h2, cond_true, cond_false] at h
    · cases h
    · cases h
      have hr := Iv.within_has h2 (rngP_has t hp)
      rw [linN_den, ← wrapOff k (t.den E) 1]
      rw [wrap_in k _ (by rw [← kmin_eq, ← kmax_eq]; omega)]; omega
  · cases h
    have hr := Iv.within_has h1 (rngP_has t hp)
    rw [linN_den, ← wrapOff k (t.den E) (-1)]
    rw [wrap_in k _ (by rw [← kmin_eq, ← kmax_eq]; omega)]; omega
/-- (Sums without a sign stay wrapped but where their terms' ranges tell: ways are merged, and what is known on one is lost.) -/
def mkW0 (pc : Pc) (k : IntKind) (t : T) : T :=
  match pushL (kwrap k) t with
  | some t' => t'
  | none => bif t.rng.within (kmin k) (kmax k) || ((ksig k || !t.isSum) && ((rngP pc t).within (kmin k) (kmax k) || inR pc (kmin k) (kmax k) t)) then t else (shW pc k t).getD (.un (.wrap k) t)
theorem mkW0_den {E : Env} {pc : Pc} (hp : pcOk E pc) (k : IntKind) (t : T) : (mkW0 pc k t).den E = k.wrap (t.den E) := by
  unfold mkW0
  split
  · rename_i h; rw [pushL_den E _ h, kwrap_eq]
  · cases h : t.rng.within (kmin k) (kmax k) || ((ksig k || !t.isSum) && ((rngP pc t).within (kmin k) (kmax k) || inR pc (kmin k) (kmax k) t))
    · simp only [cond_false]
      cases h2 : shW pc k t with
      | none => rfl
      | some u => exact shW_ok hp h2
    · rw [cond_true, wrap_in k _ (by
        rw [← kmin_eq, ← kmax_eq]
        rw [Bool.or_eq_true, Bool.and_eq_true, Bool.or_eq_true (a := (rngP pc t).within (kmin k) (kmax k))] at h
        rcases h with h | ⟨_, h | h⟩
        · exact Iv.within_has h (T.rng_has E t)
        · exact Iv.within_has h (rngP_has t hp)
        · exact (inR_ok hp h).1)]
def mkW (pc : Pc) (k : IntKind) (t : T) : T := mkW0 pc k (flatS k t)
theorem mkW_den {E : Env} {pc : Pc} (hp : pcOk E pc) (k : IntKind) (t : T) : (mkW pc k t).den E = k.wrap (t.den E) := by
  unfold mkW
  rw [mkW0_den hp, flatS_den]
/-- A number, where it is known. -/
def one (pc : Pc) (t : T) : T := match t with
  | .lit n => .lit n
  | t => match oneOf (rngP pc t) with
    | some n => .lit n
    | none => t
theorem one_den {E : Env} {pc : Pc} (hp : pcOk E pc) (t : T) : (one pc t).den E = t.den E := by
  unfold one
  split
  · rfl
  · split
    · rename_i n h; exact (oneOf_ok (rngP_has t hp) h).symm
    · rfl
/-- A truth, where it is known. -/
def norm (pc : Pc) (t : T) : T := match dec pc t with
  | some b => .lit (tb b)
  | none => t
theorem norm_tr {E : Env} {pc : Pc} (hp : pcOk E pc) (t : T) : (norm pc t).tr E = t.tr E := by
  unfold norm
  split
  · rename_i b h; rw [dec_ok hp h]; simp only [T.tr, T.den, tb_ne]
  · rfl


/-- Held within a range, where it isn't known to be. -/
def mkCl (pc : Pc) (lo hi : Int) (a : T) : T := bif ((rngP pc a).within lo hi && a.rrg.within lo hi) || inR pc lo hi a then a else .un (.cl lo hi) a
theorem clamp_id {lo hi n : Int} (h : lo ≤ n ∧ n ≤ hi) : clamp lo hi n = n := by
  unfold clamp; rw [if_neg (by omega), if_neg (by omega)]
theorem mkCl_ok {E : Env} {pc : Pc} (hp : pcOk E pc) (lo hi : Int) (a : T) : (mkCl pc lo hi a).den E = clamp lo hi (a.den E) ∧ ∀ j, (mkCl pc lo hi a).row E j = clamp lo hi (a.row E j) := by
  unfold mkCl
  cases h : ((rngP pc a).within lo hi && a.rrg.within lo hi) || inR pc lo hi a <;> simp only [cond_true, cond_false]
  · exact ⟨rfl, fun j => rfl⟩
  · rw [Bool.or_eq_true] at h
    rcases h with h | h
    · rw [Bool.and_eq_true] at h
      exact ⟨(clamp_id (Iv.within_has h.1 (rngP_has a hp))).symm, fun j => (clamp_id (Iv.within_has h.2 (a.rrg_has E j))).symm⟩
    · obtain ⟨h1, h2⟩ := inR_ok hp h
      exact ⟨(clamp_id h1).symm, fun j => by rw [h2 j, clamp_id h1]⟩

/-- A row's number at a place. -/
def selQ (pc : Pc) : T → T → T
  | .lit n, _ => .lit n
  | .upd s j x, i => match dec pc (mk2 .eq i j) with
    | some true => x
    | some false => selQ pc s i
    | none => .sel (.upd s j x) i
  | .ite c a b, i => match dec pc c with
    | some true => selQ pc a i
    | some false => selQ pc b i
    | none => .sel (.ite c a b) i
  | .sh s o, i => selQ pc s (mk2 .add i o)
  | .blit d o n s, i => match dec pc (mk2 .le o i), dec pc (mk2 .lt i (mk2 .add o n)) with
    | some true, some true => selQ pc s (mk2 .sub i o)
    | some false, _ => selQ pc d i
    | _, some false => selQ pc d i
    | _, _ => .sel (.blit d o n s) i
  | s, i => .sel s i
def selP (pc : Pc) (i s : T) : T := selQ pc s i
theorem selQ_den {E : Env} {pc : Pc} (hp : pcOk E pc) (s : T) : ∀ i : T, (selQ pc s i).den E = s.row E (i.den E) := by
  have tr2 : ∀ (o : O2) (a b : T), (mk2 o a b).tr E = (o.den (a.den E) (b.den E) != 0) := fun o a b => by simp only [T.tr, mk2_den]
  induction s with
  | upd s j x ihs _ _ =>
    intro i
    simp only [selQ, T.row]
    split
    · rename_i h
      have := dec_ok hp h
      rw [tr2] at this
      simp only [O2.den, tb_ne, beq_iff_eq] at this
      rw [if_pos this]
    · rename_i h
      have := dec_ok hp h
      rw [tr2] at this
      simp only [O2.den, tb_ne, beq_eq_false_iff_ne] at this
      rw [if_neg this, ihs]
    · simp only [T.den, T.row]
  | ite c a b _ iha ihb =>
    intro i
    simp only [selQ, T.row]
    split
    · rename_i h
      have := dec_ok hp h
      simp only [T.tr, bne_iff_ne] at this
      rw [if_neg this, iha]
    · rename_i h
      have := dec_ok hp h
      simp only [T.tr, bne_eq_false_iff_eq] at this
      rw [if_pos this, ihb]
    · simp only [T.den, T.row]
  | sh s o ihs _ => intro i; simp only [selQ, T.row, ihs, mk2_den, O2.den]
  | blit d o n s ihd _ _ ihs =>
    intro i
    simp only [selQ, T.row]
    have e1 : ∀ b, dec pc (mk2 .le o i) = some b → leb (o.den E) (i.den E) = b := fun b h => by
      have := dec_ok hp h; rw [tr2] at this; simpa only [O2.den, tb_ne] using this
    have e2 : ∀ b, dec pc (mk2 .lt i (mk2 .add o n)) = some b → ltb (i.den E) (o.den E + n.den E) = b := fun b h => by
      have := dec_ok hp h; rw [tr2, mk2_den] at this; simpa only [O2.den, tb_ne] using this
    split
    · rename_i h1 h2
      have a1 := e1 _ h1
      have a2 := e2 _ h2
      rw [leb_t] at a1
      rw [ltb_t] at a2
      rw [if_pos ⟨a1, a2⟩, ihs, mk2_den]
      rfl
    · rename_i h1
      have a1 := e1 _ h1
      rw [leb_f] at a1
      rw [if_neg (by omega), ihd]
    · rename_i h2 _
      have a2 := e2 _ h2
      rw [ltb_f] at a2
      rw [if_neg (by omega), ihd]
    · simp only [T.den, T.row]
  | lit n => intro i; rfl
  | _ => intro i; rfl
theorem selP_den {E : Env} {pc : Pc} (hp : pcOk E pc) (i : T) (s : T) : (selP pc i s).den E = s.row E (i.den E) := selQ_den hp s i

/-! values -/
/-- Kinds of a number's cell. -/
inductive K where
  | i (k : IntKind)
  | b
  deriving DecidableEq
def K.val : K → Int → Value
  | .i k, n => .int k n
  | .b, n => .bool (n != 0)
/-- A column of a row of structs: a cell's kind, how many lie beside one another, the numbers (one behind the other). -/
structure Col where
  k : K
  m : Nat
  s : T
def wid : List Col → Nat
  | [] => 0
  | c :: r => c.m + wid r
/-- Which column a cell of an element is in, where in it. -/
def colAt : List Col → Nat → Option (Col × Nat)
  | [], _ => none
  | c :: r, p => bif Nat.blt p c.m then some (c, p) else colAt r (p - c.m)
inductive C where
  | int (k : IntKind) (t : T)
  | bool (t : T)
  | ptr (b o : Nat)
  | pti (b o : Nat) (ix : T) (sz cnt : Nat)     -- the address o + ix * sz, ix below cnt
  | nilp
  | slc (b o len : Nat)
  | nils
  | fn (f : Nat)
  | clo (f : Nat) (caps : List (Nat × Nat))
  | raw (v : Value)
  | any
  | str (n s : T)
  | slr (b z : Nat) (o n : T)                   -- a slice of a row, from element o on
  | sln (b z : Nat) (n : T)                     -- a whole row's slice: it may be appended to
  | pta (b z : Nat) (i : T) (o : Nat) (r : T)   -- the address i * z + o + r
  | ifc (t : TypeId) (g : Bool) (cs : List Col) -- an interface value: a struct of these cells, or the one
  | sle (b z k : Nat)                          -- a whole block's slice, its cells known one by one: it may be appended to
inductive A where
  | c (x : C)
  | agg (xs : List C)
  | rows (cols : List Col)     -- an aggregate too big to list: one element of these columns
  | dead
inductive L where
  | a (x : A)
  | tup (xs : List A)
  | gd (c : T) (x : A)
/-- A block's type is told twice, and one more where the block may not be written. -/
inductive Bk where
  | cells (ty : TypeId) (xs : List C)
  | arr (ty : TypeId) (n : T) (cols : List Col)
  | dead

def Bk.ro : Bk → Bool
  | .cells ty _ => Nat.beq (Nat.mod ty 2) 1
  | .arr ty _ _ => Nat.beq (Nat.mod ty 2) 1
  | .dead => false
/-- Is there a block of the world's, surely? -/
def Bk.there (E : Env) : Bk → Prop
  | .cells _ _ => True
  | .arr _ n _ => 0 < n.den E
  | .dead => False

def F2 {α : Type} (r : α → Value → Prop) (xs : List α) (vs : Array Value) : Prop :=
  vs.size = xs.length ∧ ∀ (i : Nat) (x : α), xs[i]? = some x → ∃ v, vs[i]? = some v ∧ r x v

/-- A block of the world: its number, how many cells it has, where a row begins in it. -/
structure Rb where
  g : Nat
  z : Nat
  o : Nat
instance : Inhabited Rb := ⟨⟨0, 0, 0⟩⟩

/-- The cells of a row. -/
def Cells (E : Env) (n : Int) (cols : List Col) (cs : Array Value) : Prop :=
  ∀ (i p r : Nat) (c : Col), (i : Int) < n → colAt cols p = some (c, r) → cs[i * wid cols + p]? = some (c.k.val (c.s.row E (i * c.m + r : Nat)))
/-- An interface value of a type: a struct of these cells, or the one. -/
def ifV (E : Env) (t : TypeId) (g : Bool) (cs : List Col) : Value :=
  .iface t (bif g then .agg (cs.map fun c => c.k.val (c.s.den E)).toArray else match cs with
    | c :: _ => c.k.val (c.s.den E)
    | [] => undef)
/-- 'n': how many blocks there are. -/
def Cr (E : Env) (ρ : Nat → Rb) (n : Nat) : C → Value → Prop
  | .int k t, v => v = .int k (t.den E)
  | .bool t, v => v = .bool (t.tr E)
  | .ptr b o, v => b < n ∧ v = .pointer (some ⟨(ρ b).g, o, none⟩)
  | .pti b o ix sz cnt, v => b < n ∧ 0 ≤ ix.den E ∧ ix.den E < cnt ∧ v = .pointer (some ⟨(ρ b).g, o + (ix.den E).toNat * sz, none⟩)
  | .nilp, v => v = .pointer none
  | .slc b o len, v => b < n ∧ ∃ cap, v = .slice (some ⟨(ρ b).g, o, none⟩) len cap ∧ len ≤ cap
  | .nils, v => v = .slice none 0 0
  | .fn f, v => v = .func (.func f) #[] #[]
  | .clo f caps, v => (∀ p ∈ caps, p.1 < n) ∧ v = .func (.func f) #[] (caps.map fun p => Value.pointer (some ⟨(ρ p.1).g, p.2, none⟩)).toArray
  | .raw x, v => v = x ∧ x.oneCell' = true
  | .any, v => v.oneCell' = true
  | .str k s, v => ∃ b : ByteArray, v = .string b ∧ (b.size : Int) = k.den E ∧ ∀ (i : Nat) (u : UInt8), b.data[i]? = some u → s.row E i = u.toNat
  | .slr b z o k, v => b < n ∧ 0 ≤ o.den E ∧ 0 ≤ k.den E ∧ ∃ a cap, v = .slice a (k.den E).toNat cap ∧ (k.den E).toNat ≤ cap ∧ (0 < k.den E → a = some ⟨(ρ b).g, (ρ b).o + (o.den E).toNat * z, none⟩)
  | .sln b z k, v => b < n ∧ 0 ≤ k.den E ∧ ∃ a cap, v = .slice a (k.den E).toNat cap ∧ (k.den E).toNat ≤ cap ∧ cap ≤ maxLen ∧ (k.den E = 0 → cap = 0) ∧ (0 < k.den E → a = some ⟨(ρ b).g, 0, none⟩ ∧ cap * z = (ρ b).z ∧ (ρ b).o = 0)
  | .pta b z i o r, v => b < n ∧ 0 ≤ i.den E ∧ 0 ≤ r.den E ∧ v = .pointer (some ⟨(ρ b).g, (ρ b).o + (i.den E).toNat * z + o + (r.den E).toNat, none⟩)
  | .ifc t g cs, v => v = ifV E t g cs
  | .sle b z k, v => b < n ∧ ∃ cap, v = .slice (some ⟨(ρ b).g, 0, none⟩) k cap ∧ k ≤ cap ∧ cap ≤ maxLen ∧ cap * z = (ρ b).z
def Ar (E : Env) (ρ : Nat → Rb) (n : Nat) : A → Value → Prop
  | .c x, v => Cr E ρ n x v
  | .agg xs, v => ∃ cs, v = .agg cs ∧ F2 (Cr E ρ n) xs cs
  | .rows cols, v => ∃ cs, v = .agg cs ∧ cs.size = wid cols ∧ Cells E 1 cols cs
  | .dead, _ => True
def Lr (E : Env) (ρ : Nat → Rb) (n : Nat) : L → Value → Prop
  | .a x, v => Ar E ρ n x v
  | .tup xs, v => ∃ cs, v = .tuple cs ∧ F2 (Ar E ρ n) xs cs
  | .gd c x, v => (c.tr E = true → Ar E ρ n x v) ∧ (c.tr E = false → v = undef)
/-- .. those at the beginning. -/
def F2p {α : Type} (r : α → Value → Prop) (xs : List α) (vs : Array Value) : Prop :=
  xs.length ≤ vs.size ∧ ∀ (i : Nat) (x : α), xs[i]? = some x → ∃ v, vs[i]? = some v ∧ r x v
def Br (E : Env) (ρ : Nat → Rb) (n : Nat) (z : Rb) : Bk → Option Obj → Prop
  | .cells ty xs, o => ∃ cs, o = some (.cells cs (Nat.div ty 2) (0, 0)) ∧ cs.size = z.z ∧ F2p (Cr E ρ n) xs cs
  | .arr ty k cols, o => 0 ≤ k.den E ∧ (0 < k.den E → ∃ cs t fr, o = some (.cells cs t fr) ∧ (Nat.beq (Nat.mod ty 2) 1 = false → t = Nat.div ty 2 ∧ fr = (0, 0) ∧ z.o = 0) ∧ cs.size = z.z ∧ z.o + (k.den E).toNat * wid cols ≤ cs.size ∧ Cells E (k.den E) cols (cs.extract z.o cs.size))
  | .dead, _ => True

theorem Cr_one {E : Env} {ρ : Nat → Rb} {n : Nat} {x : C} {v : Value} (h : Cr E ρ n x v) : v.oneCell' = true := by
  cases x <;> simp only [Cr] at h
  case raw => rw [h.1]; exact h.2
  case any => exact h
  case ptr => rw [h.2]; rfl
  case clo => rw [h.2]; rfl
  case pti => rw [h.2.2.2]; rfl
  case slc => obtain ⟨_, cap, h, _⟩ := h; rw [h]; rfl
  case str => obtain ⟨b, h, _⟩ := h; rw [h]; rfl
  case slr => obtain ⟨_, _, _, a, cap, h, _⟩ := h; rw [h]; rfl
  case sln => obtain ⟨_, _, a, cap, h, _⟩ := h; rw [h]; rfl
  case pta => rw [h.2.2.2]; rfl
  case sle => obtain ⟨_, cap, h, _⟩ := h; rw [h]; rfl
  all_goals (rw [h]; rfl)

/-- The slots: slot 0 at the root, odd ones to the left. -/
inductive Tr where
  | nil
  | nd (x : L) (l r : Tr)
def Tr.get : Tr → Nat → Option L
  | .nil, _ => none
  | .nd x l r, i => bif Nat.beq i 0 then some x else bif Nat.beq (Nat.mod i 2) 1 then l.get (Nat.div i 2) else r.get (Nat.pred (Nat.div i 2))
def Tr.set : Tr → Nat → L → Tr
  | .nil, _, _ => .nil
  | .nd x l r, i, y => bif Nat.beq i 0 then .nd y l r else bif Nat.beq (Nat.mod i 2) 1 then .nd x (l.set (Nat.div i 2) y) r else .nd x l (r.set (Nat.pred (Nat.div i 2)) y)
/-- 'n' slots, of which nothing is known ('f': how deep). -/
def Tr.rep : Nat → Nat → Tr
  | 0, _ => .nil
  | f + 1, n => bif Nat.beq n 0 then .nil else .nd (.a .dead) (Tr.rep f (Nat.div n 2)) (Tr.rep f (Nat.div (Nat.pred n) 2))
def Tr.fill : Tr → Nat → List L → Tr
  | t, _, [] => t
  | t, i, x :: xs => (t.set i x).fill (i + 1) xs
def Tr.any (p : L → Bool) : Tr → Bool
  | .nil => false
  | .nd x l r => p x || l.any p || r.any p
def S2 (r : L → Value → Prop) (t : Tr) (vs : Array Value) : Prop :=
  ∀ (i : Nat) (x : L), t.get i = some x → ∃ v, vs[i]? = some v ∧ r x v

/-- What a letter stands for: a term; what a function tells of some. -/
inductive Df where
  | one (i : Nat) (t : T)
  | call (i : Nat) (g : Nat) (args : List T) (cnt : Nat)
def Df.ok (E : Env) : Df → Prop
  | .one i t => E.x i = t.me E
  | .call i g args cnt => ∀ k, k < cnt → E.x (i + k) = ((E.F g (args.map (T.me E)))[k]?).getD default
/-- The letters' meanings; the next letter. -/
structure Kn where
  ds : List Df
  nv : Nat
structure St where
  s : Tr
  m : List Bk
  pc : Pc
  k : Kn

/-- What stands fast: the letters, the blocks that came in, the world that was. -/
structure Cx where
  E : Env
  n0 : Nat
  ρ0 : Nat → Rb
  w0 : World
  D : List Deferred := []

/-- Of what was there at first only blocks that came in have turned. -/
structure Fr (X : Cx) (w : World) : Prop where
  os : w.os = X.w0.os
  tape : w.tape = X.w0.tape
  output : w.output = X.w0.output
  size : X.w0.heap.size ≤ w.heap.size
  block : ∀ k, k < X.w0.heap.size → (∀ i, i < X.n0 → (X.ρ0 i).g ≠ k) → w.heap[k]? = X.w0.heap[k]?

structure MemR (X : Cx) (ρ : Nat → Rb) (m : List Bk) (w : World) : Prop where
  mem : ∀ (i : Nat) (b : Bk), m[i]? = some b → Br X.E ρ m.length (ρ i) b w.heap[(ρ i).g]?
  inj : ∀ (i j : Nat) (bi bj : Bk), m[i]? = some bi → m[j]? = some bj → bi.there X.E → bj.there X.E → (ρ i).g = (ρ j).g → i = j
  len : X.n0 ≤ m.length
  old : ∀ i, i < X.n0 → ρ i = X.ρ0 i
  new : ∀ (i : Nat) (b : Bk), X.n0 ≤ i → m[i]? = some b → b.ro = false → b.there X.E → X.w0.heap.size ≤ (ρ i).g ∨ ∃ j, j < X.n0 ∧ (ρ i).g = (X.ρ0 j).g
  fr : Fr X w

/-- What the functions tell that are told of. -/
class Fs where
  F : Nat → List Arg → List Arg
/-- The slots, and what is known: no world in sight. -/
structure SRel [Fs] (X : Cx) (ρ : Nat → Rb) (st : St) (a : Act) : Prop where
  slots : S2 (Lr X.E ρ st.m.length) st.s a.tmps
  pc : pcOk X.E st.pc
  ds : ∀ d ∈ st.k.ds, d.ok X.E
  F : X.E.F = Fs.F

structure Rel [Fs] (X : Cx) (ρ : Nat → Rb) (st : St) (a : Act) (w : World) : Prop extends SRel X ρ st a where
  dfr : a.defers = X.D
  mr : MemR X ρ st.m w

end Go.Sy
namespace Go.Sy
/-! Bits of numbers: which bits of which term a term is. -/
structure Fd where
  x : T
  lo : Nat
  n : Nat
/-- The number that such pieces make, the lowest first. -/
def fv (E : Env) : List Fd → Nat
  | [] => 0
  | p :: r => (((p.x.den E).toNat >>> p.lo) % 2 ^ p.n) ||| (fv E r <<< p.n)
theorem fv_bit (E : Env) (p : Fd) (r : List Fd) (i : Nat) : (fv E (p :: r)).testBit i = if i < p.n then (p.x.den E).toNat.testBit (p.lo + i) else (fv E r).testBit (i - p.n) := by
  simp only [fv, Nat.testBit_or, Nat.testBit_mod_two_pow, Nat.testBit_shiftLeft, Nat.testBit_shiftRight]
  by_cases h : i < p.n
  · have : ¬ p.n ≤ i := by omega
    simp [h, this]
  · have : p.n ≤ i := by omega
    simp [h, this]
def fwid : List Fd → Nat
  | [] => 0
  | p :: r => Nat.add p.n (fwid r)
theorem fv_lt (E : Env) (l : List Fd) : fv E l < 2 ^ fwid l := by
  apply Nat.lt_pow_two_of_testBit
  induction l with
  | nil => intro i _; simp [fv]
  | cons p r ih =>
    intro i hi
    simp only [fwid, Nat.add_eq] at hi
    rw [fv_bit, if_neg (by omega)]
    exact ih _ (by omega)
def fdTake : Nat → List Fd → List Fd
  | _, [] => []
  | j, p :: r => bif Nat.ble j p.n then [⟨p.x, p.lo, j⟩] else p :: fdTake (Nat.sub j p.n) r
theorem fdTake_bit (E : Env) : ∀ (l : List Fd) (j i : Nat), (fv E (fdTake j l)).testBit i = (decide (i < j) && (fv E l).testBit i) := by
  intro l
  induction l with
  | nil => intro j i; simp [fdTake, fv]
  | cons p r ih =>
    intro j i
    unfold fdTake
    cases h : Nat.ble j p.n <;> simp only [cond_true, cond_false]
    · have h : ¬ j ≤ p.n := fun hc => by rw [Nat.ble_eq_true_of_le hc] at h; cases h
      rw [fv_bit, fv_bit, ih]
      by_cases hi : i < p.n
      · simp [hi, show i < j by omega]
      · have he : (i - p.n < j - p.n) = (i < j) := by simp; omega
        simp [hi, Nat.sub_eq, he]
    · have h := Nat.le_of_ble_eq_true h
      rw [fv_bit, fv_bit]
      by_cases hi : i < j
      · simp [hi, show i < p.n by omega]
      · simp [hi, fv]
theorem fdTake_ok (E : Env) (l : List Fd) (j : Nat) : fv E (fdTake j l) = fv E l % 2 ^ j := by
  apply Nat.eq_of_testBit_eq
  intro i
  rw [fdTake_bit, Nat.testBit_mod_two_pow]
def fdDrop : Nat → List Fd → List Fd
  | _, [] => []
  | j, p :: r => bif Nat.blt j p.n then ⟨p.x, Nat.add p.lo j, Nat.sub p.n j⟩ :: r else fdDrop (Nat.sub j p.n) r
theorem fdDrop_bit (E : Env) : ∀ (l : List Fd) (j i : Nat), (fv E (fdDrop j l)).testBit i = (fv E l).testBit (i + j) := by
  intro l
  induction l with
  | nil => intro j i; simp [fdDrop, fv]
  | cons p r ih =>
    intro j i
    unfold fdDrop
    cases h : Nat.blt j p.n <;> simp only [cond_true, cond_false]
    · have h : ¬ j < p.n := fun hc => by rw [show Nat.blt j p.n = true from Nat.ble_eq_true_of_le hc] at h; cases h
      rw [ih, fv_bit, if_neg (by omega)]
      congr 1
      simp; omega
    · have h : j < p.n := Nat.le_of_ble_eq_true h
      rw [fv_bit, fv_bit]
      simp only [Nat.sub_eq, Nat.add_eq]
      by_cases hi : i + j < p.n
      · rw [if_pos hi, if_pos (by omega)]; congr 1; omega
      · rw [if_neg hi, if_neg (by omega)]; congr 1; omega
theorem fdDrop_ok (E : Env) (l : List Fd) (j : Nat) : fv E (fdDrop j l) = fv E l / 2 ^ j := by
  apply Nat.eq_of_testBit_eq
  intro i
  rw [fdDrop_bit, Nat.testBit_div_two_pow]
/-- A piece's lowest bits, where it is a number. -/
def litB (p : Fd) (k : Nat) : Option Nat := match p.x with
  | .lit c => some (Nat.mod (Nat.shiftRight c.toNat p.lo) (Nat.pow 2 k))
  | _ => none
theorem litB_ok {E : Env} {p : Fd} {k m : Nat} (h : litB p k = some m) : (((p.x.den E).toNat >>> p.lo) % 2 ^ k) = m := by
  unfold litB at h
  split at h
  · rename_i c hc
    cases h
    rw [hc]; rfl
  · cases h
def orP (p q : Fd) (k : Nat) : Option Fd := match litB p k with
  | some 0 => some ⟨q.x, q.lo, k⟩
  | some a => match litB q k with
    | some 0 => some ⟨p.x, p.lo, k⟩
    | some b => some ⟨.lit (Int.ofNat (Nat.lor a b)), 0, k⟩
    | none => none
  | none => match litB q k with
    | some 0 => some ⟨p.x, p.lo, k⟩
    | _ => none
theorem orP_ok {E : Env} {p q f : Fd} {k : Nat} (h : orP p q k = some f) : f.n = k ∧ ((f.x.den E).toNat >>> f.lo) % 2 ^ k = (((p.x.den E).toNat >>> p.lo) % 2 ^ k) ||| (((q.x.den E).toNat >>> q.lo) % 2 ^ k) := by
  unfold orP at h
  split at h
  · rename_i h0; cases h; rw [litB_ok h0, Nat.zero_or]; exact ⟨rfl, rfl⟩
  · rename_i a _ h0
    split at h
    · rename_i h1; cases h; rw [litB_ok h1, Nat.or_zero]; exact ⟨rfl, rfl⟩
    · rename_i b _ h1; cases h
      rw [litB_ok h0, litB_ok h1]
      refine ⟨rfl, ?_⟩
      have ha := Nat.mod_lt ((p.x.den E).toNat >>> p.lo) (Nat.two_pow_pos k)
      have hb := Nat.mod_lt ((q.x.den E).toNat >>> q.lo) (Nat.two_pow_pos k)
      rw [litB_ok h0] at ha
      rw [litB_ok h1] at hb
      show ((Int.ofNat (a ||| b)).toNat >>> 0) % 2 ^ k = a ||| b
      rw [Nat.shiftRight_zero]
      exact Nat.mod_eq_of_lt (Nat.or_lt_two_pow ha hb)
    · cases h
  · split at h
    · rename_i h1; cases h; rw [litB_ok h1, Nat.or_zero]; exact ⟨rfl, rfl⟩
    · cases h
def fdOr : Nat → List Fd → List Fd → Option (List Fd)
  | _, [], b => some b
  | _, a, [] => some a
  | 0, _, _ => none
  | f + 1, p :: r, q :: s => match orP p q (bif Nat.ble p.n q.n then p.n else q.n) with
    | none => none
    | some x => match fdOr f (fdDrop (bif Nat.ble p.n q.n then p.n else q.n) (p :: r)) (fdDrop (bif Nat.ble p.n q.n then p.n else q.n) (q :: s)) with
      | some l => some (x :: l)
      | none => none
theorem fdOr_ok (E : Env) : ∀ (f : Nat) (a b l : List Fd), fdOr f a b = some l → fv E l = fv E a ||| fv E b := by
  intro f
  induction f with
  | zero =>
    intro a b l h
    cases a with
    | nil => simp only [fdOr] at h; cases h; simp [fv]
    | cons p r => cases b with
      | nil => simp only [fdOr] at h; cases h; simp [fv]
      | cons q s => simp only [fdOr] at h; cases h
  | succ f ih =>
    intro a b l h
    cases a with
    | nil => simp only [fdOr] at h; cases h; simp [fv]
    | cons p r => cases b with
      | nil => simp only [fdOr] at h; cases h; simp [fv]
      | cons q s =>
        unfold fdOr at h
        generalize hk : (bif Nat.ble p.n q.n then p.n else q.n) = k at h
        have hk1 : k ≤ p.n ∧ k ≤ q.n := by
          cases h' : Nat.ble p.n q.n <;> rw [h'] at hk <;> simp only [cond_true, cond_false] at hk
          · have : ¬ p.n ≤ q.n := fun hc => by rw [Nat.ble_eq_true_of_le hc] at h'; cases h'
            omega
          · have := Nat.le_of_ble_eq_true h'
            omega
        split at h
        · cases h
        · rename_i x hx
          split at h
          · rename_i l' hl
            cases h
            have h1 := ih _ _ _ hl
            obtain ⟨h2, h3⟩ := orP_ok (E := E) hx
            apply Nat.eq_of_testBit_eq
            intro i
            rw [fv_bit, h2, h1, Nat.testBit_or, Nat.testBit_or, fdDrop_bit, fdDrop_bit]
            by_cases hi : i < k
            · have h4 := congrArg (fun n => Nat.testBit n i) h3
              simp only [Nat.testBit_or, Nat.testBit_mod_two_pow, Nat.testBit_shiftRight, hi, decide_true, Bool.true_and] at h4
              rw [if_pos hi, h4, fv_bit, fv_bit, if_pos (by omega), if_pos (by omega)]
            · rw [if_neg hi, show i - k + k = i by omega]
          · cases h
/-- Do such bits fit into a kind of numbers? -/
def fitB (k : IntKind) (l : List Fd) : Bool := Nat.ble (fwid l) (bif ksig k then Nat.sub (kbits k) 1 else kbits k)
theorem fitB_ok {k : IntKind} {l : List Fd} (h : fitB k l = true) (E : Env) : k.wrap (fv E l) = fv E l ∧ (BitVec.ofInt k.bits (fv E l : Int)).toNat = fv E l := by
  have h1 := Nat.le_of_ble_eq_true h
  have h2 := fv_lt E l
  have h3 : fv E l < 2 ^ (bif ksig k then Nat.sub (kbits k) 1 else kbits k) := Nat.lt_of_lt_of_le h2 (Nat.pow_le_pow_right (by decide) h1)
  generalize fv E l = n at h3
  constructor
  · apply wrap_in
    cases k <;> simp [ksig, kbits, IntKind.min, IntKind.max, IntKind.bits, IntKind.signed] at h3 ⊢ <;> omega
  · rw [BitVec.toNat_ofInt]
    cases k <;> simp [ksig, kbits, IntKind.bits] at h3 ⊢ <;> omega
def baseB (t : T) : Option (List Fd) := match t.rng.hi with
  | some h => let m := Nat.add (Nat.log2 h.toNat) 1
    bif t.rng.within 0 (Int.ofNat (Nat.sub (Nat.pow 2 m) 1)) then some [⟨t, 0, m⟩] else none
  | none => none
theorem baseB_ok {E : Env} {t : T} {l : List Fd} (h : baseB t = some l) : t.den E = (fv E l : Int) := by
  unfold baseB at h
  split at h
  · rename_i hi _
    simp only at h
    generalize Nat.add (Nat.log2 hi.toNat) 1 = m at h
    cases hw : t.rng.within 0 (Int.ofNat (Nat.sub (Nat.pow 2 m) 1)) <;> simp only [hw, cond_true, cond_false] at h
    · cases h
    · cases h
      have := Iv.within_has hw (t.rng_has E)
      have hp := Nat.two_pow_pos m
      simp only [Nat.sub_eq, Nat.pow_eq, Int.ofNat_eq_natCast] at this
      simp only [fv, Nat.shiftRight_zero, Nat.zero_shiftLeft, Nat.or_zero]
      rw [Nat.mod_eq_of_lt (by omega)]
      omega
  · cases h
/-- What is left of a number without its low twelve bits as a number with a sign. -/
def lowZ (t : T) : Bool := match t with
  | .un (.wrap .u32) (.bin .sub p (.un (.wrap .u32) (.bin (.shr .i32) (.un (.wrap .i32) (.bin (.shl .u32) q (.lit 20))) (.lit 20)))) => p.beq q && p.rng.within 0 4294967295
  | _ => false
theorem lowZ_ok {E : Env} {t : T} (h : lowZ t = true) : 0 ≤ t.den E ∧ t.den E < 4294967296 ∧ t.den E % 4096 = 0 := by
  unfold lowZ at h
  split at h
  · rename_i p q
    rw [Bool.and_eq_true] at h
    have hq := T.beq_eq h.1
    have hr := Iv.within_has h.2 (p.rng_has E)
    subst hq
    have e1 : (2 : Int) ^ (min (Int.toNat 20) IntKind.u32.bits) = 1048576 := rfl
    have e2 : (2 : Int) ^ (min (Int.toNat 20) IntKind.i32.bits) = 1048576 := rfl
    simp only [T.den, O1.den, O2.den, e1, e2]
    generalize p.den E = n at *
    rw [Int.fdiv_eq_ediv_of_nonneg _ (by decide)]
    simp [IntKind.wrap, IntKind.bits, IntKind.signed]
    split <;> omega
  · cases h
def baseZ (t : T) : Option (List Fd) := bif lowZ t then some [⟨.lit 0, 0, 12⟩, ⟨t, 12, 20⟩] else baseB t
theorem baseZ_ok {E : Env} {t : T} {l : List Fd} (h : baseZ t = some l) : t.den E = (fv E l : Int) := by
  unfold baseZ at h
  cases hz : lowZ t <;> simp only [hz, cond_true, cond_false] at h
  · exact baseB_ok h
  · cases h
    have hl := lowZ_ok (E := E) hz
    have e : fv E [⟨.lit 0, 0, 12⟩, ⟨t, 12, 20⟩] = (((t.den E).toNat / 4096) % 1048576) * 4096 := by
      simp [fv, T.den, Nat.shiftLeft_eq, Nat.shiftRight_eq_div_pow]
    rw [e]
    omega
def isU (k : IntKind) : Bool := !ksig k
def shlB (k : IntKind) (l : List Fd) (s : Nat) : Option (List Fd) := bif Nat.ble s (kbits k) then
    bif isU k then some (fdTake (kbits k) (⟨.lit 0, 0, s⟩ :: l)) else bif fitB k (⟨.lit 0, 0, s⟩ :: l) then some (⟨.lit 0, 0, s⟩ :: l) else none
  else none
theorem wrap_mod {k : IntKind} (hk : isU k = true) (n : Nat) : k.wrap (n : Int) = ((n % 2 ^ kbits k : Nat) : Int) := by
  cases k <;> first | (exact absurd hk (by decide)) | (simp [IntKind.wrap, IntKind.bits, IntKind.signed, kbits])
theorem fv_shl (E : Env) (l : List Fd) (s : Nat) : fv E (⟨.lit 0, 0, s⟩ :: l) = fv E l * 2 ^ s := by
  simp [fv, T.den, Nat.shiftLeft_eq]
theorem shlB_ok {E : Env} {k : IntKind} {l l' : List Fd} {s : Nat} (h : shlB k l s = some l') : k.wrap ((fv E l : Int) * 2 ^ (min s k.bits)) = (fv E l' : Int) := by
  unfold shlB at h
  cases hs : Nat.ble s (kbits k) <;> simp only [hs, cond_true, cond_false] at h
  · cases h
  · have hs := Nat.le_of_ble_eq_true hs
    rw [kbits_eq] at hs
    rw [Nat.min_eq_left hs]
    have e : ((fv E l : Int) * 2 ^ s) = ((fv E (⟨.lit 0, 0, s⟩ :: l) : Nat) : Int) := by rw [fv_shl]; simp
    rw [e]
    cases hu : isU k <;> simp only [hu, cond_true, cond_false] at h
    · cases hf : fitB k (⟨.lit 0, 0, s⟩ :: l) <;> simp only [hf, cond_true, cond_false] at h
      · cases h
      · cases h
        exact (fitB_ok hf E).1
    · cases h
      rw [fdTake_ok, wrap_mod hu]
def shrB (k : IntKind) (l : List Fd) (s : Nat) : Option (List Fd) := bif Nat.ble s (kbits k) then some (fdDrop s l) else none
theorem shrB_ok {E : Env} {k : IntKind} {l l' : List Fd} {s : Nat} (h : shrB k l s = some l') : ((fv E l : Int)).fdiv (2 ^ (min s k.bits)) = (fv E l' : Int) := by
  unfold shrB at h
  cases hs : Nat.ble s (kbits k) <;> simp only [hs, cond_true, cond_false] at h
  · cases h
  · cases h
    have hs := Nat.le_of_ble_eq_true hs
    rw [kbits_eq] at hs
    rw [Nat.min_eq_left hs, fdDrop_ok, Int.fdiv_eq_ediv_of_nonneg _ (Int.le_of_lt (Int.pow_pos (by decide)))]
    simp
def borB (k : IntKind) (a b : List Fd) : Option (List Fd) := bif fitB k a && fitB k b then match fdOr 24 a b with
    | some l => bif fitB k l then some l else none
    | none => none
  else none
theorem borB_ok {E : Env} {k : IntKind} {a b l : List Fd} (h : borB k a b = some l) : k.wrap (BitVec.ofInt k.bits (fv E a : Int) ||| BitVec.ofInt k.bits (fv E b : Int)).toNat = (fv E l : Int) := by
  unfold borB at h
  cases hf : fitB k a && fitB k b <;> simp only [hf, cond_true, cond_false] at h
  · cases h
  · rw [Bool.and_eq_true] at hf
    split at h
    · rename_i l' hl
      cases hg : fitB k l' <;> simp only [hg, cond_true, cond_false] at h
      · cases h
      · cases h
        rw [BitVec.toNat_or, (fitB_ok hf.1 E).2, (fitB_ok hf.2 E).2, ← fdOr_ok E _ _ _ _ hl]
        exact (fitB_ok hg E).1
    · cases h
def bandB (k : IntKind) (l : List Fd) (m : Int) : Option (List Fd) := match m with
  | .ofNat m => let j := Nat.log2 (Nat.add m 1)
    bif Nat.beq (Nat.sub (Nat.pow 2 j) 1) m && fitB k l && fitB k [⟨.lit 0, 0, j⟩] then some (fdTake j l) else none
  | _ => none
theorem bandB_ok {E : Env} {k : IntKind} {a l : List Fd} {m : Int} (h : bandB k a m = some l) : k.wrap (BitVec.ofInt k.bits (fv E a : Int) &&& BitVec.ofInt k.bits m).toNat = (fv E l : Int) := by
  unfold bandB at h
  split at h
  · rename_i m
    simp only at h
    generalize Nat.log2 (Nat.add m 1) = j at h
    cases hf : Nat.beq (Nat.sub (Nat.pow 2 j) 1) m && fitB k a && fitB k [⟨.lit 0, 0, j⟩] <;> simp only [hf, cond_true, cond_false] at h
    · cases h
    · cases h
      simp only [Bool.and_eq_true] at hf
      obtain ⟨⟨h1, h2⟩, h3⟩ := hf
      have h1 := Nat.eq_of_beq_eq_true h1
      simp only [Nat.sub_eq, Nat.pow_eq] at h1
      have hw := Nat.le_of_ble_eq_true h3
      simp only [fwid, Nat.add_eq, Nat.add_zero] at hw
      have hp := Nat.two_pow_pos j
      have hle : 2 ^ j ≤ 2 ^ (bif ksig k then Nat.sub (kbits k) 1 else kbits k) := Nat.pow_le_pow_right (by decide) hw
      have hm : (BitVec.ofInt k.bits (Int.ofNat m)).toNat = m := by
        rw [BitVec.toNat_ofInt]
        cases k <;> simp [ksig, kbits, IntKind.bits] at hle ⊢ <;> omega
      rw [BitVec.toNat_and, (fitB_ok h2 E).2, hm, fdTake_ok, ← h1, Nat.and_two_pow_sub_one_eq_mod]
      have hlt := Nat.mod_lt (fv E a) hp
      generalize fv E a % 2 ^ j = n at hlt
      apply wrap_in
      have hn : n < 2 ^ (bif ksig k then Nat.sub (kbits k) 1 else kbits k) := Nat.lt_of_lt_of_le hlt hle
      cases k <;> simp [ksig, kbits, IntKind.min, IntKind.max, IntKind.bits, IntKind.signed] at hn ⊢ <;> omega
  · cases h
def wrapB (k : IntKind) (l : List Fd) : Option (List Fd) := bif isU k then some (fdTake (kbits k) l) else bif fitB k l then some l else none
theorem wrapB_ok {E : Env} {k : IntKind} {a l : List Fd} (h : wrapB k a = some l) : k.wrap (fv E a : Int) = (fv E l : Int) := by
  unfold wrapB at h
  cases hu : isU k <;> simp only [hu, cond_true, cond_false] at h
  · cases hf : fitB k a <;> simp only [hf, cond_true, cond_false] at h
    · cases h
    · cases h; exact (fitB_ok hf E).1
  · cases h; rw [fdTake_ok, wrap_mod hu]
def bandnB (k : IntKind) (l : List Fd) (m : Int) : Option (List Fd) := match m with
  | .ofNat m => let j := Nat.log2 (Nat.add m 1)
    bif Nat.beq (Nat.sub (Nat.pow 2 j) 1) m && fitB k l && isU k && Nat.ble j (kbits k) then some (⟨.lit 0, 0, j⟩ :: fdDrop j l) else none
  | _ => none
theorem bandnB_ok {E : Env} {k : IntKind} {a l : List Fd} {m : Int} (h : bandnB k a m = some l) : k.wrap (BitVec.ofInt k.bits (fv E a : Int) &&& ~~~BitVec.ofInt k.bits m).toNat = (fv E l : Int) := by
  unfold bandnB at h
  split at h
  · rename_i m
    simp only at h
    generalize Nat.log2 (Nat.add m 1) = j at h
    cases hf : Nat.beq (Nat.sub (Nat.pow 2 j) 1) m && fitB k a && isU k && Nat.ble j (kbits k) <;> simp only [hf, cond_true, cond_false] at h
    · cases h
    · cases h
      simp only [Bool.and_eq_true] at hf
      obtain ⟨⟨⟨h1, h2⟩, h3⟩, h4⟩ := hf
      have h1 := Nat.eq_of_beq_eq_true h1
      simp only [Nat.sub_eq, Nat.pow_eq] at h1
      have hj := Nat.le_of_ble_eq_true h4
      rw [kbits_eq] at hj
      have hp := Nat.two_pow_pos j
      have hle : 2 ^ j ≤ 2 ^ k.bits := Nat.pow_le_pow_right (by decide) hj
      have hm : (BitVec.ofInt k.bits (Int.ofNat m)).toNat = m := by
        rw [BitVec.toNat_ofInt]
        have e : (Int.ofNat m % ((2 ^ k.bits : Nat) : Int)) = Int.ofNat m := Int.emod_eq_of_lt (Int.natCast_nonneg m) (by simp only [Int.ofNat_eq_natCast]; omega)
        rw [e]; rfl
      have hx := (fitB_ok h2 E).2
      have e : (BitVec.ofInt k.bits (fv E a : Int) &&& ~~~BitVec.ofInt k.bits (Int.ofNat m)).toNat = fv E (⟨.lit 0, 0, j⟩ :: fdDrop j a) := by
        apply Nat.eq_of_testBit_eq
        intro i
        rw [BitVec.testBit_toNat, BitVec.getLsbD_and, BitVec.getLsbD_not, ← BitVec.testBit_toNat, ← BitVec.testBit_toNat, hx, hm, ← h1, Nat.testBit_two_pow_sub_one, fv_bit]
        by_cases hi : i < j
        · have : i < k.bits := by omega
          simp [hi, T.den]
        · simp only [hi, if_false, decide_false, Bool.not_false, Bool.and_true, fdDrop_bit]
          rw [show i - j + j = i by omega]
          by_cases hb : i < k.bits
          · simp [hb]
          · have : (fv E a).testBit i = false := by
              rw [← hx]; exact BitVec.testBit_toNat _ ▸ BitVec.getLsbD_of_ge _ _ (by omega)
            simp [this]
      rw [← e, wrap_mod h3]
      congr 1
      refine Nat.mod_eq_of_lt ?_
      rw [kbits_eq]; exact BitVec.isLt _
  · cases h
/-- The bits that a term is. -/
def bitsT : T → Option (List Fd)
  | .un o a => match o with
    | .wrap k => match bitsT a with
      | some l => wrapB k l
      | none => baseZ (.un o a)
    | _ => baseB (.un o a)
  | .bin o a b => match o with
    | .shl k => match b with
      | .lit (.ofNat s) => match bitsT a with
        | some l => shlB k l s
        | none => none
      | _ => none
    | .shr k => match b with
      | .lit (.ofNat s) => match bitsT a with
        | some l => shrB k l s
        | none => none
      | _ => none
    | .bor k => match bitsT a with
      | some l => match bitsT b with
        | some l' => borB k l l'
        | none => none
      | none => none
    | .band k => match b with
      | .lit m => match bitsT a with
        | some l => bandB k l m
        | none => none
      | _ => none
    | .bandn k => match b with
      | .lit m => match bitsT a with
        | some l => bandnB k l m
        | none => baseB (.bin o a b)
      | _ => baseB (.bin o a b)
    | _ => baseB (.bin o a b)
  | t => baseB t
theorem bitsT_ok (E : Env) : ∀ (t : T) (l : List Fd), bitsT t = some l → t.den E = (fv E l : Int) := by
  intro t
  induction t with
  | un o a ih =>
    intro l h
    unfold bitsT at h
    split at h
    · split at h
      · rename_i k l' hl
        simp only [T.den, O1.den]
        rw [ih _ hl]
        exact wrapB_ok h
      · exact baseZ_ok h
    · exact baseB_ok h
  | bin o a b iha ihb =>
    intro l h
    unfold bitsT at h
    split at h
    · split at h
      · split at h
        · rename_i s _ l' hl
          simp only [T.den, O2.den]
          rw [iha _ hl]
          exact shlB_ok h
        · cases h
      · cases h
    · split at h
      · split at h
        · rename_i s _ l' hl
          simp only [T.den, O2.den]
          rw [iha _ hl]
          exact shrB_ok h
        · cases h
      · cases h
    · split at h
      · split at h
        · rename_i l1 hl1 _ l2 hl2
          simp only [T.den, O2.den]
          rw [iha _ hl1, ihb _ hl2]
          exact borB_ok h
        · cases h
      · cases h
    · split at h
      · split at h
        · rename_i m _ l' hl
          simp only [T.den, O2.den]
          rw [iha _ hl]
          exact bandB_ok h
        · cases h
      · cases h
    · split at h
      · split at h
        · rename_i m _ l' hl
          simp only [T.den, O2.den]
          rw [iha _ hl]
          exact bandnB_ok h
        · exact baseB_ok h
      · exact baseB_ok h
    · exact baseB_ok h
  | _ => intro l h; exact baseB_ok h

/-- Two numbers side by side as one. -/
def joinL (p q : Fd) : Option Fd := match litB p p.n with
  | some a => match litB q q.n with
    | some b => some ⟨.lit (Int.ofNat (Nat.lor a (Nat.shiftLeft b p.n))), 0, Nat.add p.n q.n⟩
    | none => none
  | none => none
theorem joinL_ok {E : Env} {p q j : Fd} (h : joinL p q = some j) (s : List Fd) : fv E (j :: s) = fv E (p :: q :: s) := by
  unfold joinL at h
  split at h
  · rename_i a ha
    split at h
    · rename_i b hb
      cases h
      have h1 := litB_ok (E := E) ha
      have h2 := litB_ok (E := E) hb
      apply Nat.eq_of_testBit_eq
      intro i
      rw [fv_bit, fv_bit, fv_bit]
      have e : ((T.lit (Int.ofNat (Nat.lor a (Nat.shiftLeft b p.n)))).den E).toNat = a ||| (b <<< p.n) := rfl
      simp only [Nat.add_eq] at *
      by_cases hi : i < p.n
      · rw [if_pos hi, if_pos (by omega), e, ← h1]
        have : ¬ p.n ≤ i := by omega
        simp [Nat.testBit_or, Nat.testBit_mod_two_pow, Nat.testBit_shiftLeft, Nat.testBit_shiftRight, hi, this]
      · rw [if_neg hi]
        by_cases hj : i < p.n + q.n
        · rw [if_pos hj, if_pos (by omega), e, ← h1, ← h2]
          have h3 : p.n ≤ i := by omega
          have h4 : i - p.n < q.n := by omega
          simp [Nat.testBit_or, Nat.testBit_mod_two_pow, Nat.testBit_shiftLeft, Nat.testBit_shiftRight, hi, h3, h4]
        · rw [if_neg hj, if_neg (by omega)]
          congr 1; omega
    · cases h
  · cases h
/-- Pieces side by side as one; no noughts at the end. -/
def mrg : List Fd → List Fd
  | [] => []
  | p :: r => match mrg r with
    | [] => match litB p p.n with
      | some 0 => []
      | _ => [p]
    | q :: s => bif p.x.beq q.x && Nat.beq q.lo (Nat.add p.lo p.n) then ⟨p.x, p.lo, Nat.add p.n q.n⟩ :: s else match joinL p q with
      | some j => j :: s
      | none => p :: q :: s
theorem mrg_ok (E : Env) : ∀ l : List Fd, fv E (mrg l) = fv E l := by
  intro l
  induction l with
  | nil => rfl
  | cons p r ih =>
    unfold mrg
    split
    · rename_i h
      rw [h] at ih
      have e : fv E (p :: r) = ((p.x.den E).toNat >>> p.lo) % 2 ^ p.n := by
        simp only [fv, ← ih, Nat.zero_shiftLeft, Nat.or_zero]
      split
      · rename_i h0
        rw [e, litB_ok h0]; rfl
      · rw [e]; simp [fv]
    · rename_i q s h
      rw [h] at ih
      cases hc : p.x.beq q.x && Nat.beq q.lo (Nat.add p.lo p.n) <;> simp only [cond_true, cond_false]
      · split
        · rename_i j hj
          rw [joinL_ok hj]; simp only [fv]; rw [← ih]; simp only [fv]
        · simp only [fv]; rw [← ih]; simp only [fv]
      · rw [Bool.and_eq_true] at hc
        have h1 := T.beq_eq hc.1
        have h2 := Nat.eq_of_beq_eq_true hc.2
        apply Nat.eq_of_testBit_eq
        intro i
        rw [fv_bit, fv_bit, ← ih, fv_bit]
        simp only [Nat.add_eq] at h2 ⊢
        by_cases hi : i < p.n
        · rw [if_pos hi, if_pos (by omega)]
        · rw [if_neg hi]
          by_cases hj : i < p.n + q.n
          · rw [if_pos hj, if_pos (by omega), h1, h2]
            congr 1; omega
          · rw [if_neg hj, if_neg (by omega)]
            congr 1; omega
def fdEq : List Fd → List Fd → Bool
  | [], [] => true
  | p :: r, q :: s => p.x.beq q.x && Nat.beq p.lo q.lo && Nat.beq p.n q.n && fdEq r s
  | _, _ => false
theorem fdEq_eq : ∀ {a b : List Fd}, fdEq a b = true → a = b := by
  intro a
  induction a with
  | nil => intro b h; cases b with
    | nil => rfl
    | cons _ _ => cases h
  | cons p r ih => intro b h; cases b with
    | nil => cases h
    | cons q s =>
      simp only [fdEq, Bool.and_eq_true] at h
      have h1 := T.beq_eq h.1.1.1
      have h2 := Nat.eq_of_beq_eq_true h.1.1.2
      have h3 := Nat.eq_of_beq_eq_true h.1.2
      cases p; cases q
      simp only at h1 h2 h3
      rw [h1, h2, h3, ih h.2]
/-- A term with the same bits. -/
def tryB (o t : T) (l : List Fd) : T := match bitsT o with
  | some l' => bif fdEq (mrg l') l then o else t
  | none => t
theorem tryB_ok {E : Env} {o t : T} {l : List Fd} (h : t.den E = (fv E l : Int)) : (tryB o t l).den E = t.den E := by
  unfold tryB
  split
  · rename_i l' hl
    cases hc : fdEq (mrg l') l <;> simp only [cond_true, cond_false]
    rw [bitsT_ok E _ _ hl, h, ← fdEq_eq hc, mrg_ok]
  · rfl
/-- A term in fewer words, where its bits tell it. -/
def outB (t : T) (l : List Fd) : T := match l with
  | [] => .lit 0
  | [p] => match litB p p.n with
    | some m => .lit (Int.ofNat m)
    | none => bif Nat.beq p.lo 0 then
        bif p.x.rng.within 0 (Int.ofNat (Nat.sub (Nat.pow 2 p.n) 1)) then p.x else
        bif Nat.beq p.n 8 && p.x.rng.within 0 18446744073709551615 then .un (.wrap .u8) p.x else
        bif Nat.beq p.n 32 && p.x.rng.within 0 18446744073709551615 then .un (.wrap .u32) p.x else t
      else t
  | [p, q] => match litB p p.n with
    | some m => bif lowZ q.x then tryB (match m with
        | 0 => q.x
        | m => .bin (.bor .u32) (.lit (Int.ofNat m)) q.x) t l else t
    | none => t
  | _ => t
theorem outB_ok {E : Env} {t : T} {l : List Fd} (h : t.den E = (fv E l : Int)) : (outB t l).den E = t.den E := by
  unfold outB
  split
  · rw [h]; rfl
  · rename_i p
    have e : fv E [p] = ((p.x.den E).toNat >>> p.lo) % 2 ^ p.n := by simp [fv]
    split
    · rename_i m hm
      rw [h, e, litB_ok hm]; rfl
    · cases h0 : Nat.beq p.lo 0 <;> simp only [cond_true, cond_false]
      have h0 := Nat.eq_of_beq_eq_true h0
      rw [h0, Nat.shiftRight_zero] at e
      cases hr : p.x.rng.within 0 (Int.ofNat (Nat.sub (Nat.pow 2 p.n) 1)) <;> simp only [cond_true, cond_false]
      · cases h8 : Nat.beq p.n 8 && p.x.rng.within 0 18446744073709551615 <;> simp only [cond_true, cond_false]
        · cases h32 : Nat.beq p.n 32 && p.x.rng.within 0 18446744073709551615 <;> simp only [cond_true, cond_false]
          rw [Bool.and_eq_true] at h32
          have h9 := Nat.eq_of_beq_eq_true h32.1
          have h10 := Iv.within_has h32.2 (p.x.rng_has E)
          rw [h, e, h9]
          simp only [T.den, O1.den]
          simp [IntKind.wrap, IntKind.bits, IntKind.signed]
          omega
        rw [Bool.and_eq_true] at h8
        have h9 := Nat.eq_of_beq_eq_true h8.1
        have h10 := Iv.within_has h8.2 (p.x.rng_has E)
        rw [h, e, h9]
        simp only [T.den, O1.den]
        simp [IntKind.wrap, IntKind.bits, IntKind.signed]
        omega
      · have h10 := Iv.within_has hr (p.x.rng_has E)
        have hp := Nat.two_pow_pos p.n
        simp only [Nat.sub_eq, Nat.pow_eq, Int.ofNat_eq_natCast] at h10
        rw [h, e, Nat.mod_eq_of_lt (by omega)]
        omega
  · split
    · rename_i p q _ m _
      cases hz : lowZ q.x <;> simp only [cond_true, cond_false]
      exact tryB_ok h
    · rfl
  · rfl
def bitG (t : T) : T := match bitsT t with
  | some l => outB t (mrg l)
  | none => t
theorem bitG_den (E : Env) (t : T) : (bitG t).den E = t.den E := by
  unfold bitG
  split
  · rename_i l hl; exact outB_ok (by rw [mrg_ok]; exact bitsT_ok E _ _ hl)
  · rfl
/-- A byte with its sign, by shifts there and back. -/
def sgnB (y : T) : Option T := match bitsT y with
  | some l => bif Nat.ble (fwid l) 32 then match mrg (fdDrop 24 l) with
    | [p] => bif Nat.beq p.lo 0 && Nat.beq p.n 8 && p.x.rng.within 0 18446744073709551615 then some p.x else none
    | _ => none
    else none
  | none => none
theorem sgnB_ok {E : Env} {y x : T} (h : sgnB y = some x) : (IntKind.i32.wrap (y.den E)).fdiv (2 ^ 24) = IntKind.i8.wrap (x.den E) := by
  unfold sgnB at h
  split at h
  · rename_i l hl
    cases hw : Nat.ble (fwid l) 32 <;> simp only [hw, cond_true, cond_false] at h
    · cases h
    · have hw := Nat.le_of_ble_eq_true hw
      split at h
      · rename_i p hp
        cases hc : Nat.beq p.lo 0 && Nat.beq p.n 8 && p.x.rng.within 0 18446744073709551615 <;> simp only [hc, cond_true, cond_false] at h
        · cases h
        · cases h
          simp only [Bool.and_eq_true] at hc
          have h1 := Nat.eq_of_beq_eq_true hc.1.1
          have h2 := Nat.eq_of_beq_eq_true hc.1.2
          have h3 := Iv.within_has hc.2 (p.x.rng_has E)
          have h4 := bitsT_ok E _ _ hl
          have h5 := fv_lt E l
          have h6 : 2 ^ fwid l ≤ 2 ^ 32 := Nat.pow_le_pow_right (by decide) hw
          have h7 := mrg_ok E (fdDrop 24 l)
          rw [hp, fdDrop_ok] at h7
          have e : fv E [p] = (p.x.den E).toNat % 256 := by simp [fv, h1, h2]
          rw [e] at h7
          rw [h4]
          generalize fv E l = n at *
          generalize p.x.den E = z at *
          rw [Int.fdiv_eq_ediv_of_nonneg _ (by decide)]
          simp [IntKind.wrap, IntKind.bits, IntKind.signed]
          omega
      · cases h
  · cases h
def isS12 (t : T) : Bool := match t with
  | .bin (.shr .i32) (.un (.wrap .i32) _) (.lit 20) => true
  | _ => false
theorem isS12_ok {E : Env} {t : T} (h : isS12 t = true) : -2048 ≤ t.den E ∧ t.den E ≤ 2047 := by
  unfold isS12 at h
  split at h
  · rename_i a
    have e2 : (2 : Int) ^ (min (Int.toNat 20) IntKind.i32.bits) = 1048576 := rfl
    simp only [T.den, O1.den, O2.den, e2]
    generalize a.den E = n
    rw [Int.fdiv_eq_ediv_of_nonneg _ (by decide)]
    simp [IntKind.wrap, IntKind.bits, IntKind.signed]
    split <;> omega
  · cases h
def sgn12 (y : T) : Option T := match bitsT y with
  | some l => bif Nat.ble (fwid l) 32 then match mrg (fdDrop 20 l) with
    | [p] => bif Nat.beq p.lo 0 && Nat.beq p.n 12 then match p.x with
      | .un (.wrap .u32) s => bif isS12 s then some s else none
      | _ => none
      else none
    | _ => none
    else none
  | none => none
theorem sgn12_ok {E : Env} {y x : T} (h : sgn12 y = some x) : (IntKind.i32.wrap (y.den E)).fdiv (2 ^ 20) = x.den E := by
  unfold sgn12 at h
  split at h
  · rename_i l hl
    cases hw : Nat.ble (fwid l) 32 <;> simp only [hw, cond_true, cond_false] at h
    · cases h
    · have hw := Nat.le_of_ble_eq_true hw
      split at h
      · rename_i p hp
        cases hc : Nat.beq p.lo 0 && Nat.beq p.n 12 <;> simp only [hc, cond_true, cond_false] at h
        · cases h
        · split at h
          · rename_i s hs
            cases hr : isS12 s <;> simp only [hr, cond_true, cond_false] at h
            · cases h
            · cases h
              simp only [Bool.and_eq_true] at hc
              have h1 := Nat.eq_of_beq_eq_true hc.1
              have h2 := Nat.eq_of_beq_eq_true hc.2
              have h3 := isS12_ok (E := E) hr
              have h4 := bitsT_ok E _ _ hl
              have h5 := fv_lt E l
              have h6 : 2 ^ fwid l ≤ 2 ^ 32 := Nat.pow_le_pow_right (by decide) hw
              have h7 := mrg_ok E (fdDrop 20 l)
              rw [hp, fdDrop_ok] at h7
              have e : fv E [p] = (IntKind.u32.wrap (x.den E)).toNat % 4096 := by simp [fv, h1, h2, hs, T.den, O1.den]
              rw [e] at h7
              rw [h4]
              generalize fv E l = n at *
              generalize x.den E = z at *
              rw [Int.fdiv_eq_ediv_of_nonneg _ (by decide)]
              simp [IntKind.wrap, IntKind.bits, IntKind.signed] at h7 ⊢
              omega
          · cases h
      · cases h
  · cases h
/-- A sum more or less a number. -/
def shiftT (t : T) (c : Int) : T := match t with
  | .bin .sub x (.lit a) => bif a + c == 0 then x else .bin .sub x (.lit (a + c))
  | t => .bin .sub t (.lit c)
theorem shiftT_den (E : Env) (t : T) (c : Int) : (shiftT t c).den E = t.den E - c := by
  unfold shiftT
  split
  · rename_i x a
    cases h : a + c == 0 <;> simp only [cond_true, cond_false, T.den, O2.den]
    · omega
    · have := beq_iff_eq.1 h; omega
  · simp [T.den, O2.den]
theorem wrap_off (k : IntKind) (n q : Int) : k.wrap (n - q * kmod k) = k.wrap n := by
  cases k <;> simp [IntKind.wrap, IntKind.bits, IntKind.signed, kmod] <;> (try split) <;> (try split) <;> omega
/-- .. a sum's or a difference's number told anew. -/
def shiftN (t : T) (c : Int) : T := match t with
  | .bin .sub (.lit m) x => subL (m - c) x
  | .bin .sub x (.lit m) => bif m + c == 0 then x else .bin .sub x (.lit (m + c))
  | .bin .add x (.lit m) => addN x (m - c)
  | t => shiftT t c
theorem shiftN_den (E : Env) (t : T) (c : Int) : (shiftN t c).den E = t.den E - c := by
  unfold shiftN
  split
  · rw [subL_den]; simp only [T.den, O2.den]; omega
  · rename_i x m _
    cases h : m + c == 0
    · simp only [cond_false, T.den, O2.den]; omega
    · have := beq_iff_eq.1 h
      simp only [cond_true, T.den, O2.den]; omega
  · rw [addN_den]; simp only [T.den, O2.den]; omega
  · exact shiftT_den E t c
/-- Wrapped: where a whole number of rounds is known, less these. -/
def cvT (pc : Pc) (k : IntKind) (t : T) : T := match t.rng.lo with
  | some l => bif (l - kmin k) / kmod k == 0 || (!ksig k && leb 0 l) then bitG (mkW pc k t) else
      bif t.rng.within (kmin k + (l - kmin k) / kmod k * kmod k) (kmax k + (l - kmin k) / kmod k * kmod k) then shiftN t ((l - kmin k) / kmod k * kmod k) else bitG (mkW pc k t)
  | none => bitG (mkW pc k t)
theorem cvT_den {E : Env} {pc : Pc} (hp : pcOk E pc) (k : IntKind) (t : T) : (cvT pc k t).den E = k.wrap (t.den E) := by
  unfold cvT
  split
  · rename_i l _
    cases (l - kmin k) / kmod k == 0 || (!ksig k && leb 0 l) <;> simp only [cond_true, cond_false]
    · cases hw : t.rng.within (kmin k + (l - kmin k) / kmod k * kmod k) (kmax k + (l - kmin k) / kmod k * kmod k) <;> simp only [cond_true, cond_false]
      · rw [bitG_den, mkW_den hp]
      · have := Iv.within_has hw (t.rng_has E)
        rw [shiftN_den, ← wrap_off k _ ((l - kmin k) / kmod k)]
        generalize (l - kmin k) / kmod k * kmod k = c at *
        rw [wrap_in k]
        rw [← kmin_eq, ← kmax_eq]
        omega
    · rw [bitG_den, mkW_den hp]
  · rw [bitG_den, mkW_den hp]
/-- Are two terms the same bits? -/
def eqB (a b : T) : Bool := match bitsT a with
  | some l => match bitsT b with
    | some l' => fdEq (mrg l) (mrg l')
    | none => false
  | none => false
theorem eqB_ok {E : Env} {a b : T} (h : eqB a b = true) : a.den E = b.den E := by
  unfold eqB at h
  split at h
  · rename_i l hl
    split at h
    · rename_i l' hl'
      rw [bitsT_ok E _ _ hl, bitsT_ok E _ _ hl', ← mrg_ok E l, ← mrg_ok E l', fdEq_eq h]
    · cases h
  · cases h
def isBor (a : T) : Bool := match a with
  | .bin (.bor _) _ _ => true
  | _ => false
/-- Two numbers with the same bits are the same. -/
def eqN (t : T) : T := match t with
  | .bin .eq a b => bif (isBor a || isBor b) && eqB a b then .lit 1 else t
  | t => t
theorem eqN_den (E : Env) (t : T) : (eqN t).den E = t.den E := by
  unfold eqN
  split
  · rename_i a b
    cases h : (isBor a || isBor b) && eqB a b <;> simp only [cond_true, cond_false]
    rw [Bool.and_eq_true] at h
    simp only [T.den, O2.den, eqB_ok (E := E) h.2, beq_self_eq_true]; rfl
  · rfl
theorem eqN_tr (E : Env) (t : T) : (eqN t).tr E = t.tr E := by
  show (T.den E (eqN t) != 0) = _
  rw [eqN_den]; rfl
/-- What shifts, ands, ors make, in fewer words. -/
def bitN (pc : Pc) (t : T) : T := match t with
  | .bin (.shr .i32) (.un (.wrap .i32) y) (.lit 24) => match sgnB y with
    | some x => cvT pc .i8 x
    | none => bitG t
  | .bin (.shr .i32) (.un (.wrap .i32) y) (.lit 20) => match sgn12 y with
    | some x => x
    | none => bitG t
  | .bin .eq a b => eqN (.bin .eq a b)
  | t => bitG t
theorem bitN_den {E : Env} {pc : Pc} (hp : pcOk E pc) (t : T) : (bitN pc t).den E = t.den E := by
  unfold bitN
  split
  · split
    · rename_i y x hx
      rw [cvT_den hp]
      have := sgnB_ok (E := E) hx
      simp only [T.den, O2.den, O1.den]
      rw [← this]; rfl
    · rw [bitG_den]
  · split
    · rename_i y x hx
      have := sgn12_ok (E := E) hx
      simp only [T.den, O2.den, O1.den]
      rw [← this]; rfl
    · rw [bitG_den]
  · rw [eqN_den]
  · rw [bitG_den]
end Go.Sy
