/- Functions, each told by its own run; and what follows from what they tell. -/
import Derived.Test.YtddfbikeaipepaaJy29
namespace Go.Sy
/-! what is known of letters, and on what they hang -/
inductive Ab where
  | lit (n : Int)
  | ne3
  | low
  | high
  | top
def Ab.has : Ab → Int → Prop
  | .lit n, x => x = n
  | .ne3, x => clamp (kmin .i64) (kmax .i64) x ≠ 3
  | .low, x => clamp (kmin .i64) (kmax .i64) x < 0
  | .high, x => 53 < clamp (kmin .i64) (kmax .i64) x
  | .top, _ => True
def Ab.isLit : Ab → Bool
  | .lit _ => true
  | _ => false
def Ab.hasA (a : Ab) (x : Arg) : Prop := a.has x.n ∧ (a.isLit = true → ∀ j, x.s j = x.n)
structure Av where
  a : Ab
  m : Nat
def avD : Av := ⟨.top, 63⟩
def Av.rel (D : Nat) (z : Av) (x y : Arg) : Prop := z.a.hasA x ∧ z.a.hasA y ∧ (z.m &&& D = 0 → x = y)
def getA (l : List Av) (i : Nat) : Av := l.getD i avD
def abClamp (lo hi : Int) (a : Ab) : Ab := match a with
  | .lit n => .lit (clamp lo hi n)
  | .top => .top
  | a => bif lo == kmin .i64 && hi == kmax .i64 then a else .top
def abNot : Ab → Ab
  | .lit n => .lit (tb (n == 0))
  | _ => .top
def abEq : Ab → Ab → Ab
  | .lit p, .lit q => .lit (tb (p == q))
  | .ne3, .lit q => bif q == 3 then .lit 0 else .top
  | .low, .lit q => bif leb 0 q && leb q 53 then .lit 0 else .top
  | .high, .lit q => bif leb 0 q && leb q 53 then .lit 0 else .top
  | _, _ => .top
def abLt : Ab → Ab → Ab
  | .lit p, .lit q => .lit (tb (ltb p q))
  | .low, .lit q => bif leb 0 q && leb q 53 then .lit 1 else .top
  | .lit q, .low => bif leb (-1) q && leb q 53 then .lit 0 else .top
  | .high, .lit q => bif leb 0 q && leb q 53 then .lit 0 else .top
  | .lit q, .high => bif leb 0 q && leb q 53 then .lit 1 else .top
  | _, _ => .top
def abBin (o : O2) (x y : Ab) : Ab := match o with
  | .and => (match x, y with
    | .lit p, .lit q => .lit (tb (p != 0 && q != 0))
    | .lit p, _ => bif p == 0 then .lit 0 else .top
    | _, .lit q => bif q == 0 then .lit 0 else .top
    | _, _ => .top)
  | .or => (match x, y with
    | .lit p, .lit q => .lit (tb (p != 0 || q != 0))
    | .lit p, _ => bif p == 0 then .top else .lit 1
    | _, .lit q => bif q == 0 then .top else .lit 1
    | _, _ => .top)
  | .eq => abEq x y
  | .lt => abLt x y
  | o => (match x, y with
    | .lit p, .lit q => .lit (o.den p q)
    | _, _ => .top)
/-- A number that is known hangs on nothing. -/
def mkAv (a : Ab) (m : Nat) : Av := match a with
  | .lit n => ⟨.lit n, 0⟩
  | a => ⟨a, m⟩
def abSame : Ab → Ab → Ab
  | .lit p, .lit q => bif p == q then .lit p else .top
  | _, _ => .top
def look (env : List Av) : T → Av
  | .lit n => ⟨.lit n, 0⟩
  | .v i lo hi => match getA env i with
    | ⟨a, m⟩ => mkAv (abClamp lo hi a) m
  | .un .not a => match look env a with
    | ⟨x, m⟩ => mkAv (abNot x) m
  | .un _ a => match look env a with
    | ⟨_, m⟩ => ⟨.top, m⟩
  | .bin o a b => match look env a, look env b with
    | ⟨x, m⟩, ⟨y, n⟩ => mkAv (abBin o x y) (m ||| n)
  | .ite c a b => match look env c with
    | ⟨.lit k, _⟩ => bif k == 0 then look env b else look env a
    | ⟨_, m⟩ => match look env a, look env b with
      | ⟨x, m1⟩, ⟨y, m2⟩ => mkAv (abSame x y) (m ||| (m1 ||| m2))
  | .sel s i => ⟨.top, (look env s).m ||| (look env i).m⟩
  | .upd s i x => ⟨.top, (look env s).m ||| ((look env i).m ||| (look env x).m)⟩
  | .sh s o => ⟨.top, (look env s).m ||| (look env o).m⟩
  | .blit d o n s => ⟨.top, ((look env d).m ||| (look env o).m) ||| ((look env n).m ||| (look env s).m)⟩
  | .eqr n a b => ⟨.top, (look env n).m ||| ((look env a).m ||| (look env b).m)⟩
theorem or_clear {m n D : Nat} (h : (m ||| n) &&& D = 0) : m &&& D = 0 ∧ n &&& D = 0 := by
  have h2 : ∀ i, ((m ||| n) &&& D).testBit i = false := fun i => by rw [h]; exact Nat.zero_testBit i
  constructor
  · apply Nat.eq_of_testBit_eq
    intro i
    have := h2 i
    simp only [Nat.testBit_and, Nat.testBit_or, Nat.zero_testBit] at this ⊢
    revert this
    cases m.testBit i <;> cases D.testBit i <;> simp
  · apply Nat.eq_of_testBit_eq
    intro i
    have := h2 i
    simp only [Nat.testBit_and, Nat.testBit_or, Nat.zero_testBit] at this ⊢
    revert this
    cases n.testBit i <;> cases D.testBit i <;> simp
theorem clamp_mid2 {lo hi n : Int} (h : lo ≤ hi) : clamp lo hi (clamp lo hi n) = clamp lo hi n := by
  unfold clamp; split <;> split <;> (try split) <;> omega
theorem abClamp_ok {lo hi : Int} {a : Ab} {x : Int} (h : a.has x) : (abClamp lo hi a).has (clamp lo hi x) := by
  cases a with
  | lit n => cases h; rfl
  | top => trivial
  | _ =>
    simp only [abClamp]
    cases hc : lo == kmin .i64 && hi == kmax .i64
    · trivial
    · rw [Bool.and_eq_true, beq_iff_eq, beq_iff_eq] at hc
      obtain ⟨rfl, rfl⟩ := hc
      simp only [cond_true, Ab.has] at h ⊢
      rw [clamp_mid2 (by decide)]; exact h
theorem cl_of {x q : Int} (h1 : 0 ≤ q) (h2 : q ≤ 53) (h : clamp (kmin .i64) (kmax .i64) x = q ∨ x = q) : clamp (kmin .i64) (kmax .i64) x = q := by
  rcases h with h | h
  · exact h
  · subst h; exact clamp_id ⟨by show (-9223372036854775808 : Int) ≤ _; omega, by show _ ≤ (9223372036854775807 : Int); omega⟩
theorem cl_low {x : Int} (h : clamp (kmin .i64) (kmax .i64) x < 0) : x < 0 := by
  have e1 : kmin .i64 = -9223372036854775808 := rfl
  have e2 : kmax .i64 = 9223372036854775807 := rfl
  unfold clamp at h; rw [e1, e2] at h; split at h <;> (try split at h) <;> omega
theorem cl_high {x : Int} (h : 53 < clamp (kmin .i64) (kmax .i64) x) : 53 < x := by
  have e1 : kmin .i64 = -9223372036854775808 := rfl
  have e2 : kmax .i64 = 9223372036854775807 := rfl
  unfold clamp at h; rw [e1, e2] at h; split at h <;> (try split at h) <;> omega
theorem abEq_ok {a b : Ab} {x y : Int} (h : a.has x) (g : b.has y) : (abEq a b).has (tb (x == y)) := by
  unfold abEq
  split
  · cases h; cases g; rfl
  · rename_i q
    cases hq : q == 3
    · trivial
    · have hq := eq_of_beq hq
      subst hq; cases g
      show tb (x == 3) = 0
      have : (x == 3) = false := by
        rw [beq_eq_false_iff_ne]; rintro rfl
        exact h rfl
      rw [this]; rfl
  · rename_i q
    cases hq : leb 0 q && leb q 53
    · trivial
    · rw [Bool.and_eq_true, leb_t, leb_t] at hq
      cases g
      have h := cl_low h
      show tb (x == y) = 0
      have : (x == y) = false := by rw [beq_eq_false_iff_ne]; omega
      rw [this]; rfl
  · rename_i q
    cases hq : leb 0 q && leb q 53
    · trivial
    · rw [Bool.and_eq_true, leb_t, leb_t] at hq
      cases g
      have h := cl_high h
      show tb (x == y) = 0
      have : (x == y) = false := by rw [beq_eq_false_iff_ne]; omega
      rw [this]; rfl
  · trivial
theorem abLt_ok {a b : Ab} {x y : Int} (h : a.has x) (g : b.has y) : (abLt a b).has (tb (ltb x y)) := by
  have ht : ∀ {x y : Int}, x < y → tb (ltb x y) = 1 := fun {x y} h => by rw [show ltb x y = true by rw [ltb_t]; exact h]; rfl
  have hf : ∀ {x y : Int}, y ≤ x → tb (ltb x y) = 0 := fun {x y} h => by rw [show ltb x y = false by rw [ltb_f]; exact h]; rfl
  unfold abLt
  split
  · cases h; cases g; rfl
  · rename_i q
    cases hq : leb 0 q && leb q 53
    · trivial
    · rw [Bool.and_eq_true, leb_t, leb_t] at hq
      cases g
      have h := cl_low h
      exact ht (by omega)
  · rename_i q
    cases hq : leb (-1) q && leb q 53
    · trivial
    · rw [Bool.and_eq_true, leb_t, leb_t] at hq
      cases h
      have g := cl_low g
      exact hf (by omega)
  · rename_i q
    cases hq : leb 0 q && leb q 53
    · trivial
    · rw [Bool.and_eq_true, leb_t, leb_t] at hq
      cases g
      have h := cl_high h
      exact hf (by omega)
  · rename_i q
    cases hq : leb 0 q && leb q 53
    · trivial
    · rw [Bool.and_eq_true, leb_t, leb_t] at hq
      cases h
      have g := cl_high g
      exact ht (by omega)
  · trivial
theorem abBin_ok {o : O2} {a b : Ab} {x y : Int} (h : a.has x) (g : b.has y) : (abBin o a b).has (o.den x y) := by
  have hz : ∀ {p : Int}, (p == 0) = true → (p != 0) = false := fun h => by simp only [bne, h]; rfl
  have hn : ∀ {p : Int}, (p == 0) = false → (p != 0) = true := fun h => by simp only [bne, h]; rfl
  unfold abBin
  split
  · split
    · cases h; cases g; rfl
    · rename_i p _ _
      cases h
      cases hp : x == 0
      · trivial
      · simp only [cond_true, O2.den, hz hp]; rfl
    · rename_i q _ _
      cases g
      cases hp : y == 0
      · trivial
      · simp only [cond_true, O2.den, hz hp, Bool.and_false]; rfl
    · trivial
  · split
    · cases h; cases g; rfl
    · rename_i p _ _
      cases h
      cases hp : x == 0
      · simp only [cond_false, O2.den, hn hp, Bool.true_or]; rfl
      · trivial
    · rename_i q _ _
      cases g
      cases hp : y == 0
      · simp only [cond_false, O2.den, hn hp, Bool.or_true]; rfl
      · trivial
    · trivial
  · exact abEq_ok h g
  · exact abLt_ok h g
  · split
    · cases h; cases g; rfl
    · trivial
theorem mkAv_rel {D m : Nat} {a : Ab} {x y : Arg} (hx : a.hasA x) (hy : a.hasA y) (hm : m &&& D = 0 → x = y) : (mkAv a m).rel D x y := by
  cases a with
  | lit n =>
    refine ⟨hx, hy, fun _ => ?_⟩
    obtain ⟨h1, h2⟩ := hx
    obtain ⟨g1, g2⟩ := hy
    have k2 := h2 rfl
    have q2 := g2 rfl
    cases x; cases y
    simp only [Ab.has] at h1 g1 k2 q2
    subst h1; subst g1
    congr 1; funext j; rw [k2 j, q2 j]
  | _ => exact ⟨hx, hy, hm⟩
theorem hasA_const {a : Ab} {x : Arg} (h : a.has x.n) (hc : ∀ j, x.s j = x.n) : a.hasA x := ⟨h, fun _ => hc⟩
theorem top_has (x : Arg) : Ab.top.hasA x := ⟨trivial, fun h => nomatch h⟩
structure ER (D : Nat) (env : List Av) (E E' : Env) : Prop where
  x : ∀ i, (getA env i).rel D (E.x i) (E'.x i)
theorem me_inj {E E' : Env} {t : T} (h : t.me E = t.me E') : t.den E = t.den E' ∧ t.row E = t.row E' := by
  have h1 := congrArg Arg.n h
  have h2 := congrArg Arg.s h
  exact ⟨h1, h2⟩
theorem look_ok {D : Nat} {env : List Av} {E E' : Env} (h : ER D env E E') : ∀ t : T, (look env t).rel D (t.me E) (t.me E') := by
  intro t
  induction t with
  | lit n => exact ⟨⟨rfl, fun _ j => rfl⟩, ⟨rfl, fun _ j => rfl⟩, fun _ => by simp only [T.me, T.den]; congr 1⟩
  | v i lo hi =>
    obtain ⟨h1, h2, h3⟩ := h.x i
    simp only [look]
    have hv : ∀ {a : Ab} {X : Env}, a.hasA (X.x i) → (abClamp lo hi a).hasA ((T.v i lo hi).me X) := fun {a X} ha => by
      refine ⟨abClamp_ok ha.1, fun hl j => ?_⟩
      have : a.isLit = true := by
        cases a with
        | lit n => rfl
        | top => cases hl
        | _ => simp only [abClamp] at hl; cases hc : lo == kmin .i64 && hi == kmax .i64 <;> rw [hc] at hl <;> cases hl
      show clamp lo hi ((X.x i).s j) = clamp lo hi (X.x i).n
      rw [ha.2 this]
    refine mkAv_rel (hv h1) (hv h2) fun hm => ?_
    have := h3 hm
    simp only [T.me, T.den, this]
    congr 1; funext j; simp only [T.row, this]
  | un o a ih =>
    cases o with
    | not =>
      simp only [look]
      obtain ⟨h1, h2, h3⟩ := ih
      have hn : ∀ (z : Ab) (x : Int), z.has x → (abNot z).has (tb (x == 0)) := fun z x hz => by
        cases z with
        | lit n => cases hz; rfl
        | _ => trivial
      refine mkAv_rel (hasA_const (hn _ _ h1.1) fun j => rfl) (hasA_const (hn _ _ h2.1) fun j => rfl) fun hm => ?_
      have e := (me_inj (h3 hm)).1
      simp only [T.me, T.den, O1.den, e]
      congr 1; funext j; simp only [T.row, e]
    | _ =>
      simp only [look]
      obtain ⟨_, _, h3⟩ := ih
      refine ⟨top_has _, top_has _, fun hm => ?_⟩
      have := me_inj (h3 hm)
      simp only [T.me, T.den, this.1]
      congr 1; funext j; simp only [T.row, this.1, this.2]
  | bin o a b iha ihb =>
    simp only [look]
    obtain ⟨h1, h2, h3⟩ := iha
    obtain ⟨g1, g2, g3⟩ := ihb
    refine mkAv_rel (hasA_const (abBin_ok h1.1 g1.1) fun j => by cases o <;> rfl) (hasA_const (abBin_ok h2.1 g2.1) fun j => by cases o <;> rfl) fun hm => ?_
    obtain ⟨m1, m2⟩ := or_clear hm
    have e1 := (me_inj (h3 m1)).1
    have e2 := (me_inj (g3 m2)).1
    simp only [T.me, T.den, e1, e2]
    congr 1; funext j; simp only [T.row, e1, e2]
  | ite c a b ihc iha ihb =>
    obtain ⟨h1, h2, h3⟩ := ihc
    simp only [look]
    have meT : ∀ X : Env, c.den X ≠ 0 → (T.ite c a b).me X = a.me X := fun X hX => by
      simp only [T.me, T.den, if_neg hX]; congr 1; funext j; simp only [T.row, if_neg hX]
    have meF : ∀ X : Env, c.den X = 0 → (T.ite c a b).me X = b.me X := fun X hX => by
      simp only [T.me, T.den, if_pos hX]; congr 1; funext j; simp only [T.row, if_pos hX]
    split
    · rename_i k _ he
      rw [he] at h1 h2
      have k1 : c.den E = k := h1.1
      have k2 : c.den E' = k := h2.1
      cases hk : k == 0
      · have hk : k ≠ 0 := by simpa using hk
        rw [cond_false, meT E (by rw [k1]; exact hk), meT E' (by rw [k2]; exact hk)]; exact iha
      · have hk : k = 0 := by simpa using hk
        rw [cond_true, meF E (by rw [k1]; exact hk), meF E' (by rw [k2]; exact hk)]; exact ihb
    · rename_i q m _ he
      rw [he] at h3
      have hs : ∀ {x y : Ab} {X : Env}, x.hasA (a.me X) → y.hasA (b.me X) → (abSame x y).hasA ((T.ite c a b).me X) := fun {x y X} hx hy => by
        unfold abSame
        split
        · rename_i p q
          cases hpq : p == q
          · exact top_has _
          · have hpq := eq_of_beq hpq
            subst hpq
            by_cases h0 : c.den X = 0
            · rw [meF X h0]; exact hy
            · rw [meT X h0]; exact hx
        · exact top_has _
      refine mkAv_rel (hs iha.1 ihb.1) (hs iha.2.1 ihb.2.1) fun hm => ?_
      obtain ⟨m1, m2⟩ := or_clear hm
      obtain ⟨m2, m3⟩ := or_clear m2
      have hc := (me_inj (h3 m1)).1
      by_cases h0 : c.den E = 0
      · rw [meF E h0, meF E' (by rw [← hc]; exact h0)]; exact ihb.2.2 m3
      · rw [meT E h0, meT E' (by rw [← hc]; exact h0)]; exact iha.2.2 m2
  | sel s i ihs ihi =>
    refine ⟨top_has _, top_has _, fun hm => ?_⟩
    obtain ⟨m1, m2⟩ := or_clear hm
    have a1 := me_inj (ihs.2.2 m1); have a2 := me_inj (ihi.2.2 m2)
    simp only [T.me, T.den, a1.2, a2.1]
    congr 1; funext j; simp only [T.row, a1.2, a2.1]
  | upd s i x ihs ihi ihx =>
    refine ⟨top_has _, top_has _, fun hm => ?_⟩
    obtain ⟨m1, m2⟩ := or_clear hm
    obtain ⟨m2, m3⟩ := or_clear m2
    have a1 := me_inj (ihs.2.2 m1); have a2 := me_inj (ihi.2.2 m2); have a3 := me_inj (ihx.2.2 m3)
    simp only [T.me, T.den]
    congr 1; funext j; simp only [T.row, a1.2, a2.1, a3.1]
  | sh s o ihs iho =>
    refine ⟨top_has _, top_has _, fun hm => ?_⟩
    obtain ⟨m1, m2⟩ := or_clear hm
    have a1 := me_inj (ihs.2.2 m1); have a2 := me_inj (iho.2.2 m2)
    simp only [T.me, T.den]
    congr 1; funext j; simp only [T.row, a1.2, a2.1]
  | blit d o n s ihd iho ihn ihs =>
    refine ⟨top_has _, top_has _, fun hm => ?_⟩
    obtain ⟨m1, m2⟩ := or_clear hm
    obtain ⟨m1, m3⟩ := or_clear m1
    obtain ⟨m2, m4⟩ := or_clear m2
    have a1 := me_inj (ihd.2.2 m1); have a2 := me_inj (iho.2.2 m3); have a3 := me_inj (ihn.2.2 m2); have a4 := me_inj (ihs.2.2 m4)
    simp only [T.me, T.den]
    congr 1; funext j; simp only [T.row, a1.2, a2.1, a3.1, a4.2]
  | eqr n a b ihn iha ihb =>
    refine ⟨top_has _, top_has _, fun hm => ?_⟩
    obtain ⟨m1, m2⟩ := or_clear hm
    obtain ⟨m2, m3⟩ := or_clear m2
    have a1 := me_inj (ihn.2.2 m1); have a2 := me_inj (iha.2.2 m2); have a3 := me_inj (ihb.2.2 m3)
    simp only [T.me, T.den, a1.1, a2.2, a3.2]
    congr 1; funext j; simp only [T.row, a1.1, a2.2, a3.2]
end Go.Sy
namespace Go.Sy
section
variable {β : Type}
def Ab.fc (a : Ab) (k : Ab → β) : β := match a with
  | .lit n => fcI n fun n => k (.lit n)
  | .ne3 => k .ne3
  | .low => k .low
  | .high => k .high
  | .top => k .top
theorem Ab.fc_eq (a : Ab) (k : Ab → β) : a.fc k = k a := by cases a <;> simp only [Ab.fc, fcI_eq]
def Av.fc (z : Av) (k : Av → β) : β := match z with
  | ⟨a, m⟩ => a.fc fun a => fcN m fun m => k ⟨a, m⟩
theorem Av.fc_eq (z : Av) (k : Av → β) : z.fc k = k z := by cases z; simp only [Av.fc, Ab.fc_eq, fcN_eq]
end
def padA : Nat → List Av → List Av
  | 0, _ => []
  | n + 1, [] => avD :: padA n []
  | n + 1, z :: r => z :: padA n r
theorem padA_len : ∀ {n : Nat} {l : List Av}, (padA n l).length = n := by
  intro n
  induction n with
  | zero => intro l; cases l <;> rfl
  | succ n ih => intro l; cases l <;> simp only [padA, List.length_cons, ih]
theorem padA_get : ∀ {n : Nat} {l : List Av} {i : Nat}, i < n → getA (padA n l) i = getA l i := by
  intro n
  induction n with
  | zero => intro l i h; omega
  | succ n ih =>
    intro l i h
    cases l with
    | nil =>
      cases i with
      | zero => rfl
      | succ i =>
        have := ih (l := []) (i := i) (by omega)
        simp only [padA, getA, List.getD_cons_succ] at this ⊢
        rw [this]; simp
    | cons z r =>
      cases i with
      | zero => rfl
      | succ i =>
        have := ih (l := r) (i := i) (by omega)
        simp only [padA, getA, List.getD_cons_succ] at this ⊢
        exact this
/-- The letters that are told: what is known of them. -/
def extA (A : Nat → List Av → List Av) (env : List Av) : List Df → Option (List Av)
  | [] => some env
  | d :: r => match extA A env r with
    | none => none
    | some e => match d with
      | .one i t => bif Nat.beq i e.length then fcLs Av.fc [look e t] fun l => some (e ++ l) else none
      | .call i g args cnt => bif Nat.beq i e.length then fcLs Av.fc (args.map (look e)) fun zs => fcLs Av.fc (padA cnt (A g zs)) fun l => some (e ++ l) else none
def absG : List Te → Nat → List Av → List Av
  | [] => fun _ _ => []
  | c :: r => fun g zs => bif Nat.beq g c.id then (match c with
    | .card c => (match extA (absG r) zs c.ds with
      | some e => c.ls.map (look e)
      | none => [])
    | _ => []) else absG r g zs
def FR (D : Nat) (A : Nat → List Av → List Av) (F : Nat → List Arg → List Arg) : Prop := ∀ g zs (xs ys : List Arg), xs.length = ys.length → (∀ i, (getA zs i).rel D (xs.getD i default) (ys.getD i default)) →
  ∀ i, (getA (A g zs) i).rel D (((F g xs)[i]?).getD default) (((F g ys)[i]?).getD default)
theorem rel_same {D : Nat} (x : Arg) : avD.rel D x x := ⟨top_has _, top_has _, fun _ => rfl⟩
theorem getA_app {l q : List Av} {i : Nat} : getA (l ++ q) i = if i < l.length then getA l i else getA q (i - l.length) := by
  unfold getA
  split
  · rename_i h; rw [List.getD_eq_getElem?_getD, List.getElem?_append_left h, ← List.getD_eq_getElem?_getD]
  · rename_i h; rw [List.getD_eq_getElem?_getD, List.getElem?_append_right (by omega), ← List.getD_eq_getElem?_getD]
theorem getA_out {l : List Av} {i : Nat} (h : l.length ≤ i) : getA l i = avD := by
  unfold getA; rw [List.getD_eq_getElem?_getD, List.getElem?_eq_none h]; rfl
theorem ER.set {D : Nat} {e l : List Av} {E E' : Env} (h : ER D e E E') {i cnt : Nat} {f g : Nat → Arg} (hi : i = e.length) (hl : l.length = cnt) (hf : ∀ k, k < cnt → (getA l k).rel D (f k) (g k)) : ER D (e ++ l) (setX E i cnt f) (setX E' i cnt g) := by
  subst hi
  refine ⟨fun j => ?_⟩
  rw [getA_app]
  simp only [setX]
  split
  · rename_i hj
    rw [if_neg (by omega), if_neg (by omega)]; exact h.x j
  · rename_i hj
    by_cases hk : j < e.length + cnt
    · rw [if_pos ⟨by omega, hk⟩, if_pos ⟨by omega, hk⟩]; exact hf _ (by omega)
    · rw [if_neg (by omega), if_neg (by omega), getA_out (by omega)]
      have := h.x j
      rw [getA_out (by omega)] at this; exact this
theorem extA_ok {D : Nat} {A : Nat → List Av → List Av} {F : Nat → List Arg → List Arg} (hF : FR D A F) {env : List Av} {x y : Nat → Arg} (h : ER D env ⟨x, F⟩ ⟨y, F⟩) : ∀ {ds : List Df} {e : List Av}, extA A env ds = some e → ER D e (extL ⟨x, F⟩ ds) (extL ⟨y, F⟩ ds) := by
  have hFx : ∀ (x : Nat → Arg) (ds : List Df), (extL ⟨x, F⟩ ds).F = F := fun x ds => by
    induction ds with
    | nil => rfl
    | cons d r ih => cases d <;> exact ih
  intro ds
  induction ds with
  | nil => intro e he; cases he; exact h
  | cons d r ih =>
    intro e he
    simp only [extA] at he
    split at he
    · cases he
    · rename_i e0 h0
      have ih := ih h0
      split at he
      · rename_i i t
        cases hi : Nat.beq i e0.length
        · rw [hi] at he; cases he
        · rw [hi, cond_true, fcLs_eq Av.fc_eq] at he
          cases he
          show ER D (e0 ++ [look e0 t]) (setX (extL ⟨x, F⟩ r) i 1 fun _ => t.me (extL ⟨x, F⟩ r)) (setX (extL ⟨y, F⟩ r) i 1 fun _ => t.me (extL ⟨y, F⟩ r))
          refine ih.set (l := [look e0 t]) (cnt := 1) (Nat.eq_of_beq_eq_true hi) rfl fun k hk => ?_
          obtain rfl : k = 0 := by omega
          exact look_ok ih t
      · rename_i i g args cnt
        cases hi : Nat.beq i e0.length
        · rw [hi] at he; cases he
        · rw [hi, cond_true, fcLs_eq Av.fc_eq, fcLs_eq Av.fc_eq] at he
          cases he
          show ER D (e0 ++ padA cnt (A g (args.map (look e0)))) (setX (extL ⟨x, F⟩ r) i cnt fun k => (((extL ⟨x, F⟩ r).F g (args.map (T.me (extL ⟨x, F⟩ r))))[k]?).getD default) (setX (extL ⟨y, F⟩ r) i cnt fun k => (((extL ⟨y, F⟩ r).F g (args.map (T.me (extL ⟨y, F⟩ r))))[k]?).getD default)
          refine ih.set (Nat.eq_of_beq_eq_true hi) padA_len fun k hk => ?_
          rw [padA_get hk]
          simp only [hFx]
          refine hF g _ _ _ (by simp) (fun j => ?_) k
          simp only [getA, List.getD_eq_getElem?_getD, List.getElem?_map]
          cases hj : args[j]? with
          | none => exact rel_same default
          | some t => exact look_ok ih t
theorem list_ext {xs ys : List Arg} (hl : xs.length = ys.length) (h : ∀ i, xs.getD i default = ys.getD i default) : xs = ys := by
  refine List.ext_getElem hl fun i h1 h2 => ?_
  have := h i
  rw [List.getD_eq_getElem?_getD, List.getD_eq_getElem?_getD, List.getElem?_eq_getElem h1, List.getElem?_eq_getElem h2] at this
  exact this
theorem absG_ok {D : Nat} (hD : 63 &&& D = 0 → D = 0) : ∀ {l : List Te}, FR D (absG l) (mkG l) := by
  intro l
  induction l with
  | nil => intro g zs xs ys _ _ i; exact rel_same default
  | cons c r ih =>
    intro g zs xs ys hl h i
    have same : avD.rel D (((mkG (c :: r) g xs)[i]?).getD default) (((mkG (c :: r) g ys)[i]?).getD default) := by
      refine ⟨top_has _, top_has _, fun hm => ?_⟩
      have h0 : D = 0 := hD hm
      have : xs = ys := list_ext hl fun j => (h j).2.2 (by rw [h0]; exact Nat.and_zero _)
      rw [this]
    simp only [absG]
    cases hb : Nat.beq g c.id <;> simp only [cond_true, cond_false]
    · simp only [mkG, hb, cond_false]
      exact ih g zs xs ys hl h i
    · split
      · rename_i c
        split
        · rename_i e he
          simp only [mkG, hb, cond_true, Te.spec, Fk.spec]
          have := extA_ok ih (env := zs) (x := fun i => xs.getD i default) (y := fun i => ys.getD i default) ⟨h⟩ he
          simp only [getA, List.getD_eq_getElem?_getD, List.getElem?_map]
          cases hj : c.ls[i]? with
          | none => exact rel_same default
          | some t => exact look_ok this t
        · exact same
      · exact same
end Go.Sy
