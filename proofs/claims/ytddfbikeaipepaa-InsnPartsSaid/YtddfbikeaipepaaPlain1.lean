/- Functions of the instructions, each told by its own run; and what follows from what they tell. -/
import Derived.Test.YtddfbikeaipepaaCardsInsn
namespace Go.Sy
theorem trand (E : Env) (a b : T) : (T.bin .and a b).tr E = (a.tr E && b.tr E) := by simp only [T.tr, T.den, O2.den, tb_ne]
theorem tror (E : Env) (a b : T) : (T.bin .or a b).tr E = (a.tr E || b.tr E) := by simp only [T.tr, T.den, O2.den, tb_ne]
theorem trnot (E : Env) (a : T) : (T.un .not a).tr E = !(a.tr E) := by simp only [T.tr, T.den, O1.den, tb_ne]; cases h : a.den E == 0 <;> simp_all
theorem treq (E : Env) (a b : T) : (T.bin .eq a b).tr E = (a.den E == b.den E) := by simp only [T.tr, T.den, O2.den, tb_ne]
theorem trlt (E : Env) (a b : T) : (T.bin .lt a b).tr E = ltb (a.den E) (b.den E) := by simp only [T.tr, T.den, O2.den, tb_ne]
theorem denlit (E : Env) (n : Int) : (T.lit n).den E = n := rfl
/-- What an instruction must be. -/
structure IsP0 (op cond ak bk len : Int) (rep h a b : Bool) : Prop where
  p1 : 1 ≤ op ∧ op ≤ 53
  p2 : 0 ≤ len ∧ len ≤ 15
  p3 : rep = true → op = 41 ∨ op = 42
  p4 : 0 ≤ cond ∧ cond ≤ 15
  p5 : cond = 0 ∨ h = true
  p6 : ¬ (ak = 3 ∧ bk = 3)
  p7 : a = true
  p8 : b = true
def vI (i : Nat) : T := .v i (-9223372036854775808) 9223372036854775807
def vB (i : Nat) : T := .v i 0 1
theorem is_iff (E : Env) (h1 : (vB 19).tr E = (vB 17).tr E) (h2 : (vB 20).tr E = (vB 18).tr E) :
    t26.tr E = true ↔ IsP0 ((vI 0).den E) ((vI 1).den E) ((vI 2).den E) ((vI 8).den E) ((vI 15).den E) ((vB 14).tr E) ((vB 16).tr E) ((vB 17).tr E) ((vB 18).tr E) := by
  unfold t26
  simp only [trand, tror, trnot, treq, trlt, denlit]
  simp only [vI, vB] at h1 h2 ⊢
  rw [h1, h2]
  generalize (T.v 0 (-9223372036854775808) 9223372036854775807).den E = op
  generalize (T.v 1 (-9223372036854775808) 9223372036854775807).den E = cond
  generalize (T.v 2 (-9223372036854775808) 9223372036854775807).den E = ak
  generalize (T.v 8 (-9223372036854775808) 9223372036854775807).den E = bk
  generalize (T.v 15 (-9223372036854775808) 9223372036854775807).den E = len
  generalize (T.v 14 0 1).tr E = rep
  generalize (T.v 16 0 1).tr E = h
  generalize (T.v 17 0 1).tr E = a
  generalize (T.v 18 0 1).tr E = b
  constructor
  · intro hh
    simp only [Bool.and_eq_true, Bool.or_eq_true, Bool.not_eq_true', Bool.or_eq_false_iff, Bool.and_eq_false_iff, Bool.not_eq_false', ltb_t, ltb_f, beq_iff_eq, beq_eq_false_iff_ne] at hh
    constructor <;> cases rep <;> cases h <;> cases a <;> cases b <;> simp_all <;> omega
  · rintro ⟨q1, q2, q3, q4, q5, q6, q7, q8⟩
    subst q7 q8
    simp only [Bool.and_eq_true, Bool.or_eq_true, Bool.not_eq_true', Bool.or_eq_false_iff, Bool.and_eq_false_iff, Bool.not_eq_false', ltb_t, ltb_f, beq_iff_eq, beq_eq_false_iff_ne]
    cases rep <;> cases h <;> simp_all <;> omega
theorem is_cases (E : Env) : t26.den E = 1 ∧ t26.tr E = true ∨ t26.den E = 0 ∧ t26.tr E = false := by
  unfold T.tr t26
  simp only [T.den, O2.den]
  rcases tb_cases _ with ⟨h, e⟩ | ⟨h, e⟩ <;> rw [e] <;> simp
end Go.Sy
