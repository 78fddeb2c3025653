/- Part Za3 of a checked reader of Go texts in their model form: it runs a function at terms in the place of numbers, and each part proves that its answers hold of the model. -/
import Derived.Test.YtjfcnhfpnjcjaaaGreatDoorQyZa1
import Derived.Test.YtjfcnhfpnjcjaaaGreatDoorQySy3
import Derived.ChangeKeysEq
import Derived.WalkKit
namespace Go.E3
open Go.Sy
noncomputable section

/-! numbers, quick -/
def kbase : IntKind → Nat
  | .i8 | .u8 => 256 | .i16 | .u16 => 65536 | .i32 | .u32 => 4294967296 | .i64 | .u64 => 18446744073709551616
def khalf : IntKind → Nat
  | .i8 | .u8 => 128 | .i16 | .u16 => 32768 | .i32 | .u32 => 2147483648 | .i64 | .u64 => 9223372036854775808
def modN (m : Nat) (n : Int) : Nat := Int.casesOn n (fun a => Nat.mod a m) (fun a => Nat.sub (Nat.pred m) (Nat.mod a m))
theorem modN_eq {m : Nat} (hm : 0 < m) (n : Int) : (modN m n : Int) = n % (m : Int) := by
  cases n with
  | ofNat a => exact (Int.natCast_emod a m).symm ▸ rfl
  | negSucc a =>
    have h : a % m < m := Nat.mod_lt _ hm
    show ((Nat.pred m - a % m : Nat) : Int) = Int.subNatNat m (Nat.succ (a % m))
    rw [Int.subNatNat_of_le (by omega), Nat.pred_eq_sub_one]
    congr 1; omega
def wrapF (k : IntKind) (n : Int) : Int :=
  bif ksig k && Nat.ble (khalf k) (modN (kbase k) n) then .negSucc (Nat.pred (Nat.sub (kbase k) (modN (kbase k) n))) else .ofNat (modN (kbase k) n)
theorem wrapF_eq (k : IntKind) (n : Int) : wrapF k n = k.wrap n := by
  have h := modN_eq (m := kbase k) (by cases k <;> decide) n
  have hlt : modN (kbase k) n < kbase k := by
    have := Int.emod_lt_of_pos n (b := (kbase k : Int)) (by cases k <;> decide)
    omega
  unfold wrapF
  generalize modN (kbase k) n = r at *
  have e : (2 ^ k.bits : Int) = (kbase k : Int) := by cases k <;> rfl
  have e2 : (2 ^ (k.bits - 1) : Int) = (khalf k : Int) := by cases k <;> rfl
  have e3 : k.signed = ksig k := by cases k <;> rfl
  unfold IntKind.wrap
  simp only [e, e2, e3, ← h]
  cases hs : ksig k
  · simp
  · cases hb : Nat.ble (khalf k) r
    · have : ¬ khalf k ≤ r := fun hc => by rw [← Nat.ble_eq, hb] at hc; cases hc
      simp only [Bool.true_and, cond_false]
      rw [if_neg (by simp; omega)]; rfl
    · rw [Nat.ble_eq] at hb
      simp only [Bool.true_and, cond_true]
      rw [if_pos (by simp; omega)]
      show Int.negSucc (Nat.pred (kbase k - r)) = _
      rw [Int.negSucc_eq, Nat.pred_eq_sub_one]
      omega
def ltF (a b : Int) : Bool := Int.casesOn a (fun m => Int.casesOn b (fun n => Nat.ble (Nat.succ m) n) (fun _ => false)) (fun m => Int.casesOn b (fun _ => true) (fun n => Nat.ble (Nat.succ n) m))
theorem ltF_eq (a b : Int) : ltF a b = ltb a b := by
  rw [Bool.eq_iff_iff, ltb_t]
  cases a <;> cases b <;> simp only [ltF, Nat.ble_eq] <;> constructor <;> intro h <;> first | (cases h; done) | (simp only [Int.ofNat_eq_natCast, Int.negSucc_eq] at *; omega) | skip
  all_goals (simp only [Int.ofNat_eq_natCast, Int.negSucc_eq] at *; try omega)
def eqF (a b : Int) : Bool := Int.casesOn a (fun m => Int.casesOn b (fun n => Nat.beq m n) (fun _ => false)) (fun m => Int.casesOn b (fun _ => false) (fun n => Nat.beq m n))
theorem eqF_eq (a b : Int) : eqF a b = (a == b) := by
  rw [Bool.eq_iff_iff, beq_iff_eq]
  cases a <;> cases b <;> simp only [eqF, Nat.beq_eq] <;> constructor <;> intro h <;> first | (cases h; done) | (cases h; rfl) | (rw [h])
def tbF (b : Bool) : T := Bool.casesOn b (.lit 0) (.lit 1)
theorem tbF_tr (E : Env) (b : Bool) : (tbF b).tr E = b := by cases b <;> rfl
def bitsF (k : IntKind) (a : Int) : Nat := modN (kbase k) a
theorem bitsF_eq (k : IntKind) (a : Int) : bitsF k a = (BitVec.ofInt k.bits a).toNat := by
  have h := modN_eq (m := kbase k) (by cases k <;> decide) a
  rw [BitVec.toNat_ofInt]
  have e : ((2 ^ k.bits : Nat) : Int) = (kbase k : Int) := by cases k <;> rfl
  rw [e, ← h]; rfl
/-- An operation of two numbers that are known. -/
def intLit (op : BinOp) (k : IntKind) (m n : Int) : Option C :=
  match op with
  | .add => some (.int k (.lit (wrapF k (Int.add m n))))
  | .sub => some (.int k (.lit (wrapF k (Int.sub m n))))
  | .mul => some (.int k (.lit (wrapF k (Int.mul m n))))
  | .quo => bif eqF n 0 then none else some (.int k (.lit (wrapF k (Int.tdiv m n))))
  | .rem => bif eqF n 0 then none else some (.int k (.lit (Int.tmod m n)))
  | .and => some (.int k (.lit (wrapF k (.ofNat (Nat.land (bitsF k m) (bitsF k n))))))
  | .or => some (.int k (.lit (wrapF k (.ofNat (Nat.lor (bitsF k m) (bitsF k n))))))
  | .xor => some (.int k (.lit (wrapF k (.ofNat (Nat.xor (bitsF k m) (bitsF k n))))))
  | .andNot => some (.int k (.lit ((O2.bandn k).fold m n)))
  | .eql => some (.bool (tbF (eqF m n)))
  | .neq => some (.bool (tbF (not (eqF m n))))
  | .lss => some (.bool (tbF (ltF m n)))
  | .leq => some (.bool (tbF (not (ltF n m))))
  | .gtr => some (.bool (tbF (ltF n m)))
  | .geq => some (.bool (tbF (not (ltF m n))))
  | .shl => bif ltF n 0 then none else some (.int k (.lit ((O2.shl k).fold m n)))
  | .shr => bif ltF n 0 then none else some (.int k (.lit ((O2.shr k).fold m n)))
/-- Must a number not be nought, not be below it? -/
def sure (pc : Pc) (t : T) : Bool := match dec pc t with
  | some true => true
  | _ => false
theorem sure_ok {E : Env} {pc : Pc} (hp : pcOk E pc) {t : T} (h : sure pc t = true) : t.tr E = true := by
  unfold sure at h
  split at h
  · rename_i h'; exact dec_ok hp h'
  · cases h
/-- Quotients and rests, where a range tells more. -/
def quoT (pc : Pc) (s t : T) : T := match t with
  | .lit n => bif ltb 0 n && (rngP pc s).within (1 - n) (n - 1) then .lit 0 else bif ltb 0 n && (rngP pc s).within (-18446744073709551616) 0 then .bin .sub (.lit 0) (divS (negL s) (.lit n)) else mk2 .tdiv s (.lit n)
  | t => mk2 .tdiv s t
theorem quoT_den {E : Env} {pc : Pc} (hp : pcOk E pc) (s t : T) : (quoT pc s t).den E = (s.den E).tdiv (t.den E) := by
  unfold quoT
  split
  · rename_i n
    cases h1 : ltb 0 n && (rngP pc s).within (1 - n) (n - 1) <;> simp only [cond_true, cond_false]
    · cases h2 : ltb 0 n && (rngP pc s).within (-18446744073709551616) 0 <;> simp only [cond_true, cond_false]
      · rw [mk2_den]; rfl
      · simp only [T.den, O2.den, divS_den, negL_den, Int.neg_tdiv]; omega
    · rw [Bool.and_eq_true, ltb_t] at h1
      have hr := Iv.within_has h1.2 (rngP_has s hp)
      simp only [T.den]
      rcases Int.lt_or_le (s.den E) 0 with h | h
      · have h3 := Int.tdiv_eq_zero_of_lt (a := - s.den E) (b := n) (by omega) (by omega)
        rw [Int.neg_tdiv] at h3; omega
      · exact (Int.tdiv_eq_zero_of_lt h (by omega)).symm
  · rw [mk2_den]; rfl
def remT (pc : Pc) (s t : T) : T := match t with
  | .lit n => bif ltb 0 n && (rngP pc s).within (1 - n) (n - 1) then s else bif ltb 0 n && (rngP pc s).within (-18446744073709551616) 0 then .bin .sub (.lit 0) (modS (negL s) (.lit n)) else mk2 .tmod s (.lit n)
  | t => mk2 .tmod s t
theorem remT_den {E : Env} {pc : Pc} (hp : pcOk E pc) (s t : T) : (remT pc s t).den E = (s.den E).tmod (t.den E) := by
  unfold remT
  split
  · rename_i n
    cases h1 : ltb 0 n && (rngP pc s).within (1 - n) (n - 1) <;> simp only [cond_true, cond_false]
    · cases h2 : ltb 0 n && (rngP pc s).within (-18446744073709551616) 0 <;> simp only [cond_true, cond_false]
      · rw [mk2_den]; rfl
      · simp only [T.den, O2.den, modS_den, negL_den, Int.neg_tmod]; omega
    · rw [Bool.and_eq_true, ltb_t] at h1
      have hr := Iv.within_has h1.2 (rngP_has s hp)
      simp only [T.den]
      rcases Int.lt_or_le (s.den E) 0 with h | h
      · have h3 := Int.tmod_eq_of_lt (a := - s.den E) (b := n) (by omega) (by omega)
        rw [Int.neg_tmod] at h3; omega
      · exact (Int.tmod_eq_of_lt h (by omega)).symm
  · rw [mk2_den]; rfl
def intSym (pc : Pc) (op : BinOp) (k : IntKind) (s t : T) : Option C :=
  match op with
  | .add => some (.int k (mkW pc k (mk2 .add s t)))
  | .sub => some (.int k (mkW pc k (mk2 .sub s t)))
  | .mul => some (.int k (mkW pc k (mk2 .mul s t)))
  | .quo => bif sure pc (mkNot (mk2 .eq t (.lit 0))) then some (.int k (mkW pc k (quoT pc s t))) else none
  | .rem => bif sure pc (mkNot (mk2 .eq t (.lit 0))) then some (.int k (one pc (remT pc s t))) else none
  | .and => some (.int k (bitN pc (mk2 (.band k) s t)))
  | .or => some (.int k (bitN pc (mk2 (.bor k) s t)))
  | .xor => some (.int k (mk2 (.bxor k) s t))
  | .andNot => some (.int k (bitN pc (mk2 (.bandn k) s t)))
  | .eql => some (.bool (norm pc (eqN (mk2 .eq s t))))
  | .neq => some (.bool (norm pc (mkNot (eqN (mk2 .eq s t)))))
  | .lss => some (.bool (norm pc (mk2 .lt s t)))
  | .leq => some (.bool (norm pc (mk2 .le s t)))
  | .gtr => some (.bool (norm pc (mk2 .lt t s)))
  | .geq => some (.bool (norm pc (mk2 .le t s)))
  | .shl => bif sure pc (mk2 .le (.lit 0) t) then some (.int k (bitN pc (mk2 (.shl k) s t))) else none
  | .shr => bif sure pc (mk2 .le (.lit 0) t) then some (.int k (bitN pc (mk2 (.shr k) s t))) else none
def intO (pc : Pc) (op : BinOp) (k : IntKind) (s t : T) : Option C := match s with
  | .lit m => match t with
    | .lit n => intLit op k m n
    | t => intSym pc op k (.lit m) t
  | s => intSym pc op k s t
/-- The number that it comes to. -/
def intVal (op : BinOp) (k : IntKind) (m n : Int) : Value := match op with
  | .add => .int k (k.wrap (m + n))
  | .sub => .int k (k.wrap (m - n))
  | .mul => .int k (k.wrap (m * n))
  | .quo => .int k (k.wrap (m.tdiv n))
  | .rem => .int k (m.tmod n)
  | .and => .int k ((O2.band k).den m n)
  | .or => .int k ((O2.bor k).den m n)
  | .xor => .int k ((O2.bxor k).den m n)
  | .andNot => .int k ((O2.bandn k).den m n)
  | .eql => .bool (m == n)
  | .neq => .bool (m != n)
  | .lss => .bool (decide (m < n))
  | .leq => .bool (decide (m ≤ n))
  | .gtr => .bool (decide (n < m))
  | .geq => .bool (decide (n ≤ m))
  | .shl => .int k ((O2.shl k).den m n)
  | .shr => .int k ((O2.shr k).den m n)
def intDef (op : BinOp) (n : Int) : Prop := match op with
  | .quo | .rem => n ≠ 0
  | .shl | .shr => 0 ≤ n
  | _ => True
theorem intVal_run {P : Program} {op : BinOp} {k k' : IntKind} {m n : Int} (hk : op = .shl ∨ op = .shr ∨ k = k') (hd : intDef op n) (ty : TypeId) (w : World) :
    (binOp op ty (.int k m) (.int k' n)).run P w = .ok (intVal op k m n) w := by
  cases op
  case shl => simp only [intDef] at hd; simp [binOp, Op.shift, Int.not_lt.2 hd]; rfl
  case shr => simp only [intDef] at hd; simp [binOp, Op.shift, Int.not_lt.2 hd]; rfl
  all_goals (have hk' : k = k' := by simpa using hk)
  all_goals subst hk'
  case quo => simp only [intDef] at hd; simp [binOp, Op.intDiv, hd]; rfl
  case rem => simp only [intDef] at hd; simp [binOp, Op.intDiv, hd]; rfl
  case add => simp [binOp, Op.intArith]; rfl
  case sub => simp [binOp, Op.intArith]; rfl
  case mul => simp [binOp, Op.intArith]; rfl
  case and => simp only [binOp, ne_eq, not_true_eq_false, if_false, Op.intBits]; simp [intVal, O2.den]
  case or => simp only [binOp, ne_eq, not_true_eq_false, if_false, Op.intBits]; simp [intVal, O2.den]
  case xor => simp only [binOp, ne_eq, not_true_eq_false, if_false, Op.intBits]; simp [intVal, O2.den]
  case andNot => simp only [binOp, ne_eq, not_true_eq_false, if_false, Op.intBits]; rfl
  case eql => simp [binOp, Op.intCmp]; rfl
  case neq => simp [binOp, Op.intCmp]; rfl
  case lss => simp [binOp, Op.intCmp]; rfl
  case leq => simp [binOp, Op.intCmp]; rfl
  case gtr => simp [binOp, Op.intCmp]; rfl
  case geq => simp [binOp, Op.intCmp]; rfl
theorem not_lt_le (m n : Int) : (!(ltb m n)) = decide (n ≤ m) := by
  rw [Bool.eq_iff_iff, Bool.not_eq_true', ltb_f, decide_eq_true_iff]
theorem intLit_ok {E : Env} {ρ : Pt → Rb} {op : BinOp} {k : IntKind} {m n : Int} {c : C} (h : intLit op k m n = some c) : intDef op n ∧ c.val E ρ = intVal op k m n ∧ ∀ D, c.ok E ρ D := by
  cases op <;> simp only [intLit] at h
  case quo =>
    cases hn : eqF n 0 <;> simp only [hn, cond_true, cond_false, Option.some.injEq] at h
    · subst h; rw [eqF_eq, beq_eq_false_iff_ne] at hn
      exact ⟨hn, by simp only [C.val, T.den, intVal, wrapF_eq], fun _ => trivial⟩
    · cases h
  case rem =>
    cases hn : eqF n 0 <;> simp only [hn, cond_true, cond_false, Option.some.injEq] at h
    · subst h; rw [eqF_eq, beq_eq_false_iff_ne] at hn
      exact ⟨hn, rfl, fun _ => trivial⟩
    · cases h
  case shl =>
    cases hn : ltF n 0 <;> simp only [hn, cond_true, cond_false, Option.some.injEq] at h
    · subst h; rw [ltF_eq, ltb_f] at hn
      exact ⟨hn, by simp only [C.val, T.den, intVal, O2.fold_eq], fun _ => trivial⟩
    · cases h
  case shr =>
    cases hn : ltF n 0 <;> simp only [hn, cond_true, cond_false, Option.some.injEq] at h
    · subst h; rw [ltF_eq, ltb_f] at hn
      exact ⟨hn, by simp only [C.val, T.den, intVal, O2.fold_eq], fun _ => trivial⟩
    · cases h
  all_goals (rw [Option.some.injEq] at h; subst h; refine ⟨trivial, ?_, fun _ => trivial⟩)
  case add => simp only [C.val, T.den, intVal, wrapF_eq]; rfl
  case sub => simp only [C.val, T.den, intVal, wrapF_eq]; rfl
  case mul => simp only [C.val, T.den, intVal, wrapF_eq]; rfl
  case and => simp only [C.val, T.den, intVal, wrapF_eq, O2.den, bitsF_eq, BitVec.toNat_and]; rfl
  case or => simp only [C.val, T.den, intVal, wrapF_eq, O2.den, bitsF_eq, BitVec.toNat_or]; rfl
  case xor => simp only [C.val, T.den, intVal, wrapF_eq, O2.den, bitsF_eq, BitVec.toNat_xor]; rfl
  case andNot => simp only [C.val, T.den, intVal, O2.fold_eq]
  case eql => simp only [C.val, tbF_tr, intVal, eqF_eq]
  case neq => simp only [C.val, tbF_tr, intVal, eqF_eq]; rfl
  case lss => simp only [C.val, tbF_tr, intVal, ltF_eq]; rfl
  case leq => simp only [C.val, tbF_tr, intVal, ltF_eq, not_lt_le]
  case gtr => simp only [C.val, tbF_tr, intVal, ltF_eq]; rfl
  case geq => simp only [C.val, tbF_tr, intVal, ltF_eq, not_lt_le]
theorem tr_eq2 (E : Env) (s t : T) : (mk2 .eq s t).tr E = (s.den E == t.den E) := by simp only [T.tr, mk2_den, O2.den, tb_ne]
theorem tr_ne2 (E : Env) (s t : T) : (mkNot (mk2 .eq s t)).tr E = (s.den E != t.den E) := by simp only [T.tr, mkNot_den, mk2_den, O2.den, tb_ne, tb_eq0]; rfl
theorem tr_lt2 (E : Env) (s t : T) : (mk2 .lt s t).tr E = decide (s.den E < t.den E) := by simp only [T.tr, mk2_den, O2.den, tb_ne]; rfl
theorem tr_le2 (E : Env) (s t : T) : (mk2 .le s t).tr E = decide (s.den E ≤ t.den E) := by simp only [T.tr, mk2_den, O2.den, tb_ne]; rfl
theorem intSym_ok {E : Env} {ρ : Pt → Rb} {pc : Pc} (hp : pcOk E pc) {op : BinOp} {k : IntKind} {s t : T} {c : C} (h : intSym pc op k s t = some c) : intDef op (t.den E) ∧ c.val E ρ = intVal op k (s.den E) (t.den E) ∧ ∀ D, c.ok E ρ D := by
  cases op <;> simp only [intSym] at h
  case quo =>
    cases hn : sure pc (mkNot (mk2 .eq t (.lit 0))) <;> simp only [hn, cond_true, cond_false, Option.some.injEq] at h
    · cases h
    · subst h
      have := sure_ok hp hn
      rw [tr_ne2] at this
      exact ⟨by simpa [T.den, intDef] using this, by simp only [C.val, intVal, mkW_den hp, quoT_den hp], fun _ => trivial⟩
  case rem =>
    cases hn : sure pc (mkNot (mk2 .eq t (.lit 0))) <;> simp only [hn, cond_true, cond_false, Option.some.injEq] at h
    · cases h
    · subst h
      have := sure_ok hp hn
      rw [tr_ne2] at this
      exact ⟨by simpa [T.den, intDef] using this, by simp only [C.val, intVal, one_den hp, remT_den hp], fun _ => trivial⟩
  case shl =>
    cases hn : sure pc (mk2 .le (.lit 0) t) <;> simp only [hn, cond_true, cond_false, Option.some.injEq] at h
    · cases h
    · subst h
      have := sure_ok hp hn
      rw [tr_le2] at this
      exact ⟨(of_decide_eq_true this : (0 : Int) ≤ t.den E), by simp only [C.val, intVal, bitN_den hp, mk2_den], fun _ => trivial⟩
  case shr =>
    cases hn : sure pc (mk2 .le (.lit 0) t) <;> simp only [hn, cond_true, cond_false, Option.some.injEq] at h
    · cases h
    · subst h
      have := sure_ok hp hn
      rw [tr_le2] at this
      exact ⟨(of_decide_eq_true this : (0 : Int) ≤ t.den E), by simp only [C.val, intVal, bitN_den hp, mk2_den], fun _ => trivial⟩
  all_goals (rw [Option.some.injEq] at h; subst h; refine ⟨trivial, ?_, fun _ => trivial⟩)
  case add => simp only [C.val, intVal, mkW_den hp, mk2_den, O2.den]
  case sub => simp only [C.val, intVal, mkW_den hp, mk2_den, O2.den]
  case mul => simp only [C.val, intVal, mkW_den hp, mk2_den, O2.den]
  case and => simp only [C.val, intVal, bitN_den hp, mk2_den]
  case or => simp only [C.val, intVal, bitN_den hp, mk2_den]
  case xor => simp only [C.val, intVal, mk2_den]
  case andNot => simp only [C.val, intVal, bitN_den hp, mk2_den]
  case eql => simp only [C.val, norm_tr hp, eqN_tr, tr_eq2, intVal]
  case neq =>
    have e : (mkNot (eqN (mk2 .eq s t))).tr E = (s.den E != t.den E) := by simp only [T.tr, mkNot_den, eqN_den, mk2_den, O2.den, tb_ne, tb_eq0]; rfl
    simp only [C.val, norm_tr hp, e, intVal]
  case lss => simp only [C.val, norm_tr hp, tr_lt2, intVal]
  case leq => simp only [C.val, norm_tr hp, tr_le2, intVal]
  case gtr => simp only [C.val, norm_tr hp, tr_lt2, intVal]
  case geq => simp only [C.val, norm_tr hp, tr_le2, intVal]
theorem intO_ok {E : Env} {ρ : Pt → Rb} {pc : Pc} (hp : pcOk E pc) {op : BinOp} {k : IntKind} {s t : T} {c : C} (h : intO pc op k s t = some c) : intDef op (t.den E) ∧ c.val E ρ = intVal op k (s.den E) (t.den E) ∧ ∀ D, c.ok E ρ D := by
  unfold intO at h
  split at h
  · split at h
    · exact intLit_ok h
    · exact intSym_ok hp h
  · exact intSym_ok hp h
end
end Go.E3
namespace Go.E3
open Go.Sy
noncomputable section

/-! operands -/
def constC : Value → C
  | .int k n => .int k (.lit n)
  | .bool b => .bool (tbF b)
  | .pointer none => .nilp
  | .slice none 0 0 => .nils
  | .string b => .str (b.data.toList.map fun u => .lit (.ofNat u.toNat))
  | .nilFunc => .nilf
  | .map none => .nilm
  | .nilIface => .nili
  | .iface t (.int k n) => .ifc t false [.int k (.lit n)]
  | v => .raw v
theorem byteOf_toNat (u : UInt8) : byteOf (u.toNat : Nat) = u := by
  show UInt8.ofNat (Int.toNat (u.toNat : Nat)) = u
  rw [Int.toNat_natCast]; exact UInt8.ofNat_toNat
theorem constC_ok {v : Value} (h : v.oneCell' = true) (E : Env) (ρ : Pt → Rb) (D : Pt → Prop) : (constC v).ok E ρ D ∧ (constC v).val E ρ = v := by
  unfold constC
  split <;> try exact ⟨trivial, rfl⟩
  · exact ⟨trivial, by simp only [C.val, tbF_tr]⟩
  · rename_i b
    refine ⟨fun t ht => ?_, ?_⟩
    · obtain ⟨u, _, rfl⟩ := List.mem_map.1 ht
      have := u.toNat_lt
      simp only [T.den]
      exact ⟨Int.natCast_nonneg _, by have := u.toNat_lt; show ((u.toNat : Nat) : Int) ≤ 255; omega⟩
    · simp only [C.val, strOf, List.map_map]
      congr 1
      have : (List.map ((fun t => byteOf (T.den E t)) ∘ fun u : UInt8 => T.lit (Int.ofNat u.toNat)) b.data.toList) = b.data.toList := by
        rw [List.map_congr_left (g := id) fun u _ => by simp only [Function.comp, T.den]; exact byteOf_toNat u, List.map_id]
      rw [this]
  · exact ⟨⟨trivial, trivial⟩, rfl⟩
  · exact ⟨h, rfl⟩
def constL : Value → Option L
  | .agg cs => bif cs.toList.all (·.oneCell') then some (.a (.agg (cs.toList.map constC))) else none
  | .tuple _ => none
  | v => some (.a (.c (constC v)))
theorem constCs_ok {cs : Array Value} (h : cs.toList.all (·.oneCell') = true) (E : Env) (ρ : Pt → Rb) (D : Pt → Prop) : (∀ x ∈ cs.toList.map constC, x.ok E ρ D) ∧ ((cs.toList.map constC).map (C.val E ρ)).toArray = cs := by
  rw [List.all_eq_true] at h
  refine ⟨fun x hx => ?_, ?_⟩
  · obtain ⟨v, hv, rfl⟩ := List.mem_map.1 hx
    exact (constC_ok (h v hv) E ρ D).1
  · rw [List.map_map, List.map_congr_left (f := C.val E ρ ∘ constC) (g := id) fun v hv => (constC_ok (h v hv) E ρ D).2, List.map_id]
theorem constL_ok {v : Value} {l : L} (h : constL v = some l) (E : Env) (ρ : Pt → Rb) (D : Pt → Prop) : l.ok E ρ D ∧ l.val E ρ = v := by
  unfold constL at h
  split at h
  · rename_i cs
    cases hc : cs.toList.all (·.oneCell') <;> simp only [hc, cond_true, cond_false] at h
    · cases h
    · cases h
      obtain ⟨h1, h2⟩ := constCs_ok hc E ρ D
      exact ⟨h1, by simp only [L.val, A.val, h2]⟩
  · cases h
  · rename_i h1 h2
    cases h
    exact constC_ok (by cases v <;> first | rfl | exact (h1 _ rfl).elim | exact (h2 _ rfl).elim) E ρ D

/-- An operand as it lies there. -/
def raw (s : Tri L) (x : Operand) : Option L := Operand.rec (motive := fun _ => Option L) (fun t => s.get (path t)) (fun v => constL v) (fun g => some (.a (.c (.raw (.pointer (some ⟨g, 0, none⟩)))))) (fun f => some (.a (.c (.fn f [])))) x
def OpsR (E : Env) (ρ : Pt → Rb) (D : Pt → Prop) (s : Tri L) (ev : Operand → Value) (xs : List Operand) : Prop :=
  ∀ x ∈ xs, ∀ l, raw s x = some l → l.ok E ρ D ∧ ev x = l.val E ρ
theorem SR.ops {E : Env} {ρ : Pt → Rb} {D : Pt → Prop} {s : Tri L} {a : Act} (h : SR E ρ D s a.tmps) (xs : List Operand) : OpsR E ρ D s a.eval xs := by
  intro x _ l hl
  cases x with
  | tmp t =>
    obtain ⟨h1, h2⟩ := h t l hl
    exact ⟨h1, by simp [Act.eval, h2]⟩
  | const v => obtain ⟨h1, h2⟩ := constL_ok hl E ρ D; exact ⟨h1, h2.symm⟩
  | func f => cases hl; exact ⟨trivial, rfl⟩
  | global g => cases hl; exact ⟨rfl, rfl⟩
def opd (pc : Pc) (s : Tri L) (x : Operand) : Option A := match raw s x with
  | some (.a y) => some y
  | some (.gd c y) => bif sure pc c then some y else none
  | _ => none
def opC (pc : Pc) (s : Tri L) (x : Operand) : Option C := match raw s x with
  | some (.a (.c y)) => some y
  | some (.gd c (.c y)) => bif sure pc c then some y else none
  | _ => none
section
variable {E : Env} {ρ : Pt → Rb} {D : Pt → Prop} {pc : Pc} {s : Tri L} {ev : Operand → Value} {xs : List Operand}
theorem opd_ok (hp : pcOk E pc) (h : OpsR E ρ D s ev xs) {x : Operand} (hx : x ∈ xs) {y : A} (hy : opd pc s x = some y) : y.ok E ρ D ∧ ev x = y.val E ρ := by
  unfold opd at hy
  split at hy
  · rename_i z hz
    cases hy
    exact h x hx _ hz
  · rename_i c z hz
    cases hs : sure pc c <;> simp only [hs, cond_true, cond_false] at hy
    · cases hy
    · cases hy
      have ht := sure_ok hp hs
      obtain ⟨h1, h2⟩ := h x hx _ hz
      exact ⟨h1 ht, by rw [h2]; simp only [L.val, ht, if_true]⟩
  · cases hy
theorem opC_ok (hp : pcOk E pc) (h : OpsR E ρ D s ev xs) {x : Operand} (hx : x ∈ xs) {y : C} (hy : opC pc s x = some y) : y.ok E ρ D ∧ ev x = y.val E ρ := by
  have : opd pc s x = some (.c y) := by
    unfold opC at hy
    unfold opd
    split at hy
    · rename_i z hz; cases hy; rw [hz]
    · rename_i c z hz
      rw [hz]
      cases hs : sure pc c <;> simp only [hs, cond_true, cond_false] at hy ⊢
      · cases hy
      · cases hy; rfl
    · cases hy
  exact opd_ok hp h hx this
end

/-- An operation that only reckons. -/
def PureOk (P : Program) (pc : Pc) (o : Oper) (f : Tri L → Option L) : Prop :=
  ∀ s l, f s = some l → ∀ (E : Env) (ρ : Pt → Rb) (D : Pt → Prop) (ev : Operand → Value), pcOk E pc → OpsR E ρ D s ev o.op.operands.toList →
    (∀ w, (execOp ev o).run P w = .ok (.value (l.val E ρ)) w) ∧ l.ok E ρ D
/-- .. that reads. -/
def LoadOk (P : Program) (pc : Pc) (o : Oper) (f : Tri L → Tri B → Option L) : Prop :=
  ∀ s m l, f s m = some l → ∀ (E : Env) (ρ : Pt → Rb) (D : Pt → Prop) (ev : Operand → Value) (w : World), pcOk E pc → OpsR E ρ D s ev o.op.operands.toList → MR E ρ D m w →
    (execOp ev o).run P w = .ok (.value (l.val E ρ)) w ∧ l.ok E ρ D
theorem PureOk.load {P : Program} {pc : Pc} {o : Oper} {f : Tri L → Option L} (h : PureOk P pc o f) : LoadOk P pc o (fun s _ => f s) :=
  fun s _ l hl E ρ D ev w hp hs _ => ⟨(h s l hl E ρ D ev hp hs).1 w, (h s l hl E ρ D ev hp hs).2⟩
section
variable {P : Program} {pc : Pc} {o : Oper}
theorem move_ok {x : Operand} (ho : o.op = .move x ∨ o.op = .assign x) : PureOk P pc o (fun s => raw s x) := by
  intro s l hl E ρ D ev hp hs
  obtain ⟨h1, h2⟩ := hs x (by rcases ho with ho | ho <;> simp [ho, Op.operands]) l hl
  exact ⟨fun w => by rcases ho with ho | ho <;> simp [execOp, ho, h2], h1⟩

/-! one of two -/
def pickC (t : T) (x y : C) : Option C := match x, y with
  | .int k u, .int k' v => if k = k' then some (.int k (mkIte t u v)) else none
  | .bool u, .bool v => some (.bool (mkIte t u v))
  | .nilp, .nilp => some .nilp
  | .nils, .nils => some .nils
  | .ptr b o, .ptr b' o' => bif b.beq b' && Nat.beq o o' then some (.ptr b o) else none
  | .nili, .nili => some .nili
  | _, _ => none
theorem tr_ite (E : Env) (c a b : T) : (mkIte c a b).tr E = if c.tr E = true then a.tr E else b.tr E := by
  unfold T.tr
  rw [mkIte_den]
  by_cases h : c.den E = 0 <;> simp [h]
theorem den_ite (E : Env) (c a b : T) : (mkIte c a b).den E = if c.tr E = true then a.den E else b.den E := by
  rw [mkIte_den]
  unfold T.tr
  by_cases h : c.den E = 0 <;> simp [h]
theorem pickC_ok {E : Env} {ρ : Pt → Rb} {D : Pt → Prop} {t : T} {x y z : C} {u v : Value} (hz : pickC t x y = some z) (hx : t.tr E = true → x.ok E ρ D ∧ u = x.val E ρ) (hy : t.tr E = false → y.ok E ρ D ∧ v = y.val E ρ) :
    z.ok E ρ D ∧ (if t.tr E = true then u else v) = z.val E ρ := by
  unfold pickC at hz
  split at hz
  · split at hz
    · rename_i hk
      subst hk; cases hz
      refine ⟨trivial, ?_⟩
      simp only [C.val, den_ite]
      cases ht : t.tr E
      · simp [(hy ht).2, C.val]
      · simp [(hx ht).2, C.val]
    · cases hz
  · cases hz
    refine ⟨trivial, ?_⟩
    simp only [C.val, tr_ite]
    cases ht : t.tr E
    · simp [(hy ht).2, C.val]
    · simp [(hx ht).2, C.val]
  · cases hz
    refine ⟨trivial, ?_⟩
    cases ht : t.tr E
    · simp [(hy ht).2, C.val]
    · simp [(hx ht).2, C.val]
  · cases hz
    refine ⟨trivial, ?_⟩
    cases ht : t.tr E
    · simp [(hy ht).2, C.val]
    · simp [(hx ht).2, C.val]
  · rename_i b o b' o'
    cases hc : b.beq b' && Nat.beq o o' <;> simp only [hc, cond_true, cond_false] at hz
    · cases hz
    · cases hz
      rw [Bool.and_eq_true] at hc
      obtain rfl := Pt.beq_iff.1 hc.1
      obtain rfl := Nat.eq_of_beq_eq_true hc.2
      cases ht : t.tr E
      · exact ⟨(hy ht).1, by simp [(hy ht).2]⟩
      · exact ⟨(hx ht).1, by simp [(hx ht).2]⟩
  · cases hz
    refine ⟨trivial, ?_⟩
    cases ht : t.tr E
    · simp [(hy ht).2, C.val]
    · simp [(hx ht).2, C.val]
  · cases hz
def pickT (pc : Pc) (s : Tri L) (t : T) (x y : Operand) : Option L := match dec pc t with
  | some true => raw s x
  | some false => raw s y
  | none => match opC (addF t true pc) s x, opC (addF t false pc) s y with
    | some u, some v => match pickC t u v with
      | some (.bool z) => some (.a (.c (.bool (norm pc z))))
      | some z => some (.a (.c z))
      | none => none
    | _, _ => none
def evPick (pc : Pc) (c x y : Operand) (s : Tri L) : Option L := match opC pc s c with
  | some (.bool t) => match t with
    | .lit n => bif eqF n 0 then raw s y else raw s x
    | t => pickT pc s t x y
  | _ => none
theorem evPick_ok {c x y : Operand} (ho : o.op = .pick c x y) : PureOk P pc o (evPick pc c x y) := by
  intro s l hl E ρ D ev hp hs
  have mc : c ∈ o.op.operands.toList := by simp [ho, Op.operands]
  have mx : x ∈ o.op.operands.toList := by simp [ho, Op.operands]
  have my : y ∈ o.op.operands.toList := by simp [ho, Op.operands]
  unfold evPick at hl
  split at hl
  · rename_i t hc
    have hv : ev c = .bool (t.tr E) := (opC_ok hp hs mc hc).2
    have hrun : ∀ w, (execOp ev o).run P w = .ok (.value (if t.tr E = true then ev x else ev y)) w := by
      intro w; simp [execOp, ho, hv, asBool]
    have key : ∀ t : T, ev c = .bool (t.tr E) → (∀ w, (execOp ev o).run P w = .ok (.value (if t.tr E = true then ev x else ev y)) w) → pickT pc s t x y = some l → (∀ w, (execOp ev o).run P w = .ok (.value (l.val E ρ)) w) ∧ l.ok E ρ D := by
      intro t hv hrun hl
      unfold pickT at hl
      split at hl
      · rename_i hd
        have ht := dec_ok hp hd
        obtain ⟨h1, h2⟩ := hs x mx l hl
        exact ⟨fun w => by rw [hrun w, ht, if_pos rfl, h2], h1⟩
      · rename_i hd
        have ht := dec_ok hp hd
        obtain ⟨h1, h2⟩ := hs y my l hl
        exact ⟨fun w => by rw [hrun w, ht, if_neg (by simp), h2], h1⟩
      · split at hl
        · rename_i u v hu hv'
          have k2 : ∀ z, pickC t u v = some z → z.ok E ρ D ∧ (if t.tr E = true then ev x else ev y) = z.val E ρ := fun z hz =>
            pickC_ok hz (fun ht => opC_ok (pcOk_addF.2 ⟨ht, hp⟩) hs mx hu) (fun ht => opC_ok (pcOk_addF.2 ⟨ht, hp⟩) hs my hv')
          split at hl
          · rename_i z hz
            cases hl
            obtain ⟨_, h2⟩ := k2 _ hz
            exact ⟨fun w => by rw [hrun w, h2]; simp only [L.val, A.val, C.val, norm_tr hp], trivial⟩
          · rename_i z _ hz
            cases hl
            obtain ⟨h1, h2⟩ := k2 _ hz
            exact ⟨fun w => by rw [hrun w, h2]; rfl, h1⟩
          · cases hl
        · cases hl
    split at hl
    · rename_i n
      cases hn : eqF n 0 <;> simp only [hn, cond_true, cond_false] at hl
      · have ht : (T.lit n).tr E = true := by rw [eqF_eq] at hn; simp [T.tr, T.den, bne, hn]
        obtain ⟨h1, h2⟩ := hs x mx l hl
        exact ⟨fun w => by rw [hrun w, ht, if_pos rfl, h2], h1⟩
      · have ht : (T.lit n).tr E = false := by rw [eqF_eq] at hn; simp [T.tr, T.den, bne, hn]
        obtain ⟨h1, h2⟩ := hs y my l hl
        exact ⟨fun w => by rw [hrun w, ht, if_neg (by simp), h2], h1⟩
    · exact key t hv hrun hl
  · cases hl

/-! numbers, truths -/
def evNum (pc : Pc) (op : BinOp) (x y : Operand) (s : Tri L) : Option L := match opC pc s x with
  | some (.int k u) => match opC pc s y with
    | some (.int k' v) => bif (match op with | .shl => true | .shr => true | _ => decide (k = k')) then (match intO pc op k u v with
      | some c => some (.a (.c c))
      | none => none) else none
    | _ => none
  | _ => none
theorem evNum_ok {op : BinOp} {t yt : TypeId} {x y : Operand} (ho : o.op = .binOp op t x y yt) : PureOk P pc o (evNum pc op x y) := by
  intro s l hl E ρ D ev hp hs
  unfold evNum at hl
  split at hl
  · rename_i k u hx
    split at hl
    · rename_i k' v hy
      have hxv : ev x = .int k (u.den E) := (opC_ok hp hs (by simp [ho, Op.operands]) hx).2
      have hyv : ev y = .int k' (v.den E) := (opC_ok hp hs (by simp [ho, Op.operands]) hy).2
      cases hk : (match op with | .shl => true | .shr => true | _ => decide (k = k')) <;> simp only [hk, cond_true, cond_false] at hl
      · cases hl
      · have hk' : op = .shl ∨ op = .shr ∨ k = k' := by cases op <;> simp_all
        split at hl
        · rename_i c hc
          cases hl
          obtain ⟨h1, h2, h3⟩ := intO_ok (ρ := ρ) hp hc
          refine ⟨fun w => ?_, h3 D⟩
          have hg : (eqGuard op t x y (.int k (u.den E)) (.int k' (v.den E))).run P w = .ok () w := by
            cases op <;> simp [eqGuard]
          simp [execOp, ho, hxv, hyv, hg, intVal_run (P := P) hk' h1 t w, L.val, A.val, h2]
        · cases hl
    · cases hl
  · cases hl
def evUn (pc : Pc) (op : UnOp) (x : Operand) (s : Tri L) : Option L := match op, opC pc s x with
  | .not, some (.bool t) => some (.a (.c (.bool (norm pc (mkNot t)))))
  | .neg, some (.int k t) => some (.a (.c (.int k (mkW pc k (mk2 .sub (.lit 0) t)))))
  | .xor, some (.int k t) => some (.a (.c (.int k (mk2 (.bxor k) (.lit (bif ksig k then -1 else kmax k)) t))))
  | _, _ => none
theorem tr_mkNot (E : Env) (t : T) : (mkNot t).tr E = !(t.tr E) := by
  simp only [T.tr, mkNot_den, tb_ne]; cases h : t.den E == 0 <;> simp [bne, h]
theorem evUn_ok {op : UnOp} {t : TypeId} {x : Operand} (ho : o.op = .unOp op t x) : PureOk P pc o (evUn pc op x) := by
  intro s l hl E ρ D ev hp hs
  unfold evUn at hl
  split at hl
  · rename_i t' hx
    cases hl
    have hv : ev x = .bool (t'.tr E) := (opC_ok hp hs (by simp [ho, Op.operands]) hx).2
    exact ⟨fun w => by simp [execOp, ho, hv, Op.unary, L.val, A.val, C.val, norm_tr hp, tr_mkNot], trivial⟩
  · rename_i k t' hx
    cases hl
    have hv : ev x = .int k (t'.den E) := (opC_ok hp hs (by simp [ho, Op.operands]) hx).2
    refine ⟨fun w => ?_, trivial⟩
    have hu : (Op.unary .neg (.int k (t'.den E))).run P w = .ok (.int k (k.wrap (0 - t'.den E))) w := rfl
    simp only [execOp, ho, hv, Sem.run_bind, hu, L.val, A.val, C.val, mkW_den hp, mk2_den, O2.den, T.den]; rfl
  · rename_i k t' hx
    cases hl
    have hv : ev x = .int k (t'.den E) := (opC_ok hp hs (by simp [ho, Op.operands]) hx).2
    have e : (bif ksig k then -1 else kmax k) = (if k.signed then -1 else k.max) := by rw [kmax_eq]; cases k <;> rfl
    refine ⟨fun w => ?_, trivial⟩
    have hu : (Op.unary .xor (.int k (t'.den E))).run P w = .ok (.int k ((O2.bxor k).den (if k.signed then -1 else k.max) (t'.den E))) w := rfl
    simp only [execOp, ho, hv, Sem.run_bind, hu, L.val, A.val, C.val, mk2_den, T.den, e]; rfl
  · cases hl
/-- A number of another kind. -/
def cvF (pc : Pc) (k : IntKind) (t : T) : T := match t with
  | .lit n => .lit (wrapF k n)
  | t => cvT pc k t
theorem cvF_den {E : Env} {pc : Pc} (hp : pcOk E pc) (k : IntKind) (t : T) : (cvF pc k t).den E = k.wrap (t.den E) := by
  unfold cvF
  split
  · exact wrapF_eq _ _
  · exact cvT_den hp k t
def evConv (pc : Pc) (k : IntKind) (x : Operand) (s : Tri L) : Option L := match opC pc s x with
  | some (.int _ t) => some (.a (.c (.int k (cvF pc k t))))
  | _ => none
theorem evConv_ok {src dst : TypeId} {x : Operand} (ho : o.op = .convert src dst x) {d : TypeDesc} {k : IntKind} (h1 : P.underlying src = some d) (h2 : P.underlying dst = some (.int k)) : PureOk P pc o (evConv pc k x) := by
  intro s l hl E ρ D ev hp hs
  unfold evConv at hl
  split at hl
  · rename_i k' t hx
    cases hl
    have hv : ev x = .int k' (t.den E) := (opC_ok hp hs (by simp [ho, Op.operands]) hx).2
    exact ⟨fun w => by simp [execOp, ho, hv, convert, run_underlying h1, run_underlying h2, Conv.intToInt, L.val, A.val, C.val, cvF_den hp], trivial⟩
  · cases hl
def evExtract (i : Nat) (x : Operand) (s : Tri L) : Option L := match raw s x with
  | some (.tup xs) => match xs[i]? with
    | some y => some (.a y)
    | none => none
  | _ => none
theorem evExtract_ok {x : Operand} {i : Nat} (ho : o.op = .extract x i) : PureOk P pc o (evExtract i x) := by
  intro s l hl E ρ D ev hp hs
  unfold evExtract at hl
  split at hl
  · rename_i xs hx
    obtain ⟨h1, h2⟩ := hs x (by simp [ho, Op.operands]) _ hx
    split at hl
    · rename_i y hy
      cases hl
      refine ⟨fun w => ?_, h1 y (List.mem_of_getElem? hy)⟩
      simp [execOp, ho, h2, L.val, Instr.extract, hy]
    · cases hl
  · cases hl
def evNil (pc : Pc) (x : Operand) (s : Tri L) : Option L := match opC pc s x with
  | some (.ptr b o) => some (.a (.c (.ptr b o)))
  | _ => none
theorem evNil_ok {x : Operand} (ho : o.op = .nilCheck x) : PureOk P pc o (evNil pc x) := by
  intro s l hl E ρ D ev hp hs
  unfold evNil at hl
  split at hl
  · rename_i b o' hx
    cases hl
    obtain ⟨h1, h2⟩ := opC_ok hp hs (by simp [ho, Op.operands]) hx
    exact ⟨fun w => by simp [execOp, ho, h2, L.val, A.val, C.val], h1⟩
  · cases hl
end
end
end Go.E3
namespace Go.E3
open Go.Sy
noncomputable section

/-! types and functions looked up -/
def dropR {α : Type} (n : Nat) : List α → List α := Nat.rec (motive := fun _ => List α → List α) (fun xs => xs) (fun _ ih xs => List.casesOn xs [] (fun _ xs => ih xs)) n
theorem dropR_eq {α : Type} (n : Nat) : ∀ xs : List α, dropR n xs = xs.drop n := by
  induction n with
  | zero => intro xs; rfl
  | succ n ih => intro xs; cases xs with
    | nil => rfl
    | cons x xs => exact ih xs
def sufF {α : Type} (l : List α) (k : Nat) : List α := Nat.rec (motive := fun _ => List α) l (fun _ ih => dropR 32 ih) k
theorem sufF_eq {α : Type} (l : List α) (k : Nat) : sufF l k = l.drop (32 * k) := by
  induction k with
  | zero => rfl
  | succ k ih =>
    show dropR 32 (sufF l k) = _
    rw [dropR_eq, ih, List.drop_drop]; congr 1
def nthR {α : Type} (n : Nat) : List α → Option α := Nat.rec (motive := fun _ => List α → Option α) (fun xs => List.casesOn xs none (fun x _ => some x)) (fun _ ih xs => List.casesOn xs none (fun _ xs => ih xs)) n
theorem nthR_eq {α : Type} (n : Nat) : ∀ xs : List α, nthR n xs = xs[n]? := by
  induction n with
  | zero => intro xs; cases xs <;> rfl
  | succ n ih => intro xs; cases xs with
    | nil => rfl
    | cons x xs => exact ih xs
def getF {α : Type} (l : List α) (i : Nat) : Option α := nthR (Nat.land i 31) (sufF l (Nat.shiftRight i 5))
theorem getF_eq {α : Type} (l : List α) (i : Nat) : getF l i = l[i]? := by
  unfold getF
  rw [nthR_eq, sufF_eq, List.getElem?_drop]
  have h1 : Nat.land i 31 = i % 32 := Nat.and_two_pow_sub_one_eq_mod i 5
  have h2 : Nat.shiftRight i 5 = i / 32 := by show i >>> 5 = _; rw [Nat.shiftRight_eq_div_pow]
  rw [h1, h2, Nat.div_add_mod]
def infoF (P : Program) (t : TypeId) : Option TypeInfo := match getF P.types.toList t with
  | some i => some i
  | none => P.info? t
theorem infoF_eq (P : Program) (t : TypeId) : infoF P t = P.info? t := by
  unfold infoF
  rw [getF_eq, Array.getElem?_toList]
  split
  · rename_i i hi
    have hlt : t < P.types.size := by
      rcases Nat.lt_or_ge t P.types.size with h | h
      · exact h
      · rw [Array.getElem?_eq_none h] at hi; cases hi
    unfold Tables.info?
    rw [if_pos hlt, hi]
  · rfl
def undF (P : Program) (t : TypeId) : Option TypeDesc := match infoF P t with
  | some i => match i.desc with
    | .named _ u => match infoF P u with
      | some i => some i.desc
      | none => none
    | d => some d
  | none => none
theorem undF_eq (P : Program) (t : TypeId) : undF P t = P.underlying t := by
  unfold undF Program.underlying
  simp only [infoF_eq]
  cases h : P.info? t with
  | none => rfl
  | some i =>
    obtain ⟨d, _⟩ := i
    cases d <;> first | rfl | (rename_i u; simp only; cases P.info? u <;> rfl)
def funF (P : Program) (g : Nat) : Option Func := getF P.funcs.toList g
theorem funF_eq (P : Program) (g : Nat) : funF P g = P.funcs[g]? := by
  unfold funF
  rw [getF_eq, Array.getElem?_toList]
/-! blocks: reading, writing, making -/
theorem addr_add (g o k : Nat) : (⟨g, o, none⟩ : Addr).add k = ⟨g, o + k, none⟩ := by unfold Addr.add; split <;> simp_all
def isAggT (P : Program) (t : TypeId) : Option Bool := match undF P t with
  | some (.struct _) | some (.array _ _) => some true
  | some _ => some false
  | none => none
def sizeT (P : Program) (t : TypeId) : Option Nat := match infoF P t with
  | some i => some i.size
  | none => none
section
variable {P : Program}
theorem run_isAggT {t : TypeId} {b : Bool} (h : isAggT P t = some b) (w : World) : (isAgg t).run P w = .ok b w := by
  unfold isAggT at h
  rw [undF_eq] at h
  unfold isAgg
  split at h
  · rename_i hu; cases h; rw [Sem.run_bind, run_underlying hu w]; rfl
  · rename_i hu; cases h; rw [Sem.run_bind, run_underlying hu w]; rfl
  · rename_i d h1 h2 hu
    cases h; rw [Sem.run_bind, run_underlying hu w]
    cases d <;> first | rfl | (exact (h1 _ rfl).elim) | (exact (h2 _ _ rfl).elim)
  · cases h
theorem run_sizeT {t : TypeId} {n : Nat} (h : sizeT P t = some n) (w : World) : (sizeOf t).run P w = .ok n w := by
  unfold sizeT at h
  rw [infoF_eq] at h
  cases hi : P.info? t with
  | none => simp [hi] at h
  | some i =>
    simp [hi] at h
    simp [sizeOf, typeInfo, hi, h]
theorem run_loadVar_agg {w : World} {g o n : Nat} {t ty : TypeId} {cs : Array Value} {fr : Nat × Nat} (hg : w.heap[g]? = some (.cells cs ty fr)) (ha : isAggT P t = some true) (hs : sizeT P t = some n) (hn : o + n ≤ cs.size) :
    (loadVar t ⟨g, o, none⟩).run P w = .ok (.agg (cs.extract o (o + n))) w := by
  have hl := run_loadCells_list (P := P) w ⟨g, o, none⟩ ((cs.toList.drop o).take n) (fun j v hv => by
    rw [addr_add, cell_of_row w g (o + j) cs ty fr hg]
    rw [List.getElem?_take, List.getElem?_drop] at hv
    split at hv
    · simpa using hv
    · cases hv)
  have hlen : ((cs.toList.drop o).take n).length = n := by simp; omega
  rw [hlen] at hl
  have he : ((cs.toList.drop o).take n).toArray = cs.extract o (o + n) := by
    apply Array.ext'
    simp [Array.toList_extract, List.extract_eq_take_drop]
  rw [he] at hl
  simp [loadVar, run_isAggT ha, run_sizeT hs, hl]
theorem run_loadVar_cell {w : World} {g o : Nat} {t ty : TypeId} {cs : Array Value} {fr : Nat × Nat} {v : Value} (hg : w.heap[g]? = some (.cells cs ty fr)) (ha : isAggT P t = some false) (hv : cs[o]? = some v) :
    (loadVar t ⟨g, o, none⟩).run P w = .ok v w := by
  have hc : w.cell? ⟨g, o, none⟩ = some v := by rw [cell_of_row w g o cs ty fr hg]; exact hv
  simp [loadVar, run_isAggT ha, hc]
theorem run_storeVar_at {w : World} {g o n : Nat} {t ty : TypeId} {cs : Array Value} {v : Value} (hg : w.heap[g]? = some (.cells cs ty (0, 0))) (hs : sizeT P t = some n) (hn : v.cells.size = n) (hle : o + n ≤ cs.size)
    (h1 : ∀ x ∈ v.cells, x.oneCell' = true) :
    (storeVar t ⟨g, o, none⟩ v).run P w = .ok () (w.setRow g ((cs.toList.take o).toArray ++ v.cells ++ (cs.toList.drop (o + n)).toArray)) := by
  have := run_storeCells_at P g o ty v.cells.toList 0 cs w hg (by simp; omega) (fun x hx => h1 x (by simpa using hx))
  simp only [Nat.add_zero, Array.length_toList, hn] at this
  have e : (cs.toList.take o ++ v.cells.toList ++ cs.toList.drop (o + n)).toArray = (cs.toList.take o).toArray ++ v.cells ++ (cs.toList.drop (o + n)).toArray := by
    apply Array.ext'; simp
  rw [e] at this
  simp [storeVar, run_sizeT hs, hn, this]
end
/-- 'c' cells from 'o' on. -/
def rdCells (n : Nat) (d : List C) (t : Tri C) (c : Nat) : Nat → Option (List C) :=
  Nat.rec (motive := fun _ => Nat → Option (List C)) (fun _ => some []) (fun _ ih o => match cellAt n d t o with
    | some x => match ih (Nat.succ o) with
      | some xs => some (x :: xs)
      | none => none
    | none => none) c
theorem rdCells_ok {n : Nat} {d : List C} {t : Tri C} : ∀ {c o : Nat} {xs : List C}, rdCells n d t c o = some xs → xs.length = c ∧ ∀ i x, xs[i]? = some x → cellAt n d t (o + i) = some x := by
  intro c
  induction c with
  | zero => intro o xs h; cases h; exact ⟨rfl, fun i x hx => by simp at hx⟩
  | succ c ih =>
    intro o xs h
    change (match cellAt n d t o with
      | some x => match rdCells n d t c (Nat.succ o) with
        | some xs => some (x :: xs)
        | none => none
      | none => none) = some xs at h
    split at h
    · rename_i x hx
      split at h
      · rename_i ys hy
        cases h
        obtain ⟨h1, h2⟩ := ih hy
        refine ⟨by simp [h1], fun i y hi => ?_⟩
        cases i with
        | zero => simp at hi; subst hi; exact hx
        | succ i => simp at hi; have := h2 i y hi; rw [← this]; congr 1; omega
      · cases h
    · cases h
theorem cellAt_lt {n : Nat} {d : List C} {t : Tri C} {i : Nat} {x : C} (h : cellAt n d t i = some x) : i < n := by
  unfold cellAt at h
  cases hb : Nat.ble n i <;> simp only [hb, cond_true, cond_false] at h
  · rcases Nat.lt_or_ge i n with h1 | h1
    · exact h1
    · rw [ge_iff_le, ← Nat.ble_eq, hb] at h1; cases h1
  · cases h
/-- What is read is what lies there. -/
theorem rdCells_val {E : Env} {ρ : Pt → Rb} {D : Pt → Prop} {n : Nat} {d : List C} {t : Tri C} {cs : Array Value} (hc : ∀ i x, cellAt n d t i = some x → x.ok E ρ D ∧ cs[i]? = some (x.val E ρ)) {c o : Nat} {xs : List C} (hpos : 0 < c) (h : rdCells n d t c o = some xs) :
    o + c ≤ cs.size ∧ (∀ x ∈ xs, x.ok E ρ D) ∧ cs.extract o (o + c) = (xs.map (C.val E ρ)).toArray := by
  obtain ⟨h1, h2⟩ := rdCells_ok h
  have hle : o + c ≤ cs.size := by
    have hl : c - 1 < xs.length := by omega
    have := (hc _ _ (h2 (c - 1) xs[c - 1] (List.getElem?_eq_getElem hl))).2
    have := (Array.getElem?_eq_some_iff.1 this).1
    omega
  refine ⟨hle, fun x hx => ?_, ?_⟩
  · obtain ⟨i, hi⟩ := List.getElem?_of_mem hx
    exact (hc _ _ (h2 i x hi)).1
  · apply Array.ext_getElem?
    intro i
    rw [Array.getElem?_extract]
    by_cases hi : i < c
    · have hl : i < xs.length := by omega
      have := (hc _ _ (h2 i xs[i] (List.getElem?_eq_getElem hl))).2
      rw [if_pos (by omega), this]
      simp [hl]
    · rw [if_neg (by omega)]
      refine (Array.getElem?_eq_none ?_).symm
      simp only [List.size_toArray, List.length_map]; omega
/-- A block's cells, to be read. -/
def blkR (x : Option B) : Option (Nat × List C × Tri C) := match x with
  | some (.cells _ n _ d t) => some (n, d, t)
  | some (.ro n t) => some (n, [], t)
  | _ => none
theorem blkR_ok {E : Env} {ρ : Pt → Rb} {D : Pt → Prop} {m : Tri B} {w : World} (hm : MR E ρ D m w) {b : Pt} (hb : D b) {n : Nat} {d : List C} {t : Tri C} (h : blkR (m.get b) = some (n, d, t)) :
    ∃ cs ty fz, w.heap[(ρ b).g]? = some (.cells cs ty fz) ∧ ∀ i x, cellAt n d t i = some x → x.ok E ρ D ∧ cs[i]? = some (x.val E ρ) := by
  unfold blkR at h
  split at h
  · rename_i ty n' k d' t' hx
    cases h
    obtain ⟨cs, g1, g2, g3, g4, g5⟩ := hm.mem b _ hb hx
    exact ⟨cs, ty, _, g1, g5⟩
  · rename_i n' t' hx
    cases h
    obtain ⟨cs, ty, fz, g1, g5⟩ := hm.mem b _ hb hx
    exact ⟨cs, ty, fz, g1, g5⟩
  · cases h
/-- Cells to be read: a block's, a package variable's. -/
def srcR (m : Tri B) (c : C) : Option (Nat × List C × Tri C × Nat) := match c with
  | .ptr b o => match blkR (m.get b) with
    | some (n, d, t) => some (n, d, t, o)
    | none => none
  | .raw (.pointer (some a)) => match a.spot with
    | none => match gTab.get (path a.block) with
      | some (n, t) => some (n, [], t, a.off)
      | none => none
    | some _ => none
  | _ => none
theorem srcR_ok {E : Env} {ρ : Pt → Rb} {D : Pt → Prop} {m : Tri B} {w : World} (hm : MR E ρ D m w) {c : C} (hc : c.ok E ρ D) {n o : Nat} {d : List C} {t : Tri C} (h : srcR m c = some (n, d, t, o)) :
    ∃ g cs ty fz, c.val E ρ = .pointer (some ⟨g, o, none⟩) ∧ w.heap[g]? = some (.cells cs ty fz) ∧ ∀ i x, cellAt n d t i = some x → x.ok E ρ D ∧ cs[i]? = some (x.val E ρ) := by
  unfold srcR at h
  split at h
  · rename_i b o'
    split at h
    · rename_i n' d' t' hb
      cases h
      obtain ⟨cs, ty, fz, g1, g5⟩ := blkR_ok hm hc hb
      exact ⟨_, cs, ty, fz, rfl, g1, g5⟩
    · cases h
  · rename_i a
    split at h
    · rename_i hs
      split at h
      · rename_i n' t' hg
        cases h
        obtain ⟨cs, ty, fz, g1, g5⟩ := hm.gl.at_ _ _ _ hg
        refine ⟨a.block, cs, ty, fz, ?_, g1, fun i x hx => g5 i x hx E ρ D rfl⟩
        simp only [C.val]
        obtain ⟨g, o, s⟩ := a
        simp only at hs
        subst hs
        rfl
      · cases h
    · cases h
  · cases h
def evLoad (pc : Pc) (agg : Bool) (sz : Nat) (x : Operand) (s : Tri L) (m : Tri B) : Option L := match opC pc s x with
  | some c => match srcR m c with
    | some (n, d, t, o) => bif agg then (bif Nat.beq sz 0 then none else match rdCells n d t sz o with
        | some xs => some (.a (.agg xs))
        | none => none)
      else match cellAt n d t o with
        | some c => some (.a (.c c))
        | none => none
    | _ => none
  | _ => none
theorem evLoad_ok {P : Program} {pc : Pc} {o : Oper} {t : TypeId} {x : Operand} (ho : o.op = .load t x) {agg : Bool} (ha : isAggT P t = some agg) {sz : Nat} (hs : sizeT P t = some sz) : LoadOk P pc o (evLoad pc agg sz x) := by
  intro s m l hl E ρ D ev w hp hops hm
  unfold evLoad at hl
  split at hl
  · rename_i c0 hx
    obtain ⟨h1, h2⟩ := opC_ok hp hops (by simp [ho, Op.operands]) hx
    split at hl
    · rename_i n d t' o' hb
      obtain ⟨g, cs, ty, fz, g0, g1, g5⟩ := srcR_ok hm h1 hb
      rw [g0] at h2
      cases agg <;> simp only [cond_true, cond_false] at hl
      · split at hl
        · rename_i c hc
          cases hl
          obtain ⟨p1, p2⟩ := g5 _ _ hc
          exact ⟨by simp [execOp, ho, h2, Instr.loadAt, Instr.sureAddr, run_loadVar_cell g1 ha p2, L.val, A.val], p1⟩
        · cases hl
      · cases hz : Nat.beq sz 0 <;> simp only [hz, cond_true, cond_false] at hl
        · split at hl
          · rename_i xs hxs
            cases hl
            obtain ⟨p1, p2, p3⟩ := rdCells_val g5 (Nat.pos_of_ne_zero (Nat.ne_of_beq_eq_false hz)) hxs
            exact ⟨by simp [execOp, ho, h2, Instr.loadAt, Instr.sureAddr, run_loadVar_agg g1 ha hs p1, L.val, A.val, p3], p2⟩
          · cases hl
        · cases hl
    · cases hl
  · cases hl

/-! writing -/
/-- Cells put in, from 'o' on. -/
def putsK {β : Type} (xs : List C) : Tri C → Nat → (Tri C → β) → β :=
  List.rec (motive := fun _ => Tri C → Nat → (Tri C → β) → β) (fun t _ k => k t) (fun x _ ih t o k => t.putK (path o) (some x) fun t => ih t (Nat.succ o) k) xs
def puts : List C → Tri C → Nat → Tri C
  | [], t, _ => t
  | x :: xs, t, o => puts xs (t.put (path o) (some x)) (Nat.succ o)
theorem putsK_eq {β : Type} : ∀ (xs : List C) (t : Tri C) (o : Nat) (k : Tri C → β), putsK xs t o k = k (puts xs t o)
  | [], _, _, _ => rfl
  | x :: xs, t, o, k => (Tri.putK_eq (path o) (some x) t fun t => putsK xs t (Nat.succ o) k).trans (putsK_eq xs _ _ k)
theorem puts_get : ∀ (xs : List C) (t : Tri C) (o i : Nat), (puts xs t o).get (path i) = if o ≤ i ∧ i < o + xs.length then xs[i - o]? else t.get (path i)
  | [], t, o, i => by simp only [puts, List.length_nil]; rw [if_neg (by omega)]
  | x :: xs, t, o, i => by
    simp only [puts]
    rw [puts_get xs, Tri.get_put]
    by_cases h : o = i
    · subst h
      rw [if_neg (by omega), if_pos rfl, if_pos (by simp)]; simp
    · rw [if_neg (path_ne h)]
      by_cases h2 : Nat.succ o ≤ i ∧ i < Nat.succ o + xs.length
      · rw [if_pos h2, if_pos (by simp; omega)]
        have : i - o = (i - Nat.succ o) + 1 := by omega
        rw [this, List.getElem?_cons_succ]
      · rw [if_neg h2, if_neg (by simp; omega)]
theorem cellAt_puts {n : Nat} {d : List C} {t : Tri C} {xs : List C} {o i : Nat} {x : C} (h : cellAt n d (puts xs t o) i = some x) :
    (o ≤ i ∧ i < o + xs.length ∧ xs[i - o]? = some x) ∨ (¬ (o ≤ i ∧ i < o + xs.length) ∧ cellAt n d t i = some x) := by
  unfold cellAt at h ⊢
  cases hb : Nat.ble n i <;> simp only [hb, cond_true, cond_false] at h ⊢
  · rw [puts_get] at h
    by_cases hi : o ≤ i ∧ i < o + xs.length
    · left
      rw [if_pos hi] at h
      have hl : i - o < xs.length := by omega
      rw [List.getElem?_eq_getElem hl] at h ⊢
      exact ⟨hi.1, hi.2, h⟩
    · right
      rw [if_neg hi] at h
      exact ⟨hi, h⟩
  · cases h
/-- A block that turns. -/
theorem MR.set {E : Env} {ρ : Pt → Rb} {D : Pt → Prop} {m : Tri B} {w w' : World} (h : MR E ρ D m w) {b : Pt} {x0 x : B} (hb : D b) (h0 : m.get b = some x0) {ob : Obj}
    (hx : BR E ρ D (ρ b).z x (some ob)) (nx : Pt) (h1 : w'.heap[(ρ b).g]? = some ob) (h2 : ∀ k, k ≠ (ρ b).g → w'.heap[k]? = w.heap[k]?) (h3 : w.heap.size ≤ w'.heap.size) (h4 : w'.os = w.os) (h5 : w'.tape = w.tape) (h6 : w'.output = w.output) :
    Turn E ρ D m nx w ρ (m.put b (some x)) nx w' where
  le := Nat.le_refl _
  rb _ _ := rfl
  mr := by
    rw [un_self]
    refine ⟨h.gl.turn (fun k _ hk => h2 k fun e => hk b hb e.symm) fun b hb => .inl ⟨hb, rfl⟩, fun b' x' hb' hx' => ?_, fun b1 b2 x1 x2 d1 d2 g1 g2 hg => ?_⟩
    · rw [Tri.get_put] at hx'
      split at hx'
      · rename_i e
        subst e; cases hx'
        rw [h1]; exact hx
      · rename_i e
        have hne : (ρ b').g ≠ (ρ b).g := fun hc => e (h.inj b' b _ _ hb' hb hx' h0 hc).symm
        rw [h2 _ hne]
        exact h.mem b' x' hb' hx'
    · have fix : ∀ (c : Pt) (y : B), (m.put b (some x)).get c = some y → ∃ y', m.get c = some y' := fun c y hy => by
        rw [Tri.get_put] at hy
        split at hy
        · rename_i e; subst e; exact ⟨_, h0⟩
        · exact ⟨_, hy⟩
      obtain ⟨y1, e1⟩ := fix _ _ g1
      obtain ⟨y2, e2⟩ := fix _ _ g2
      exact h.inj _ _ _ _ d1 d2 e1 e2 hg
  off b' hb' _ := by
    have hne : b ≠ b' := fun e => hb' (by rw [← e]; exact hb)
    rw [Tri.get_put, if_neg hne]
  new b' hb' := (rg_self _ _ hb').elim
  os := h4
  tape := h5
  output := h6
  size := h3
  heap k hk hne := h2 k fun e => hne b hb e.symm
def upd (ρ : Pt → Rb) (b : Pt) (r : Rb) : Pt → Rb := fun p => if p = b then r else ρ p
theorem upd_same (ρ : Pt → Rb) (b : Pt) (r : Rb) : upd ρ b r b = r := if_pos rfl
theorem upd_ne (ρ : Pt → Rb) {b p : Pt} (r : Rb) (h : p ≠ b) : upd ρ b r p = ρ p := if_neg h
theorem rg_succ (b p : Pt) : Rg b b.succ p ↔ p = b := by
  unfold Rg
  rw [Pt.succ_num]
  exact ⟨fun h => Pt.num_inj (by omega), fun h => by subst h; omega⟩
/-- A new block. -/
theorem MR.alloc {E : Env} {ρ : Pt → Rb} {D : Pt → Prop} {m : Tri B} {w : World} (h : MR E ρ D m w) {b : Pt} {x : B} (hb : ¬ D b) {z : Nat} {ob : Obj}
    (hx : BR E (upd ρ b ⟨w.heap.size, z⟩) (Un D (Rg b b.succ)) z x (some ob)) : Turn E ρ D m b w (upd ρ b ⟨w.heap.size, z⟩) (m.put b (some x)) b.succ (w.alloc ob) where
  le := by rw [Pt.succ_num]; omega
  rb p hp := upd_ne _ _ fun e => hb (e ▸ hp)
  mr := by
    have g : Grow ρ D (upd ρ b ⟨w.heap.size, z⟩) (Un D (Rg b b.succ)) := ⟨fun p hp => upd_ne _ _ fun e => hb (e ▸ hp), fun _ => .inl⟩
    have old : ∀ p, Un D (Rg b b.succ) p → p ≠ b → D p := fun p hp hne => hp.elim id fun hp => (hne ((rg_succ _ _).1 hp)).elim
    refine ⟨h.gl.turn (fun k hk _ => by simp only [World.alloc, Array.getElem?_push, if_neg (Nat.ne_of_lt hk)]) (fun p hp => hp.elim (fun hp => .inl ⟨hp, congrArg Rb.g (upd_ne ρ ⟨w.heap.size, z⟩ fun e : p = b => hb (e ▸ hp))⟩) fun hp => .inr (.inl (by rw [(rg_succ _ _).1 hp, upd_same]; exact Nat.le_refl _))), fun p y hp hy => ?_, fun p q y y' hp hq hy hy' hg => ?_⟩
    · rw [Tri.get_put] at hy
      split at hy
      · rename_i e
        subst e; cases hy
        rw [upd_same]
        simp only [World.alloc, Array.getElem?_push_size]; exact hx
      · rename_i e
        have hD := old p hp fun h => e h.symm
        have h1 := h.mem p y hD hy
        have hlt := h1.lt
        rw [upd_ne _ _ fun h => e h.symm]
        simp only [World.alloc, Array.getElem?_push, if_neg (Nat.ne_of_lt hlt)]
        exact h1.grow g
    · rw [Tri.get_put] at hy hy'
      by_cases e1 : b = p
      · by_cases e2 : b = q
        · rw [← e1, ← e2]
        · rw [if_neg e2] at hy'
          have hD := old q hq fun h => e2 h.symm
          have hlt := (h.mem q y' hD hy').lt
          rw [← e1, upd_same, upd_ne _ _ fun h => e2 h.symm] at hg
          simp only at hg; omega
      · rw [if_neg e1] at hy
        have hDp := old p hp fun h => e1 h.symm
        have hlt := (h.mem p y hDp hy).lt
        by_cases e2 : b = q
        · rw [← e2, upd_same, upd_ne _ _ fun h => e1 h.symm] at hg
          simp only at hg; omega
        · rw [if_neg e2] at hy'
          have hDq := old q hq fun h => e2 h.symm
          rw [upd_ne _ _ fun h => e1 h.symm, upd_ne _ _ fun h => e2 h.symm] at hg
          exact h.inj p q y y' hDp hDq hy hy' hg
  off p hp hr := by
    have hne : b ≠ p := fun e => hr ((rg_succ _ _).2 e.symm)
    rw [Tri.get_put, if_neg hne]
  new p hp := by rw [(rg_succ _ _).1 hp, upd_same]; exact .inl (Nat.le_refl _)
  os := rfl
  tape := rfl
  output := rfl
  size := by rw [show (w.alloc ob).heap = w.heap.push ob from rfl]; simp
  heap k hk _ := by simp only [World.alloc, Array.getElem?_push, if_neg (Nat.ne_of_lt hk)]

/-- An operation that may write. What it tells: a value; or nothing ('undef', at no place that is looked at). -/
def EffOk (P : Program) (pc : Pc) (o : Oper) (f : Tri L → Tri B → Pt → Option (Option L × Tri B × Pt)) : Prop :=
  ∀ s m nx l m' nx', f s m nx = some (l, m', nx') → ∀ (E : Env) (ρ : Pt → Rb) (D : Pt → Prop) (ev : Operand → Value) (w : World), pcOk E pc → OpsR E ρ D s ev o.op.operands.toList → MR E ρ D m w → (∀ b, Rg nx nx' b → ¬ D b) →
    ∃ r w' ρ', (execOp ev o).run P w = .ok r w' ∧ Turn E ρ D m nx w ρ' m' nx' w' ∧ match l with
      | some l => r = .value (l.val E ρ') ∧ l.ok E ρ' (Un D (Rg nx nx'))
      | none => r = .skip
def cellsOf : A → List C
  | .c x => [x]
  | .agg xs => xs
theorem cellsOf_ok {E : Env} {ρ : Pt → Rb} {D : Pt → Prop} {x : A} (h : x.ok E ρ D) : (x.val E ρ).cells = ((cellsOf x).map (C.val E ρ)).toArray ∧ ∀ y ∈ cellsOf x, y.ok E ρ D := by
  cases x with
  | c x =>
    have := C.one (x := x) (E := E) (ρ := ρ) (D := D) h
    refine ⟨?_, fun y hy => by simp [cellsOf] at hy; subst hy; exact h⟩
    simp only [A.val, cellsOf, List.map_cons, List.map_nil]
    revert this
    cases x.val E ρ <;> intro this <;> first | rfl | cases this
  | agg xs => exact ⟨rfl, h⟩
theorem cells_one {E : Env} {ρ : Pt → Rb} {D : Pt → Prop} {xs : List C} (h : ∀ y ∈ xs, y.ok E ρ D) : ∀ v ∈ (xs.map (C.val E ρ)).toArray, v.oneCell' = true := by
  intro v hv
  simp only [List.mem_toArray, List.mem_map] at hv
  obtain ⟨y, hy, rfl⟩ := hv
  exact C.one (h y hy)
def evStore (pc : Pc) (sz : Nat) (x y : Operand) (s : Tri L) (m : Tri B) (nx : Pt) : Option (Option L × Tri B × Pt) := match opd pc s y with
  | some v => bif Nat.beq (cellsOf v).length sz then match opC pc s x with
    | some (.ptr b o) => match m.get b with
      | some (.cells ty n k d t) => bif Nat.ble (Nat.add o sz) n then putsK (cellsOf v) t o fun t => m.putK b (some (.cells ty n k d t)) fun m => some (none, m, nx) else none
      | _ => none
    | _ => none
    else none
  | none => none
theorem evStore_ok {P : Program} {pc : Pc} {o : Oper} {t : TypeId} {x y : Operand} (ho : o.op = .store t x y) {sz : Nat} (hs : sizeT P t = some sz) : EffOk P pc o (evStore pc sz x y) := by
  intro s m nx l m' nx' hf E ρ D ev w hp hops hm hfr
  unfold evStore at hf
  split at hf
  · rename_i v hv
    obtain ⟨v1, v2⟩ := opd_ok hp hops (by simp [ho, Op.operands]) hv
    obtain ⟨c1, c2⟩ := cellsOf_ok v1
    cases hl : Nat.beq (cellsOf v).length sz <;> simp only [hl, cond_true, cond_false] at hf
    · cases hf
    · have hl := Nat.eq_of_beq_eq_true hl
      split at hf
      · rename_i b o' hx
        obtain ⟨h1, h2⟩ := opC_ok hp hops (by simp [ho, Op.operands]) hx
        split at hf
        · rename_i ty n k d t' hb
          cases hle : Nat.ble (Nat.add o' sz) n <;> simp only [hle, cond_true, cond_false] at hf
          · cases hf
          · rw [putsK_eq, Tri.putK_eq] at hf
            cases hf
            rw [Nat.ble_eq] at hle
            change o' + sz ≤ n at hle
            obtain ⟨cs, g1, g2, g3, g4, g5⟩ := hm.mem b _ h1 hb
            have hcs : (ev y).cells.size = sz := by rw [v2, c1]; simpa using hl
            have hle' : o' + sz ≤ cs.size := by omega
            have hone : ∀ z ∈ (ev y).cells, z.oneCell' = true := by rw [v2, c1]; exact cells_one c2
            have hrun := run_storeVar_at (P := P) (t := t) g1 hs hcs hle' hone
            have hg' : (ρ b).g < w.heap.size := (Array.getElem?_eq_some_iff.1 g1).1
            generalize hA : (cs.toList.take o').toArray ++ (ev y).cells ++ (cs.toList.drop (o' + sz)).toArray = A at hrun
            refine ⟨.skip, w.setRow (ρ b).g A, ρ, by simp [execOp, ho, h2, C.val, Instr.storeAt, Instr.sureAddr, hrun], ?_, rfl⟩
            subst hA
            refine hm.set (x := .cells ty n k d (puts (cellsOf v) t' o')) (ob := .cells ((cs.toList.take o').toArray ++ (ev y).cells ++ (cs.toList.drop (o' + sz)).toArray) ty (0, 0)) h1 hb ⟨_, rfl, ?_, g3, g4, fun i z hz => ?_⟩ nx (setRow_heap w _ cs _ ty _ g1) (fun k hk => setRow_other w _ k _ hk) (by simp) rfl rfl rfl
            · simp only [Array.size_append, List.size_toArray, List.length_take, List.length_drop, Array.length_toList, hcs]; omega
            · rw [v2, c1]
              have hlt := cellAt_lt hz
              rcases cellAt_puts hz with ⟨z1, z2, z3⟩ | ⟨z1, z2⟩
              · refine ⟨c2 z (List.mem_of_getElem? z3), ?_⟩
                rw [Array.getElem?_append_left (by simp; omega), Array.getElem?_append_right (by simp; omega)]
                have : i - ((cs.toList.take o').toArray).size = i - o' := by simp; omega
                rw [this]
                simp [z3]
              · obtain ⟨p1, p2⟩ := g5 i z z2
                refine ⟨p1, ?_⟩
                by_cases hi : i < o'
                · rw [Array.getElem?_append_left (by simp; omega), Array.getElem?_append_left (by simp; omega)]
                  simp [hi, p2]
                · have hi2 : o' + sz ≤ i := by omega
                  rw [Array.getElem?_append_right (by simp; omega)]
                  have : i - ((cs.toList.take o').toArray ++ ((cellsOf v).map (C.val E ρ)).toArray).size = i - (o' + sz) := by simp; omega
                  rw [this]
                  simp only [List.getElem?_toArray, List.getElem?_drop, Array.getElem?_toList]
                  rw [← p2]; congr 1; omega
        · cases hf
      · cases hf
  · cases hf
end
end Go.E3
