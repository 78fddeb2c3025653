/- Calls of the program, each told by its own run. -/
import Derived.Test.YtkgdmbnihdakiaaGreatRdF
import Derived.Test.YtkgdmbnihdakiaaGreatRmD
import Derived.Test.YtkgdmbnihdakiaaGreatFl
namespace Go.RvC
open Go Go.Sy Go.E3
theorem nnT_den (E : Env) (t : T) : (nnT t).den E = tb (t.den E != 0) := by
  show tb (tb (tb (tb (t.den E == 0) == 0) == 0) == 0) = _
  rw [tb_eq0, tb_eq0, tb_eq0, Bool.not_not]
  rfl
theorem eq_ne {E : Env} {t u : T} (h : tb (t.den E != 0) = u.den E) : (T.bin .eq (nnT t) u).den E ≠ 0 := by
  show tb ((nnT t).den E == u.den E) ≠ 0
  rw [nnT_den, h, beq_self_eq_true]
  decide
theorem x_range (E : Env) (i : Nat) : 0 ≤ (xT i).den E ∧ (xT i).den E < 4294967296 := by
  have := wrap_range .u32 ((T.bin .add (.v i 0 4294967295) (.lit 1)).den E)
  simp [IntKind.min, IntKind.max, IntKind.bits, IntKind.signed] at this
  exact ⟨this.1, by have := this.2; show IntKind.u32.wrap _ < _; omega⟩
theorem zf_ne (E : Env) (i : Nat) : (zfT i).den E ≠ 0 := by
  have r := x_range E i
  refine eq_ne ?_
  show tb (tb (ltb ((xT i).den E) 1) != 0) = tb ((xT i).den E == 0)
  rw [tb_ne, ltb]
  exact congrArg tb (by rw [Bool.eq_iff_iff, decide_eq_true_eq, beq_iff_eq]; omega)
theorem clamp_u32 (n : Int) : 0 ≤ clamp 0 4294967295 n ∧ clamp 0 4294967295 n ≤ 4294967295 := by
  unfold clamp
  split
  · omega
  · split <;> omega
theorem clamp_range01 (n : Int) : 0 ≤ clamp 0 1 n ∧ clamp 0 1 n ≤ 1 := by
  unfold clamp
  split
  · omega
  · split <;> omega
theorem cf_ne (E : Env) (i : Nat) : (cfT i).den E ≠ 0 := by
  have r := x_range E i
  have hv : 0 ≤ (T.v i 0 4294967295).den E ∧ (T.v i 0 4294967295).den E ≤ 4294967295 := clamp_u32 _
  have hx : (xT i).den E = ((T.v i 0 4294967295).den E + 1) % 4294967296 := u32w _
  refine eq_ne ?_
  show tb (tb (ltb ((xT i).den E) ((T.v i 0 4294967295).den E)) != 0) = tb ((xT i).den E == 0)
  rw [tb_ne, ltb]
  exact congrArg tb (by rw [Bool.eq_iff_iff, decide_eq_true_eq, beq_iff_eq]; omega)
theorem sf_ne (E : Env) (i : Nat) : (sfT i).den E ≠ 0 := by
  have r := x_range E i
  have hs : O2.den (.shr .u32) ((xT i).den E) 31 = 0 ∨ O2.den (.shr .u32) ((xT i).den E) 31 = 1 := by
    have e2 : (2 : Int) ^ (min (Int.toNat 31) IntKind.u32.bits) = 2147483648 := rfl
    simp only [O2.den, e2]
    rw [Int.fdiv_eq_ediv_of_nonneg _ (by decide)]
    omega
  refine eq_ne ?_
  show tb (O2.den (.bor .u32) (O2.den (.bor .u32) (O2.den (.bor .u32) (IntKind.u8.wrap (O2.den (.shr .u32) ((xT i).den E) 31)) 0) 0) 0 != 0) = tb (O2.den (.shr .u32) ((xT i).den E) 31 == 1)
  rcases hs with h | h <;> rw [h] <;> decide
theorem bl_ne (E : Env) (i : Nat) : (blT i).den E ≠ 0 := by
  have hv : 0 ≤ (T.v i 0 1).den E ∧ (T.v i 0 1).den E ≤ 1 := clamp_range01 _
  refine eq_ne ?_
  have h : (T.v i 0 1).den E = 0 ∨ (T.v i 0 1).den E = 1 := by omega
  rcases h with h | h <;> rw [h] <;> rfl
theorem flT_den (E : Env) (n : Nat) : ((flT n).den E != 0) = true := by
  cases n with
  | zero =>
    have b := fun i => bne_iff_ne.2 (bl_ne E i)
    show (tb ((blT 9).den E != 0 && tb ((blT 10).den E != 0 && tb ((blT 11).den E != 0 && tb ((blT 12).den E != 0 && tb ((blT 13).den E != 0 && (blT 14).den E != 0) != 0) != 0) != 0) != 0) != 0) = true
    simp only [tb_ne, Bool.and_eq_true]
    exact ⟨b 9, b 10, b 11, b 12, b 13, b 14⟩
  | succ i =>
    show (tb (tb ((zfT i).den E != 0 && (cfT i).den E != 0) != 0 && (sfT i).den E != 0) != 0) = true
    rw [tb_ne, tb_ne, Bool.and_eq_true, Bool.and_eq_true]
    exact ⟨⟨bne_iff_ne.2 (zf_ne E i), bne_iff_ne.2 (cf_ne E i)⟩, bne_iff_ne.2 (sf_ne E i)⟩
theorem open_flat_array {H : Type} {enc : TypeId × Value → H} {P : Program} {w : World} {base b0 : Nat} {spare : Nat → Bool} {held : Bool} {r : Reach} {n m : Nat} {t e : TypeId} {ks : List K} {v : Value} {d : DataW H} {p : List MemPlace} (hs : P.underlying t = some (.array m e)) (h : flat P n t = some ks)
    (hv : Value.okWide P w r b0 t v) (hd : DataW.Trod enc P w base spare held t v d p) : ∃ cs : List Value, v = .agg cs.toArray ∧ KOk ks cs ∧ p = [] := by
  simp only [Value.okWide, hs] at hv
  obtain ⟨cs, rfl, _⟩ := hv
  obtain ⟨fuel, hf⟩ := hd
  obtain ⟨h1, h2⟩ := trod_flat h _ _ _ hf
  exact ⟨cs.toList, by simp, h2, h1⟩
end Go.RvC
