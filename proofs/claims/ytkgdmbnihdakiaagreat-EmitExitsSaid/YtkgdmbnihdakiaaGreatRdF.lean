/- Calls of the program, each told by its own run. -/
import Derived.Test.YtkgdmbnihdakiaaGreatRdD
namespace Go.RvC
open Go Go.Sy Go.E3
theorem sgn_eq (p : Int) (_h0 : 0 ≤ p) (_h1 : p < 4294967296) : O2.den (.shr .i32) (IntKind.i32.wrap (O2.den (.shl .u32) p 20)) 20 = (if p % 4096 < 2048 then p % 4096 else p % 4096 - 4096) := by
  have e : (2 : Int) ^ (min (Int.toNat 20) IntKind.u32.bits) = 1048576 := rfl
  have e2 : (2 : Int) ^ (min (Int.toNat 20) IntKind.i32.bits) = 1048576 := rfl
  simp only [O2.den, e, e2]
  rw [Int.fdiv_eq_ediv_of_nonneg _ (by decide)]
  simp only [IntKind.wrap, IntKind.bits, IntKind.signed]
  simp
  split <;> split <;> omega
theorem band4095 (h : Int) : O2.den (.band .i32) h 4095 = h % 4096 := by
  have e1 : (BitVec.ofInt 32 h &&& BitVec.ofInt 32 4095).toNat = (h % 4294967296).toNat % 4096 := by
    rw [BitVec.toNat_and, BitVec.toNat_ofInt, BitVec.toNat_ofInt]
    exact Nat.and_two_pow_sub_one_eq_mod (h % 4294967296).toNat 12
  simp only [O2.den]
  show IntKind.i32.wrap ((BitVec.ofInt 32 h &&& BitVec.ofInt 32 4095).toNat : Nat) = _
  rw [e1, wrap_in .i32 _ (by simp [IntKind.min, IntKind.max, IntKind.bits, IntKind.signed]; omega)]
  omega
theorem place_range (E : Env) (c : Int) : 0 ≤ (pT c).den E ∧ (pT c).den E < 4294967296 := by
  have := wrap_range .u32 ((T.bin .add (.v 8 0 4294967295) (.lit c)).den E)
  simp [IntKind.min, IntKind.max, IntKind.bits, IntKind.signed] at this
  exact ⟨this.1, by have := this.2; show IntKind.u32.wrap _ < _; omega⟩
theorem sT_den (E : Env) (c : Int) : (sT c).den E = (if (pT c).den E % 4096 < 2048 then (pT c).den E % 4096 else (pT c).den E % 4096 - 4096) :=
  sgn_eq _ (place_range E c).1 (place_range E c).2
theorem eq_tr {E : Env} {a b : T} (h : a.den E = b.den E) : (T.bin .eq a b).tr E = true := by
  simp only [T.tr, T.den, O2.den, tb_ne, h]; exact beq_self_eq_true _
theorem u32w (s : Int) : IntKind.u32.wrap s = s % 4294967296 := by simp [IntKind.wrap, IntKind.bits, IntKind.signed]
theorem f1_ok (E : Env) (c : Int) : (f1 c).tr E = true := by
  have hs := sT_den E c
  have hp := place_range E c
  refine eq_tr ?_
  show O2.den (.shr .i32) (IntKind.i32.wrap (O2.den (.shl .u32) (IntKind.u32.wrap ((sT c).den E)) 20)) 20 = IntKind.i32.wrap ((sT c).den E)
  rw [u32w, sgn_eq _ (by omega) (by omega), wrap_in .i32 _ (by simp [IntKind.min, IntKind.max, IntKind.bits, IntKind.signed]; rw [hs]; split <;> omega), hs]
  split <;> split <;> omega
theorem f2_ok (E : Env) (c : Int) : (f2 c).tr E = true := by
  have hs := sT_den E c
  have hp := place_range E c
  refine eq_tr ?_
  show O2.den (.band .i32) (IntKind.i32.wrap ((pT c).den E - IntKind.u32.wrap ((sT c).den E))) 4095 = 0
  rw [band4095, u32w]
  simp only [IntKind.wrap, IntKind.bits, IntKind.signed]
  simp
  split <;> split at hs <;> omega
theorem pcN {E : Env} : pcOk E [] := fun _ h => nomatch h
/-- One of the ways. -/
theorem pcW_ok (E : Env) (c : Int) : ∃ q : Nat, q < 3 ∧ pcOk E (pcW q c) := by
  cases h4 : (f4 c).tr E
  · cases h3 : (f3 c).tr E
    · exact ⟨2, by decide, pcOk_cons.2 ⟨f1_ok E c, pcOk_cons.2 ⟨f2_ok E c, pcOk_cons.2 ⟨h3, pcOk_cons.2 ⟨h4, pcN⟩⟩⟩⟩⟩
    · exact ⟨1, by decide, pcOk_cons.2 ⟨f2_ok E c, pcOk_cons.2 ⟨h3, pcOk_cons.2 ⟨h4, pcN⟩⟩⟩⟩
  · exact ⟨0, by decide, pcOk_cons.2 ⟨f1_ok E c, pcOk_cons.2 ⟨h4, pcN⟩⟩⟩
theorem tmod_cases {a m : Int} (h0 : 0 ≤ a) (hm : 0 < m) : ∃ k : Nat, (k : Int) < m ∧ a.tmod m = k := by
  have h1 := Int.tmod_lt_of_pos a hm
  have h2 := Int.tmod_nonneg m h0
  exact ⟨(a.tmod m).toNat, by omega, by omega⟩
theorem mT6_ok {E : Env} {i : Nat} {n j a : Int} (ha : (E.x i).n = a) (r : 0 ≤ a ∧ a ≤ 255) (h : a.tmod n = j) : (mT6 i n j).tr E = true := by
  refine eq_tr ?_
  show (clamp 0 255 (E.x i).n).tmod n = j
  rw [ha, clamp_id r]; exact h
end Go.RvC
